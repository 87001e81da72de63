/- Contracts of the functions of package wheel over the heap. Conditions: the wheel is one that its own functions made. -/
import Derived.Test.YtobbagjpngkpkaaFWheel
import Derived.Test.YtobbagjpngkpkaaVcLogic
namespace Go.Proofs.Vf
open Go Go.Proofs Go.VC

/-- a time's part at a level -/
def prt (t : Int) (k : Nat) : Nat := t.toNat / 16 ^ k % 16
theorem prt_lt (t : Int) (k : Nat) : prt t k < 16 := Nat.mod_lt _ (by omega)

theorem pow_le_16 {k : Nat} (h : k ≤ 15) : (16 : Nat) ^ k ≤ 1152921504606846976 := by
  have : (16 : Nat) ^ k ≤ 16 ^ 15 := Nat.pow_le_pow_right (by omega) h
  exact this

theorem wrap_mod16 (q : Nat) : bitsAnd .i64 (IntKind.i64.wrap (q : Int)) 15 = ((q % 16 : Nat) : Int) := by
  have h1 : (BitVec.ofInt 64 (IntKind.i64.wrap (q : Int))) = BitVec.ofNat 64 q := by
    apply BitVec.eq_of_toNat_eq
    simp only [BitVec.toNat_ofInt, BitVec.toNat_ofNat, IntKind.wrap, IntKind.bits, IntKind.signed]
    simp
    split <;> omega
  unfold bitsAnd
  have h2 : ((BitVec.ofInt IntKind.i64.bits (IntKind.i64.wrap (q : Int))) &&& (BitVec.ofInt IntKind.i64.bits 15)).toNat = q % 16 := by
    show ((BitVec.ofInt 64 (IntKind.i64.wrap (q : Int))) &&& (BitVec.ofInt 64 15)).toNat = q % 16
    rw [h1]
    simp only [BitVec.toNat_and, BitVec.toNat_ofNat, BitVec.toNat_ofInt]
    have e15 : ((15 : Int) % (((2 ^ 64 : Nat)) : Int)).toNat = 2 ^ 4 - 1 := by decide
    rw [e15, Nat.and_two_pow_sub_one_eq_mod]
    omega
  rw [h2]
  exact wrap_i64 ⟨by omega, by omega⟩

theorem part_spec (t lv : Int) (h : Heap) (ht : 0 ≤ t) (ht' : t < 18446744073709551616) (h0 : 0 ≤ lv) (h15 : lv ≤ 15) :
    CallsH PR fn_wheel_part #[.int .u64 t, .int .i64 lv] h (fun v h' => v = .int .i64 (prt t lv.toNat : Nat) ∧ h' = h) := by
  apply F_wheel_part_ok
  unfold F_wheel_part
  refine ⟨by omega, by omega, ?_, rfl⟩
  obtain ⟨n, rfl⟩ := Int.eq_ofNat_of_zero_le ht
  obtain ⟨k, rfl⟩ := Int.eq_ofNat_of_zero_le h0
  have hk : k ≤ 15 := by omega
  have e1 : (min (4 * (k : Int)).toNat IntKind.u64.bits) = 4 * k := by
    show min (4 * (k : Int)).toNat 64 = 4 * k
    omega
  rw [e1]
  have e2 : ((2 : Int) ^ (4 * k)) = ((16 ^ k : Nat) : Int) := by
    rw [Int.pow_mul]; simp
  rw [e2]
  have e3 : ((n : Int).fdiv ((16 ^ k : Nat) : Int)) = ((n / 16 ^ k : Nat) : Int) := by
    rw [Int.fdiv_eq_ediv_of_nonneg _ (Int.natCast_nonneg _)]; simp
  rw [e3]
  congr 1
  rw [wrap_mod16]
  simp [prt]

structure Spot where
  t : Int
  lv : Nat
  pl : Nat
def Spot.v (s : Spot) : Value := .agg #[.int .u64 s.t, .int .i64 s.lv, .int .i64 s.pl]
def Spot.ix (s : Spot) : Nat := s.lv * 16 + s.pl

abbrev ikey : Int → Value := Value.int .i64

structure WheelP (Own : Nat → Prop) (h : Heap) (wb : Nat) (S : Int → Option Spot) (now : Int) (rows : List (Option Nat)) (ma : Nat) (l : List (ME Int)) (c : Nat) : Prop where
  len : rows.length = 256
  blk : h[wb]? = some (.cells ((rows.map Value.map) ++ [Value.map (some ma), Value.int .u64 now]).toArray ty_wheel_Wheel (0, 0))
  all : h[ma]? = some (mobj ikey l c)
  ok : mapOk l c
  spots : ∀ id, mlook l id = (S id).map Spot.v
  rng : ∀ id s, S id = some s → s.lv < 16 ∧ s.pl < 16 ∧ 0 ≤ s.t ∧ s.t < 4611686018427387904
  ids : ∀ id s, S id = some s → 0 ≤ id ∧ id < 1000
  row : ∀ (i r : Nat), rows[i]? = some (some r) → ∃ lr cr, h[r]? = some (mobj ikey lr cr) ∧ mapOk lr cr ∧
    ∀ k, (mlook lr k = some (.bool true) ∧ ∃ s, S k = some s ∧ s.ix = i) ∨ (mlook lr k = none ∧ ∀ s, S k = some s → s.ix ≠ i)
  has : ∀ id s, S id = some s → ∃ r, rows[s.ix]? = some (some r)
  inj : ∀ (i j r : Nat), rows[i]? = some (some r) → rows[j]? = some (some r) → i = j
  nma : ∀ (i : Nat), rows[i]? ≠ some (some ma)
  own : Own wb ∧ Own ma ∧ ∀ (i r : Nat), rows[i]? = some (some r) → Own r
  bnd : ∀ x, Own x → x < h.size
  nowr : 0 ≤ now ∧ now < 4611686018427387904

def WheelS (Own : Nat → Prop) (h : Heap) (wb : Nat) (S : Int → Option Spot) (now : Int) : Prop :=
  ∃ rows ma l c, WheelP Own h wb S now rows ma l c

theorem WheelP.mono {Own Own' : Nat → Prop} {h : Heap} {wb : Nat} {S : Int → Option Spot} {now : Int} {rows ma l c} (W : WheelP Own h wb S now rows ma l c) (ho : ∀ x, Own x → Own' x) (hb : ∀ x, Own' x → x < h.size) : WheelP Own' h wb S now rows ma l c :=
  { W with own := ⟨ho _ W.own.1, ho _ W.own.2.1, fun i r hr => ho _ (W.own.2.2 i r hr)⟩, bnd := hb }
theorem WheelS.mono {Own Own' : Nat → Prop} {h : Heap} {wb : Nat} {S : Int → Option Spot} {now : Int} (W : WheelS Own h wb S now) (ho : ∀ x, Own x → Own' x) (hb : ∀ x, Own' x → x < h.size) : WheelS Own' h wb S now := by
  obtain ⟨rows, ma, l, c, W⟩ := W; exact ⟨rows, ma, l, c, W.mono ho hb⟩
theorem WheelS.bnd {Own : Nat → Prop} {h : Heap} {wb : Nat} {S : Int → Option Spot} {now : Int} (W : WheelS Own h wb S now) : ∀ x, Own x → x < h.size := by
  obtain ⟨rows, ma, l, c, W⟩ := W; exact W.bnd

theorem WheelP.keep {Own : Nat → Prop} {h h' : Heap} {wb : Nat} {S : Int → Option Spot} {now : Int} {rows ma l c} (W : WheelP Own h wb S now rows ma l c) (hz : h.size ≤ h'.size) (hk : ∀ x, x < h.size → Own x → h'[x]? = h[x]?) : WheelP Own h' wb S now rows ma l c :=
  { W with
    blk := by rw [hk _ (lt_of_get W.blk) W.own.1]; exact W.blk
    all := by rw [hk _ (lt_of_get W.all) W.own.2.1]; exact W.all
    bnd := fun x hx => Nat.lt_of_lt_of_le (W.bnd x hx) hz
    row := fun i r hr => by
      obtain ⟨lr, cr, hb, h2⟩ := W.row i r hr
      exact ⟨lr, cr, by rw [hk _ (lt_of_get hb) (W.own.2.2 i r hr)]; exact hb, h2⟩ }
theorem WheelS.keep {Own : Nat → Prop} {h h' : Heap} {wb : Nat} {S : Int → Option Spot} {now : Int} (W : WheelS Own h wb S now) (hz : h.size ≤ h'.size) (hk : ∀ x, x < h.size → Own x → h'[x]? = h[x]?) : WheelS Own h' wb S now := by
  obtain ⟨rows, ma, l, c, W⟩ := W; exact ⟨rows, ma, l, c, W.keep hz hk⟩
theorem WheelS.ext {Own : Nat → Prop} {h h' : Heap} {wb : Nat} {S : Int → Option Spot} {now : Int} (W : WheelS Own h wb S now) (e : Ext h h') : WheelS Own h' wb S now := W.keep e.1 fun x hx _ => e.2 x hx
theorem WheelS.ch {Own F : Nat → Prop} {h h' : Heap} {wb : Nat} {S : Int → Option Spot} {now : Int} (W : WheelS Own h wb S now) (e : Ch F h h') (hf : ∀ x, Own x → ¬ F x) : WheelS Own h' wb S now := W.keep e.1 fun x hx ho => e.2 x hx (hf x ho)

section
variable {Own : Nat → Prop} {h : Heap} {wb : Nat} {S : Int → Option Spot} {now : Int} {rows : List (Option Nat)} {ma : Nat} {l : List (ME Int)} {c : Nat}
theorem WheelP.cell_now (W : WheelP Own h wb S now rows ma l c) : cellH h wb (0 + 257) = some (.int .u64 now) :=
  cell_lst W.blk (by rw [List.getElem?_append_right (by simp [W.len])]; simp [W.len])
theorem WheelP.cell_all (W : WheelP Own h wb S now rows ma l c) : cellH h wb (0 + 256) = some (.map (some ma)) :=
  cell_lst W.blk (by rw [List.getElem?_append_right (by simp [W.len])]; simp [W.len])
theorem WheelP.cell_row (W : WheelP Own h wb S now rows ma l c) {i : Nat} {o : Option Nat} (hi : rows[i]? = some o) : cellH h wb i = some (.map o) := by
  refine cell_lst W.blk ?_
  have hlt : i < rows.length := (List.getElem?_eq_some_iff.1 hi).1
  rw [List.getElem?_append_left (by simpa using hlt), List.getElem?_map, hi]; rfl
theorem WheelP.row_at (W : WheelP Own h wb S now rows ma l c) {i : Nat} (hi : i < 256) : ∃ o, rows[i]? = some o :=
  ⟨rows[i]'(by rw [W.len]; exact hi), List.getElem?_eq_getElem _⟩
end

theorem now_spec {Own : Nat → Prop} {h : Heap} {wb : Nat} {S : Int → Option Spot} {now : Int} (W : WheelS Own h wb S now) :
    CallsH PR fn_wheel_Wheel_Now #[.pointer (some ⟨wb, 0, none⟩)] h (fun v h' => v = .int .u64 now ∧ h' = h) := by
  obtain ⟨rows, ma, l, c, W⟩ := W
  apply F_wheel_Wheel_Now_ok
  unfold F_wheel_Wheel_Now
  exact ⟨_, _, rfl, _, W.cell_now, rfl, rfl⟩

/-- the level of a time, by now: the highest part in which they differ -/
def lvlTo (t now : Int) : Nat → Nat
  | 0 => 0
  | k + 1 => if prt t k ≠ prt now k then k else lvlTo t now k
def lvl (t now : Int) : Nat := lvlTo t now 16
theorem lvlTo_lt (t now : Int) : ∀ n, 0 < n → lvlTo t now n < n
  | 1, _ => by simp [lvlTo]
  | n + 2, _ => by
    simp only [lvlTo]
    split
    · omega
    · have := lvlTo_lt t now (n + 1) (by omega); simp only [lvlTo] at this; omega
theorem lvl_lt (t now : Int) : lvl t now < 16 := lvlTo_lt t now 16 (by omega)
def spotOf (t now : Int) : Spot := ⟨t, lvl t now, prt t (lvl t now)⟩

def upd {α : Type} (S : Int → Option α) (id : Int) (v : Option α) (k : Int) : Option α := if k = id then v else S k
theorem upd_same {α : Type} (S : Int → Option α) (id : Int) (v : Option α) : upd S id v id = v := by simp [upd]
theorem upd_other {α : Type} (S : Int → Option α) {id k : Int} (v : Option α) (h : k ≠ id) : upd S id v k = S k := by simp [upd, h]

end Go.Proofs.Vf
