/- Contracts of the functions of package wheel over the heap. Conditions: the wheel is one that its own functions made. -/
import Derived.Test.YtobbagjpngkpkaaWC
namespace Go.Proofs.Vf
open Go Go.Proofs Go.VC

/-! the digits of times -/
theorem div_succ (n k : Nat) : n / 16 ^ (k + 1) = n / 16 ^ k / 16 := by rw [Nat.pow_succ, Nat.div_div_eq_div_mul]
theorem div_le_pow {a b : Nat} {k j : Nat} (h : a / 16 ^ k = b / 16 ^ k) (hj : k ≤ j) : a / 16 ^ j = b / 16 ^ j := by
  obtain ⟨d, rfl⟩ := Nat.exists_eq_add_of_le hj
  rw [Nat.pow_add, ← Nat.div_div_eq_div_mul, ← Nat.div_div_eq_div_mul, h]
theorem lt_of_div {a b c : Nat} (h : a / c < b / c) : a < b := by
  apply Nat.lt_of_not_le
  intro hle
  have := Nat.div_le_div_right (c := c) hle
  omega

theorem lvlTo_top (t now : Int) : ∀ n, t.toNat / 16 ^ n = now.toNat / 16 ^ n → t.toNat ≠ now.toNat →
    t.toNat / 16 ^ (lvlTo t now n + 1) = now.toNat / 16 ^ (lvlTo t now n + 1) ∧ prt t (lvlTo t now n) ≠ prt now (lvlTo t now n)
  | 0, h, hn => by simp at h; exact absurd h hn
  | n + 1, h, hn => by
    simp only [lvlTo]
    split
    · rename_i hd; exact ⟨h, hd⟩
    · rename_i hd
      have hd : prt t n = prt now n := by simpa using hd
      refine lvlTo_top t now n ?_ hn
      rw [div_succ, div_succ] at h
      unfold prt at hd
      omega

structure After (t now : Int) : Prop where
  up : t.toNat / 16 ^ (lvl t now + 1) = now.toNat / 16 ^ (lvl t now + 1)
  gt : prt now (lvl t now) < prt t (lvl t now)
  at_ : now.toNat / 16 ^ lvl t now < t.toNat / 16 ^ lvl t now

theorem small_pow {t : Int} (h : t < 4611686018427387904) : t.toNat / 16 ^ 16 = 0 := by
  apply Nat.div_eq_of_lt
  have : (16 : Nat) ^ 16 = 18446744073709551616 := by decide
  omega

theorem after {t now : Int} (h0 : 0 ≤ now) (hlt : now < t) (h1 : t < 4611686018427387904) : After t now := by
  obtain ⟨a, b⟩ := lvlTo_top t now 16 (by rw [small_pow h1, small_pow (by omega)]) (by omega)
  change t.toNat / 16 ^ (lvl t now + 1) = now.toNat / 16 ^ (lvl t now + 1) at a
  change prt t (lvl t now) ≠ prt now (lvl t now) at b
  have hle : now.toNat / 16 ^ lvl t now ≤ t.toNat / 16 ^ lvl t now := Nat.div_le_div_right (by omega)
  have a' := a
  rw [div_succ, div_succ] at a'
  unfold prt at b
  refine ⟨a, ?_, ?_⟩ <;> (try unfold prt) <;> omega

/-- the order of the places is that of the times -/
theorem lvl_order {a b now : Int} (h0 : 0 ≤ now) (ha : now < a) (hb : now < b) (ha1 : a < 4611686018427387904) (hb1 : b < 4611686018427387904)
    (h : lvl a now < lvl b now ∨ (lvl a now = lvl b now ∧ prt a (lvl a now) < prt b (lvl b now))) : a < b := by
  have A := after h0 ha ha1
  have B := after h0 hb hb1
  have : a.toNat < b.toNat := by
    rcases h with h | ⟨e, h⟩
    · have := div_le_pow A.up (show lvl a now + 1 ≤ lvl b now from h)
      have hB := B.at_
      exact lt_of_div (c := 16 ^ lvl b now) (by omega)
    · have hA := A.up
      have hB := B.up
      rw [e] at hA h
      rw [div_succ] at hA hB
      rw [div_succ] at hA hB
      unfold prt at h
      exact lt_of_div (c := 16 ^ lvl b now) (by omega)
  omega

def Good (S : Int → Option Spot) (now : Int) : Prop := ∀ id s, S id = some s → now < s.t ∧ s = spotOf s.t now
def IsMin (S : Int → Option Spot) (t : Int) : Prop := (∃ id s, S id = some s ∧ s.t = t) ∧ ∀ id s, S id = some s → t ≤ s.t

section
variable {Own : Nat → Prop} {h : Heap} {wb : Nat} {S : Int → Option Spot} {now : Int} {rows : List (Option Nat)} {ma : Nat} {l : List (ME Int)} {c : Nat}

/-- a row's map, as far as a reader cares -/
theorem WheelP.rowMap (W : WheelP Own h wb S now rows ma l c) {i : Nat} (hi : i < 256) : ∃ o lr cr, rows[i]? = some o ∧ mapAt ikey h o lr cr ∧ mapOk lr cr ∧ (o = none → lr = []) ∧
    ∀ k, (mlook lr k = some (.bool true) ∧ ∃ s, S k = some s ∧ s.ix = i) ∨ (mlook lr k = none ∧ ∀ s, S k = some s → s.ix ≠ i) := by
  obtain ⟨o, ho⟩ := W.row_at hi
  cases o with
  | some r =>
    obtain ⟨lr, cr, g1, g2, g3⟩ := W.row i r ho
    exact ⟨_, lr, cr, ho, g1, g2, fun e => (by cases e), g3⟩
  | none =>
    refine ⟨none, [], 0, ho, rfl, mapOk_nil _ _, fun _ => rfl, fun k => Or.inr ⟨rfl, fun s hs hx => ?_⟩⟩
    obtain ⟨r, hr⟩ := W.has k s hs
    rw [hx, ho] at hr; cases hr

theorem Spot.ix_inj {s s' : Spot} (h : s.pl < 16) (h' : s'.pl < 16) (e : s.ix = s'.ix) : s.lv = s'.lv ∧ s.pl = s'.pl := by
  simp only [Spot.ix] at e; omega

theorem first_spec (W : WheelS Own h wb S now) (hg : Good S now) :
    CallsH PR fn_wheel_Wheel_first #[.pointer (some ⟨wb, 0, none⟩)] h
      (fun v h' => ∃ t b, v = .tuple #[.int .u64 t, .bool b] ∧ Ext h h' ∧ (b = true → IsMin S t) ∧ (b = false → ∀ id, S id = none)) := by
  obtain ⟨rows, ma, l, c, W⟩ := W
  have hnow := W.nowr
  apply F_wheel_Wheel_first_ok
  unfold F_wheel_Wheel_first
  refine ⟨fun x h' => h' = h ∧ 0 ≤ x ∧ x ≤ 16 ∧ ∀ id s, S id = some s → x ≤ s.lv, fun x _ => (16 - x).toNat, ⟨rfl, by omega, by omega, fun _ _ _ => by omega⟩, ?_⟩
  rintro x h' ⟨rfl, hx0, hx1, hx⟩
  refine ⟨fun hlt => ?_, fun hge => ?_⟩
  · refine ⟨_, _, rfl, _, W.cell_now, ?_⟩
    refine (part_spec now x _ hnow.1 (by omega) (by omega) (by omega)).mono ?_
    rintro _ h2 ⟨rfl, rfl⟩
    have hpl := prt_lt now x.toNat
    refine ⟨_, rfl, fun y h3 => h3 = h2 ∧ 0 ≤ y ∧ y ≤ 16 ∧ ∀ id s, S id = some s → (s.lv : Int) = x → y ≤ s.pl, fun y _ => (16 - y).toNat, ⟨rfl, by omega, by omega, ?_⟩, ?_⟩
    · intro id s hs he
      obtain ⟨q1, q2⟩ := hg id s hs
      obtain ⟨r1, r2, r3, r4⟩ := W.rng id s hs
      have A := (after hnow.1 q1 r4).gt
      have e1 : lvl s.t now = s.lv := by rw [q2]; rfl
      have e2 : prt s.t s.lv = s.pl := by rw [q2]; rfl
      rw [e1, e2] at A
      have : x.toNat = s.lv := by omega
      rw [this]; omega
    rintro y h3 ⟨rfl, hy0, hy1, hy⟩
    refine ⟨fun hylt => ?_, fun hyge => ?_⟩
    · have hix : x.toNat * 16 + y.toNat < 256 := by omega
      obtain ⟨o, lr, cr, ho, hm, hok, hnil, hrow⟩ := W.rowMap hix
      have hc : cellH h3 wb (0 + x.toNat * 16 + y.toNat * 1) = some (.map o) := by
        have := W.cell_row ho
        have e : 0 + x.toNat * 16 + y.toNat * 1 = x.toNat * 16 + y.toNat := by omega
        rw [e]; exact this
      refine ⟨⟨by omega, by omega⟩, ⟨by omega, by omega⟩, o, hc, lr, cr, hm, fun hz => ?_, fun hnz => ?_⟩
      · refine ⟨⟨by omega, by omega⟩, ⟨rfl, by omega, by omega, ?_⟩, by dsimp only; omega⟩
        intro id s hs he
        have h1 := hy id s hs he
        have : ¬ (s.pl : Int) = y := by
          intro e
          rcases hrow id with ⟨g, _⟩ | ⟨_, g⟩
          · have : lr = [] := by
              cases lr with
              | nil => rfl
              | cons a b => simp at hz; omega
            rw [this] at g; simp [mlook_nil] at g
          · exact g s hs (by simp only [Spot.ix]; omega)
        omega
      · refine ⟨⟨by omega, by omega⟩, ⟨by omega, by omega⟩, o, hc, lr, cr, hm, ?_⟩
        rintro h4 ⟨k1, k2, k3⟩
        have hmem : ∀ e ∈ lr, e.val = .bool true ∧ ∃ s, S e.key = some s ∧ s.ix = x.toNat * 16 + y.toNat := by
          intro e he
          have := mem_mlook hok he
          rcases hrow e.key with ⟨g, g'⟩ | ⟨g, _⟩
          · rw [this] at g; exact ⟨Option.some.inj g, g'⟩
          · rw [this] at g; cases g
        have hmin : ∀ id s, S id = some s → ∀ id' s', S id' = some s' → s'.ix = x.toNat * 16 + y.toNat → s.ix ≠ x.toNat * 16 + y.toNat → s'.t ≤ s.t := by
          intro id s hs id' s' hs' e' ne
          obtain ⟨q1, q2⟩ := hg id s hs
          obtain ⟨r1, r2, r3, r4⟩ := W.rng id s hs
          obtain ⟨q1', q2'⟩ := hg id' s' hs'
          obtain ⟨r1', r2', r3', r4'⟩ := W.rng id' s' hs'
          have e1 : lvl s.t now = s.lv := by rw [q2]; rfl
          have e2 : prt s.t s.lv = s.pl := by rw [q2]; rfl
          have e1' : lvl s'.t now = s'.lv := by rw [q2']; rfl
          have e2' : prt s'.t s'.lv = s'.pl := by rw [q2']; rfl
          have a1 := hx id s hs
          have a2 := hy id s hs
          simp only [Spot.ix] at e' ne
          have b1 : s'.lv = x.toNat := by omega
          have b2 : s'.pl = y.toNat := by omega
          refine Int.le_of_lt (lvl_order hnow.1 q1' q1 r4' r4 ?_)
          rw [e1, e2, e1', e2']
          by_cases hc : s'.lv < s.lv
          · exact Or.inl hc
          · right
            have hh : s.lv = x.toNat := by omega
            have := a2 (by omega)
            omega
        refine ⟨fun m h5 => Ext h3 h5 ∧ ∃ sn, iterAt ikey h5 h3.size lr cr sn ∧ (m = 18446744073709551615 ∨ ∃ e ∈ lr, ∃ s, S e.key = some s ∧ s.t = m) ∧ (∀ e ∈ lr, e.born ∈ sn → ∀ s, S e.key = some s → m ≤ s.t), fun _ h5 => unseen lr h5 h3.size, ⟨⟨by omega, k1⟩, #[], k3, Or.inl rfl, fun _ _ hc => by simp at hc⟩, ?_⟩
        rintro m h5 ⟨x5, sn, it, hm5, hs5⟩
        refine ⟨lr, cr, sn, it, hok.1, fun hall => ?_, ?_⟩
        · refine ⟨m, true, rfl, x5, fun _ => ?_, fun q => (by cases q)⟩
          obtain ⟨e0, he0⟩ : ∃ e, e ∈ lr := by
            cases lr with
            | nil => simp at hnz
            | cons a b => exact ⟨a, by simp⟩
          obtain ⟨_, s0, hs0, hi0⟩ := hmem e0 he0
          have hmm := hs5 e0 he0 (hall e0 he0) s0 hs0
          obtain ⟨e1, he1, s1, hs1, hm1⟩ : ∃ e ∈ lr, ∃ s, S e.key = some s ∧ s.t = m := by
            rcases hm5 with rfl | q
            · have := (W.rng _ _ hs0).2.2.2; omega
            · exact q
          refine ⟨⟨_, _, hs1, hm1⟩, fun id s hs => ?_⟩
          by_cases hi : s.ix = x.toNat * 16 + y.toNat
          · rcases hrow id with ⟨g, _⟩ | ⟨_, g⟩
            · obtain ⟨e, he, hk, _⟩ := mlook_mem g
              exact hs5 e he (hall e he) s (by rw [hk]; exact hs)
            · exact absurd hi (g s hs)
          · obtain ⟨_, s1', hs1', hi1⟩ := hmem e1 he1
            rw [hs1] at hs1'; cases hs1'
            have := hmin id s hs _ _ hs1 hi1 hi
            omega
        · rintro e he hns h6 ⟨y1, y2, y3⟩
          refine ⟨⟨y3, hok.2.1⟩, ?_⟩
          obtain ⟨hv, s, hs, hi⟩ := hmem e he
          have x6 : Ext h3 h6 := ⟨by have := x5.1; omega, fun z hz => by rw [y1 z (by omega)]; exact x5.2 z hz⟩
          have hall6 := x6.get W.all
          refine ⟨true, hv, some ma, x6.cell W.cell_all, l, c, hall6, s.t, s.lv, s.pl, by rw [W.spots, hs]; rfl, ⟨x6, sn.push e.born, y3, ?_, ?_⟩, unseen_lt it y3 he hns⟩
          · split
            · exact Or.inr ⟨e, he, s, hs, rfl⟩
            · exact hm5
          · intro e2 he2 hin s2 hs2
            rcases Array.mem_push.1 hin with g | g
            · have := hs5 e2 he2 g s2 hs2; split <;> omega
            · have : e2.key = e.key := by rw [ok_born_inj hok he2 he g]
              rw [this, hs] at hs2; cases hs2
              split <;> omega
    · refine ⟨⟨by omega, by omega⟩, ⟨rfl, by omega, by omega, ?_⟩, by dsimp only; omega⟩
      intro id s hs
      have h1 := hx id s hs
      have h2 := hy id s hs
      have := (W.rng id s hs).2.1
      omega
  · refine ⟨0, false, rfl, Ext.refl _, fun q => (by cases q), fun _ id => ?_⟩
    cases hs : S id with
    | none => rfl
    | some s =>
      have := hx id s hs
      have := (W.rng id s hs).1
      omega
end
end Go.Proofs.Vf
