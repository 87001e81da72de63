/- Contracts of package life, and laws that follow from them. Conditions: as stated at each. -/
import Derived.Test.YtobbagjpngkpkaaLA
import Derived.Test.YtobbagjpngkpkaaFLife
namespace Go.Proofs.Vf
open Go Go.Proofs Go.VC

def fateV (f : Fate) : List Value := [.int .i64 f.id, .int .i64 f.kind, .int .i64 f.why]
def flat (F : List Fate) : List Value := F.flatMap fateV
theorem flat_length (F : List Fate) : (flat F).length = F.length * 3 := by
  induction F with
  | nil => rfl
  | cons a F ih => simp only [flat, List.flatMap_cons, List.length_append, List.length_cons] at *; rw [ih]; simp [fateV]; omega
theorem flat_append (F G : List Fate) : flat (F ++ G) = flat F ++ flat G := by simp [flat]
def entV (t d : Int) : Value := .agg #[.int .i64 t, .int .u64 d]

structure BX where
  wb : Nat
  mo : Nat
  l : List (ME Int)
  c : Nat
  tm : Int → Int
  ids : List Int
  used : List Bool
  S : Int → Option Spot
  WF : Nat → Prop
  fa : Option Addr
  fn : Nat
  fc : Nat

def bookCells (cost : Int) (x : BX) : List Value :=
  [.int .u64 cost, .pointer (some ⟨x.wb, 0, none⟩), .map (some x.mo)] ++ (x.ids.map (Value.int .i64) ++ (x.used.map Value.bool ++ [.slice x.fa x.fn x.fc]))

structure BookP (Own : Nat → Prop) (h : Heap) (bb : Nat) (st : St) (D : Int → Prop) (x : BX) : Prop where
  blk : h[bb]? = some (.cells (bookCells st.cost x).toArray ty_life_Book (0, 0))
  il : x.ids.length = 64
  ul : x.used.length = 64
  wheel : WheelS x.WF h x.wb x.S st.now
  good : Good x.S st.now
  all : h[x.mo]? = some (mobj ikey x.l x.c)
  ok : mapOk x.l x.c
  ent : ∀ id, mlook x.l id = (look st.L id).map fun d => entV (x.tm id) d
  tmr : ∀ id d, look st.L id = some d → (0 ≤ x.tm id ∧ x.tm id < 64) ∧ x.used[(x.tm id).toNat]? = some true ∧ x.ids[(x.tm id).toNat]? = some id ∧ (¬ D id → ∃ s, x.S (x.tm id) = some s ∧ s.t = d - st.cost) ∧ (D id → x.S (x.tm id) = none)
  free : ∀ i : Nat, x.used[i]? = some true → ∃ id d, look st.L id = some d ∧ x.tm id = i
  spot : ∀ t s, x.S t = some s → ∃ id d, look st.L id = some d ∧ x.tm id = t
  fates : Sl h ty_api_Fate 3 x.fa x.fn x.fc (flat st.F)
  fl : x.fn = st.F.length
  own : Own bb ∧ Own x.mo ∧ (∀ y, x.WF y → Own y) ∧ ∀ y, blkOf x.fa y → Own y
  dis : ¬ x.WF bb ∧ ¬ x.WF x.mo ∧ ∀ y, blkOf x.fa y → ¬ x.WF y
  bnd : ∀ y, Own y → y < h.size
  st : StOk D st

def BookS (Own : Nat → Prop) (h : Heap) (bb : Nat) (st : St) : Prop := ∃ x, BookP Own h bb st D0 x

theorem blkOf_lt {h : Heap} {a : Option Addr} {e sz n c : Nat} {vs : List Value} (s : Sl h e sz a n c vs) {x : Nat} (hx : blkOf a x) : ∃ cur, h[x]? = some (.cells (List.toArray cur) e (0, 0)) := by
  obtain ⟨b, o, rfl, rfl⟩ := hx
  rcases s.2 with ⟨q, _⟩ | ⟨b', o', cur, q, hb, _⟩
  · cases q
  · cases q; exact ⟨cur, hb⟩

section
variable {Own : Nat → Prop} {h : Heap} {bb : Nat} {st : St} {x : BX} {D : Int → Prop}

theorem BookP.bm (B : BookP Own h bb st D x) : bb ≠ x.mo := ne_map_cells B.blk B.all
theorem BookP.fb (B : BookP Own h bb st D x) {y : Nat} (hy : blkOf x.fa y) : y ≠ bb := by
  obtain ⟨cur, hc⟩ := blkOf_lt B.fates hy
  intro e; subst e
  rw [B.blk] at hc
  simp only [Option.some.injEq, Obj.cells.injEq] at hc
  exact absurd hc.2.1 (by decide)
theorem BookP.fm (B : BookP Own h bb st D x) {y : Nat} (hy : blkOf x.fa y) : y ≠ x.mo := by
  obtain ⟨cur, hc⟩ := blkOf_lt B.fates hy
  exact ne_map_cells hc B.all

theorem bc_cost (c : Int) : (bookCells c x)[0]? = some (.int .u64 c) := rfl
theorem bc_wheel (c : Int) : (bookCells c x)[0 + 1]? = some (.pointer (some ⟨x.wb, 0, none⟩)) := rfl
theorem bc_map (c : Int) : (bookCells c x)[0 + 2]? = some (.map (some x.mo)) := rfl
theorem bc_id (c : Int) {i : Nat} {v : Int} (hv : x.ids[i]? = some v) : (bookCells c x)[0 + 3 + i * 1]? = some (.int .i64 v) := by
  have hlt : i < x.ids.length := (List.getElem?_eq_some_iff.1 hv).1
  unfold bookCells
  rw [List.getElem?_append_right (by simp <;> omega), List.getElem?_append_left (by simp <;> omega), List.getElem?_map]
  have : 0 + 3 + i * 1 - [Value.int IntKind.u64 c, Value.pointer (some ⟨x.wb, 0, none⟩), Value.map (some x.mo)].length = i := by simp <;> omega
  rw [this, hv]; rfl
theorem bc_used (c : Int) (hi : x.ids.length = 64) (hu : x.used.length = 64) {i : Nat} {v : Bool} (hv : x.used[i]? = some v) : (bookCells c x)[0 + 67 + i * 1]? = some (.bool v) := by
  have hlt : i < x.used.length := (List.getElem?_eq_some_iff.1 hv).1
  unfold bookCells
  rw [List.getElem?_append_right (by simp <;> omega), List.getElem?_append_right (by simp <;> omega), List.getElem?_append_left (by simp <;> omega), List.getElem?_map]
  have : 0 + 67 + i * 1 - [Value.int IntKind.u64 c, Value.pointer (some ⟨x.wb, 0, none⟩), Value.map (some x.mo)].length - (x.ids.map (Value.int .i64)).length = i := by simp <;> omega
  rw [this, hv]; rfl
theorem bc_fates (c : Int) (hi : x.ids.length = 64) (hu : x.used.length = 64) : (bookCells c x)[0 + 131]? = some (.slice x.fa x.fn x.fc) := by
  unfold bookCells
  rw [List.getElem?_append_right (by simp), List.getElem?_append_right (by simp <;> omega), List.getElem?_append_right (by simp <;> omega)]
  have : 0 + 131 - [Value.int IntKind.u64 c, Value.pointer (some ⟨x.wb, 0, none⟩), Value.map (some x.mo)].length - (x.ids.map (Value.int .i64)).length - (x.used.map Value.bool).length = 0 := by simp [hi, hu]
  rw [this]; rfl
theorem bc_len (c : Int) (hi : x.ids.length = 64) (hu : x.used.length = 64) : (bookCells c x).length = 132 := by simp [bookCells, hi, hu]
theorem bc_set_used (c : Int) (hi : x.ids.length = 64) (hu : x.used.length = 64) {i : Nat} (hlt : i < 64) (b : Bool) : (bookCells c x).set (0 + 67 + i * 1) (.bool b) = bookCells c { x with used := x.used.set i b } := by
  unfold bookCells
  rw [List.set_append_right _ _ (by simp <;> omega), List.set_append_right _ _ (by simp <;> omega), List.set_append_left _ _ (by simp <;> omega), List.map_set]
  have : 0 + 67 + i * 1 - [Value.int IntKind.u64 c, Value.pointer (some ⟨x.wb, 0, none⟩), Value.map (some x.mo)].length - (x.ids.map (Value.int .i64)).length = i := by simp <;> omega
  rw [this]
theorem bc_set_id (c : Int) (hi : x.ids.length = 64) {i : Nat} (hlt : i < 64) (b : Int) : (bookCells c x).set (0 + 3 + i * 1) (.int .i64 b) = bookCells c { x with ids := x.ids.set i b } := by
  unfold bookCells
  rw [List.set_append_right _ _ (by simp <;> omega), List.set_append_left _ _ (by simp <;> omega), List.map_set]
  have : 0 + 3 + i * 1 - [Value.int IntKind.u64 c, Value.pointer (some ⟨x.wb, 0, none⟩), Value.map (some x.mo)].length = i := by simp <;> omega
  rw [this]
theorem bc_set_fates (c : Int) (hi : x.ids.length = 64) (hu : x.used.length = 64) (a : Option Addr) (n k : Nat) : (bookCells c x).set (0 + 131) (.slice a n k) = bookCells c { x with fa := a, fn := n, fc := k } := by
  unfold bookCells
  rw [List.set_append_right _ _ (by simp), List.set_append_right _ _ (by simp <;> omega), List.set_append_right _ _ (by simp <;> omega)]
  have : 0 + 131 - [Value.int IntKind.u64 c, Value.pointer (some ⟨x.wb, 0, none⟩), Value.map (some x.mo)].length - (x.ids.map (Value.int .i64)).length - (x.used.map Value.bool).length = 0 := by simp [hi, hu]
  rw [this]; rfl

theorem BookP.len (B : BookP Own h bb st D x) : x.l.length = st.L.length := by
  have hp : (x.l.map (·.key)).Perm (st.L.map (·.id)) := by
    rw [List.perm_ext_iff_of_nodup B.ok.2.2 B.st.nd]
    intro k
    rw [mem_keys_iff, B.ent, Option.isSome_map]
    constructor
    · intro hs
      obtain ⟨d, hd⟩ := Option.isSome_iff_exists.1 hs
      exact List.mem_map.2 ⟨_, (look_some B.st.nd).1 hd, rfl⟩
    · intro hk
      obtain ⟨y, hy, rfl⟩ := List.mem_map.1 hk
      rw [(look_some B.st.nd).2 hy]; rfl
  simpa using hp.length_eq

/-- who has one timer is one -/
theorem BookP.tm_inj (B : BookP Own h bb st D x) {a b d e : Int} (ha : look st.L a = some d) (hb : look st.L b = some e) (he : x.tm a = x.tm b) : a = b := by
  have h1 := (B.tmr a d ha).2.2.1
  have h2 := (B.tmr b e hb).2.2.1
  rw [he, h2] at h1
  exact (Option.some.inj h1).symm

theorem BookP.keep {h' : Heap} (B : BookP Own h bb st D x) (hz : h.size ≤ h'.size) (hk : ∀ y, y < h.size → Own y → h'[y]? = h[y]?) : BookP Own h' bb st D x :=
  { B with
    blk := by rw [hk _ (lt_of_get B.blk) B.own.1]; exact B.blk
    wheel := B.wheel.keep hz fun y hy ho => hk y hy (B.own.2.2.1 y ho)
    all := by rw [hk _ (lt_of_get B.all) B.own.2.1]; exact B.all
    fates := B.fates.keep fun y hy hb => hk y hy (B.own.2.2.2 y hb)
    bnd := fun y hy => Nat.lt_of_lt_of_le (B.bnd y hy) hz }
theorem BookS.keep {h' : Heap} (B : BookS Own h bb st) (hz : h.size ≤ h'.size) (hk : ∀ y, y < h.size → Own y → h'[y]? = h[y]?) : BookS Own h' bb st := by
  obtain ⟨x, B⟩ := B; exact ⟨x, B.keep hz hk⟩
theorem BookS.ext {h' : Heap} (B : BookS Own h bb st) (e : Ext h h') : BookS Own h' bb st := B.keep e.1 fun y hy _ => e.2 y hy
theorem BookS.ch {F : Nat → Prop} {h' : Heap} (B : BookS Own h bb st) (e : Ch F h h') (hf : ∀ y, Own y → ¬ F y) : BookS Own h' bb st := B.keep e.1 fun y hy ho => e.2 y hy (hf y ho)
theorem BookS.mono {Own' : Nat → Prop} (B : BookS Own h bb st) (ho : ∀ y, Own y → Own' y) (hb : ∀ y, Own' y → y < h.size) : BookS Own' h bb st := by
  obtain ⟨x, B⟩ := B
  exact ⟨x, { B with own := ⟨ho _ B.own.1, ho _ B.own.2.1, fun y hy => ho _ (B.own.2.2.1 y hy), fun y hy => ho _ (B.own.2.2.2 y hy)⟩, bnd := hb }⟩
theorem BookS.bnd (B : BookS Own h bb st) : ∀ y, Own y → y < h.size := by obtain ⟨x, B⟩ := B; exact B.bnd
theorem BookS.sok (B : BookS Own h bb st) : StOk D0 st := by obtain ⟨x, B⟩ := B; exact B.st
theorem BookS.grow {h' : Heap} (B : BookS Own h' bb st) (hz : h.size ≤ h'.size) (hb : ∀ y, Own y → y < h.size) : BookS (Grow Own h h') h' bb st := B.mono (fun _ => .inl) (fun _ => Grow.bnd hz hb)

theorem cancel_any {wb : Nat} {S : Int → Option Spot} {now : Int} (W : WheelS Own h wb S now) (id : Int) :
    CallsH PR fn_wheel_Wheel_Cancel #[.pointer (some ⟨wb, 0, none⟩), .int .i64 id] h
      (fun v h' => (∃ e, v = .int .i64 e) ∧ Ch Own h h' ∧ WheelS Own h' wb (upd S id none) now) := by
  cases hs : S id with
  | some s =>
    refine (cancel_spec W hs).mono ?_
    rintro _ h1 ⟨rfl, c1, W1⟩
    exact ⟨⟨_, rfl⟩, c1, W1⟩
  | none =>
    have hW := W
    obtain ⟨rows, ma, l, c, W⟩ := W
    apply F_wheel_Wheel_Cancel_ok
    unfold F_wheel_Wheel_Cancel
    refine ⟨_, _, rfl, _, W.cell_all, l, c, W.all, 0, 0, 0, by rw [W.spots, hs]; rfl, ?_⟩
    intro h11 e11
    obtain ⟨h14, q1, q2, q3, q4⟩ := st_tmp (zs := [_, _, _]) e11 [.int .u64 0, .int .i64 0, .int .i64 0] rfl (by simp [Value.oneCell'])
    refine ⟨h14, q1, fun _ => ⟨⟨_, rfl⟩, q3.ch, (hW.ext q3).congr fun k => ?_⟩, fun hn => ?_⟩
    · unfold upd; split
      · rename_i e; rw [e, hs]
      · rfl
    · rw [W.spots, hs] at hn; cases hn

theorem BookP.ext {h' : Heap} (B : BookP Own h bb st D x) (e : Ext h h') : BookP Own h' bb st D x := B.keep e.1 fun y hy _ => e.2 y hy
theorem BookP.mono {Own' : Nat → Prop} (B : BookP Own h bb st D x) (ho : ∀ y, Own y → Own' y) (hb : ∀ y, Own' y → y < h.size) : BookP Own' h bb st D x :=
  { B with own := ⟨ho _ B.own.1, ho _ B.own.2.1, fun y hy => ho _ (B.own.2.2.1 y hy), fun y hy => ho _ (B.own.2.2.2 y hy)⟩, bnd := hb }
theorem BookP.grow {h' : Heap} (B : BookP Own h' bb st D x) : BookP (fun y => Own y ∨ (h.size ≤ y ∧ y < h'.size)) h' bb st D x :=
  B.mono (fun _ => .inl) (fun y hy => by rcases hy with q | q; exact B.bnd y q; exact q.2)
theorem outD_spec (B : BookP Own h bb st D x) (hF : st.F.length < 1000000) (id kind why : Int) :
    CallsH PR fn_life_Book_out #[.pointer (some ⟨bb, 0, none⟩), .int .i64 id, .int .i64 kind, .int .i64 why] h
      (fun v h' => v = .int .i64 (stOut st id kind why).1 ∧ Ch Own h h' ∧ ∃ x', BookP (Grow Own h h') h' bb (stOut st id kind why).2 D x') := by
  have hbnd := B.bnd
  apply F_life_Book_out_ok
  unfold F_life_Book_out
  cases hl : look st.L id with
  | none =>
    have ho : stOut st id kind why = (6, st) := by simp [stOut, hl]
    rw [ho]
    refine ⟨_, _, rfl, _, cell_lst B.blk (bc_map _), x.l, x.c, B.all, 0, 0, by rw [B.ent, hl]; rfl, ?_⟩
    intro h11 e11
    obtain ⟨h14, q1, q2, q3, q4⟩ := st_tmp (zs := [_, _]) e11 [.int .i64 0, .int .u64 0] rfl (by simp [Value.oneCell'])
    refine ⟨h14, q1, fun _ => ⟨rfl, q3.ch, x, (B.ext q3).grow⟩, fun hs => ?_⟩
    rw [B.ent, hl] at hs; cases hs
  | some d =>
    have ho : stOut st id kind why = (0, { st with L := del id st.L, F := st.F ++ [⟨id, kind, why⟩] }) := by simp [stOut, hl]
    have hst := stOut_ok B.st id kind why
    rw [ho] at hst ⊢
    obtain ⟨⟨t0, t1⟩, hu, hi, -⟩ := B.tmr id d hl
    refine ⟨_, _, rfl, _, cell_lst B.blk (bc_map _), x.l, x.c, B.all, x.tm id, d, by rw [B.ent, hl]; rfl, ?_⟩
    intro h11 e11
    obtain ⟨h14, q1, q2, q3, q4⟩ := st_tmp (zs := [_, _]) e11 [.int .i64 (x.tm id), .int .u64 d] rfl (by simp [Value.oneCell'])
    refine ⟨h14, q1, fun hn => ?_, fun _ => ?_⟩
    · rw [B.ent, hl] at hn; cases hn
    refine ⟨_, cell_lst (q3.get B.blk) (bc_wheel _), x.tm id, cell_lst q2 rfl, ?_⟩
    refine (cancel_any (B.wheel.ext q3) (x.tm id)).mono ?_
    rintro _ h19 ⟨⟨e19, rfl⟩, c19, W19⟩
    have hsz := q3.1
    have hz19 := c19.1
    -- what the wheel leaves alone
    have k19 : ∀ y, y < h.size → ¬ x.WF y → h19[y]? = h[y]? := fun y hy hw => by rw [c19.2 y (by omega) hw, q3.2 y hy]
    have b19 : h19[bb]? = some (.cells (bookCells st.cost x).toArray ty_life_Book (0, 0)) := by rw [k19 _ (lt_of_get B.blk) B.dis.1]; exact B.blk
    have m19 : h19[x.mo]? = some (mobj ikey x.l x.c) := by rw [k19 _ (lt_of_get B.all) B.dis.2.1]; exact B.all
    have f19 : Sl h19 ty_api_Fate 3 x.fa x.fn x.fc (flat st.F) := B.fates.keep fun y hy hb => k19 y hy (B.dis.2.2 y hb)
    refine ⟨_, rfl, x.tm id, ?_, ⟨t0, t1⟩, ?_⟩
    · have hw : ¬ x.WF h.size := fun q => by have := hbnd _ (B.own.2.2.1 _ q); omega
      rw [cell_congr (c19.2 _ (by omega) hw)]
      exact cell_lst q2 rfl
    have htl : (x.tm id).toNat < 64 := by omega
    obtain ⟨h26, u1, u2, u3, u4⟩ := st_ex (o := 0 + 67 + (x.tm id).toNat * 1) [.bool false] b19 (by rw [bc_len _ B.il B.ul]; simp; omega) (by simp [Value.oneCell'])
    rw [spl_one (by rw [bc_len _ B.il B.ul]; omega), bc_set_used _ B.il B.ul htl] at u2
    refine ⟨h26, u1, _, cell_lst u2 (bc_map _), x.mo, rfl, x.l, x.c, by rw [u3 _ B.bm.symm]; exact m19, ?_⟩
    intro h34 e34
    obtain ⟨w1, w2, w3⟩ := set_get e34 (by rw [u3 _ B.bm.symm]; exact m19)
    have b34 : h34[bb]? = _ := (w2 bb B.bm).trans u2
    have k34 : ∀ y, y < h19.size → y ≠ bb → y ≠ x.mo → h34[y]? = h19[y]? := fun y hy a b => by rw [w2 y b, u3 y a]
    have f34 : Sl h34 ty_api_Fate 3 x.fa x.fn x.fc (flat st.F) := f19.keep fun y hy hb => k34 y hy (B.fb hb) (B.fm hb)
    have hl2 : (x.used.set (x.tm id).toNat false).length = 64 := by rw [List.length_set]; exact B.ul
    refine ⟨_, _, _, cell_lst b34 (bc_fates _ B.il hl2), ?_⟩
    intro h38 e38
    obtain ⟨p1, p2, p3⟩ := push_get e38
    have hfl := B.fl
    refine (f34.ext p2).append (m := 1) rfl (by simp [Value.oneCell']) rfl ⟨by omega, by omega, by omega⟩ ?_
    intro a' c' h47 s47 c47 hf47
    have hz47 := c47.1
    have hfb : ∀ y, blkOf x.fa y → y < h.size := fun y hy => hbnd y (B.own.2.2.2 y hy)
    have k47 : ∀ y, y < h34.size → ¬ blkOf x.fa y → h47[y]? = h34[y]? := fun y hy hb => by rw [c47.2 y (by omega) hb, p2.2 y hy]
    have hbl := lt_of_get B.blk
    have hml := lt_of_get B.all
    have b47 := (k47 bb (by omega) (fun q => B.fb q rfl)).trans b34
    obtain ⟨h49, v1, v2, v3, v4⟩ := st_ex (o := 0 + 131) [.slice a' (x.fn + 1) c'] b47 (by rw [bc_len (x := { x with used := x.used.set (x.tm id).toNat false }) _ B.il hl2]; simp) (by simp [Value.oneCell'])
    rw [spl_one (by rw [bc_len (x := { x with used := x.used.set (x.tm id).toNat false }) _ B.il hl2]; omega), bc_set_fates (x := { x with used := x.used.set (x.tm id).toNat false }) _ B.il hl2] at v2
    refine ⟨h49, v1, rfl, ?_, ?_⟩
    · refine ⟨by omega, fun y hy hy' => ?_⟩
      have n1 : y ≠ bb := fun e => hy' (e ▸ B.own.1)
      have n2 : y ≠ x.mo := fun e => hy' (e ▸ B.own.2.1)
      rw [v3 y n1, k47 y (by omega) (fun q => hy' (B.own.2.2.2 y q)), k34 y (by omega) n1 n2, k19 y hy (fun q => hy' (B.own.2.2.1 y q))]
    · have hnew : ∀ y, blkOf a' y → blkOf x.fa y ∨ (h38.size ≤ y ∧ y < h47.size) := hf47
      have hab : ∀ y, blkOf a' y → y ≠ bb := fun y hy => by
        rcases hnew y hy with q | q
        · exact B.fb q
        · omega
      refine ⟨{ x with l := mdel x.l id, used := x.used.set (x.tm id).toNat false, S := upd x.S (x.tm id) none, fa := a', fn := x.fn + 1, fc := c' }, ?_⟩
      exact
      { blk := v2
        il := B.il
        ul := hl2
        wheel := W19.keep (by omega) fun y hy hw => by
          have hy' := hbnd _ (B.own.2.2.1 _ hw)
          have n1 : y ≠ bb := fun e => B.dis.1 (e ▸ hw)
          have n2 : y ≠ x.mo := fun e => B.dis.2.1 (e ▸ hw)
          rw [v3 y n1, k47 y (by omega) (fun q => B.dis.2.2 y q hw), k34 y hy n1 n2]
        good := fun t s hs => by
          dsimp only at hs
          unfold upd at hs
          split at hs
          · cases hs
          · exact B.good t s hs
        all := by
          show h49[x.mo]? = _
          rw [v3 _ B.bm.symm, k47 _ (by omega) (fun q => B.fm q rfl)]; exact w1
        ok := mdel_ok B.ok
        ent := fun k => by
          show mlook (mdel x.l id) k = (look (del id st.L) k).map _
          rw [mlook_mdel B.ok, look_del]
          split
          · rfl
          · exact B.ent k
        tmr := fun k e hk => by
          change look (del id st.L) k = some e at hk
          rw [look_del] at hk
          split at hk
          · cases hk
          · rename_i hne
            obtain ⟨r1, r2, r3, r4⟩ := B.tmr k e hk
            have hne' : x.tm k ≠ x.tm id := fun q => hne (B.tm_inj hk hl q)
            have hne2 : ¬ (x.tm id).toNat = (x.tm k).toNat := by omega
            refine ⟨r1, ?_, r3, ?_⟩
            · show (x.used.set (x.tm id).toNat false)[(x.tm k).toNat]? = _
              rw [List.getElem?_set_ne hne2]; exact r2
            · dsimp only
              rw [upd_other _ _ hne']; exact r4
        free := fun i hi => by
          change (x.used.set (x.tm id).toNat false)[i]? = some true at hi
          rw [List.getElem?_set] at hi
          split at hi
          · split at hi <;> cases hi
          · rename_i hne
            obtain ⟨k, e, h1, h2⟩ := B.free i hi
            refine ⟨k, e, ?_, h2⟩
            show look (del id st.L) k = _
            rw [look_del, if_neg]
            · exact h1
            · intro q; subst q; omega
        spot := fun t s hs => by
          dsimp only at hs
          unfold upd at hs
          split at hs
          · cases hs
          · rename_i hne
            obtain ⟨k, e, h1, h2⟩ := B.spot t s hs
            refine ⟨k, e, ?_, h2⟩
            show look (del id st.L) k = _
            rw [look_del, if_neg]
            · exact h1
            · intro q; subst q; exact hne h2.symm
        fates := by
          have : flat (st.F ++ [⟨id, kind, why⟩]) = flat st.F ++ [.int .i64 id, .int .i64 kind, .int .i64 why] := by rw [flat_append]; rfl
          show Sl h49 ty_api_Fate 3 a' (x.fn + 1) c' (flat (st.F ++ [⟨id, kind, why⟩]))
          rw [this]
          exact s47.keep fun y hy hb => v3 y (hab y hb)
        fl := by simp [B.fl]
        own := ⟨.inl B.own.1, .inl B.own.2.1, fun y hy => .inl (B.own.2.2.1 y hy), fun y hy => by
          rcases hnew y hy with q | q
          · exact .inl (B.own.2.2.2 y q)
          · exact .inr (by omega)⟩
        dis := ⟨B.dis.1, B.dis.2.1, fun y hy hw => by
          rcases hnew y hy with q | q
          · exact B.dis.2.2 y q hw
          · have := hbnd _ (B.own.2.2.1 _ hw); omega⟩
        bnd := fun y => Grow.bnd (by omega) hbnd
        st := hst }

theorem out_spec (B : BookS Own h bb st) (hF : st.F.length < 1000000) (id kind why : Int) :
    CallsH PR fn_life_Book_out #[.pointer (some ⟨bb, 0, none⟩), .int .i64 id, .int .i64 kind, .int .i64 why] h
      (fun v h' => v = .int .i64 (stOut st id kind why).1 ∧ Ch Own h h' ∧ BookS (Grow Own h h') h' bb (stOut st id kind why).2) := by
  obtain ⟨x, B⟩ := B
  exact outD_spec B hF id kind why
end
end Go.Proofs.Vf
