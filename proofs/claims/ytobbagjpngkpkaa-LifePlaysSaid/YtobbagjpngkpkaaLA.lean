/- Contracts of package life, and laws that follow from them. Conditions: as stated at each. -/
import Derived.Test.YtobbagjpngkpkaaWG
namespace Go.Proofs.Vf
open Go Go.Proofs Go.VC

structure One where
  id : Int
  dead : Int
instance : DecidableEq One := fun a b => decidable_of_iff (a.id = b.id ∧ a.dead = b.dead) ⟨fun h => by cases a; cases b; simp_all, fun h => by rw [h]; exact ⟨rfl, rfl⟩⟩
structure Fate where
  id : Int
  kind : Int
  why : Int
instance : DecidableEq Fate := fun a b => decidable_of_iff (a.id = b.id ∧ a.kind = b.kind ∧ a.why = b.why) ⟨fun h => by cases a; cases b; simp_all, fun h => by rw [h]; exact ⟨rfl, rfl, rfl⟩⟩
structure St where
  cost : Int
  now : Int
  L : List One
  F : List Fate

def less (a b : One) : Bool := decide (a.dead < b.dead) || (decide (a.dead = b.dead) && decide (a.id < b.id))
theorem less_iff {a b : One} : less a b = true ↔ a.dead < b.dead ∨ (a.dead = b.dead ∧ a.id < b.id) := by simp [less]
theorem less_trans {a b c : One} (h1 : less a b = true) (h2 : less b c = true) : less a c = true := by
  rw [less_iff] at *; omega
theorem less_tri {a b : One} (h : a.id ≠ b.id) : less a b = true ∨ less b a = true := by
  rw [less_iff, less_iff]; omega
theorem less_asymm {a b : One} (h1 : less a b = true) : less b a = false := by
  rw [Bool.eq_false_iff]; intro h2; rw [less_iff] at *; omega

def srt (L : List One) : Prop := L.Pairwise fun a b => less a b = true
def look (L : List One) (id : Int) : Option Int := (L.find? fun x => decide (x.id = id)).map (·.dead)
def ins (x : One) (L : List One) : List One := (L.takeWhile (less · x)) ++ x :: (L.dropWhile (less · x))
def del (id : Int) (L : List One) : List One := L.filter fun x => decide (x.id ≠ id)

abbrev D0 : Int → Prop := fun _ => False
structure StOk (D : Int → Prop) (s : St) : Prop where
  cost : 1 ≤ s.cost ∧ s.cost ≤ 1000
  now : 0 ≤ s.now ∧ s.now < 4611686018427387904
  srt : srt s.L
  nd : (s.L.map (·.id)).Nodup
  rng : ∀ x ∈ s.L, 0 ≤ x.id ∧ x.id ≤ 65535 ∧ (¬ D x.id → s.now + s.cost < x.dead) ∧ x.dead < 4611686018427387904
  len : s.L.length ≤ 64

theorem look_some {L : List One} {id d : Int} (hn : (L.map (·.id)).Nodup) : look L id = some d ↔ ⟨id, d⟩ ∈ L := by
  unfold look
  induction L with
  | nil => simp
  | cons a L ih =>
    simp only [List.map_cons, List.nodup_cons] at hn
    simp only [List.find?_cons]
    by_cases h : a.id = id
    · simp only [h, decide_true, Option.map_some, Option.some.injEq, List.mem_cons]
      constructor
      · rintro rfl; left; rw [← h]
      · rintro (q | q)
        · rw [← q]
        · exfalso; apply hn.1; rw [h]; exact List.mem_map.2 ⟨_, q, rfl⟩
    · simp only [h, decide_false, List.mem_cons]
      rw [ih hn.2]
      constructor
      · exact .inr
      · rintro (q | q)
        · exact absurd (by rw [← q]) h
        · exact q
theorem look_none {L : List One} {id : Int} : look L id = none ↔ ∀ x ∈ L, x.id ≠ id := by
  unfold look
  rw [Option.map_eq_none_iff, List.find?_eq_none]
  simp
theorem look_del {L : List One} (id k : Int) : look (del id L) k = if k = id then none else look L k := by
  split
  · rename_i h
    rw [look_none]
    intro x hx
    have := (List.mem_filter.1 hx).2
    simp at this; rw [h]; exact this
  · rename_i h
    unfold look del
    congr 1
    induction L with
    | nil => rfl
    | cons a L ih =>
      simp only [List.filter_cons]
      by_cases ha : a.id = id
      · have hk : ¬ a.id = k := fun q => h (by rw [← q, ha])
        rw [if_neg (by simp [ha]), List.find?_cons, decide_eq_false hk]
        exact ih
      · rw [if_pos (by simp [ha]), List.find?_cons, List.find?_cons, ih]
theorem mem_ins {x y : One} {L : List One} : y ∈ ins x L ↔ y = x ∨ y ∈ L := by
  unfold ins
  rw [List.mem_append, List.mem_cons]
  have : y ∈ L ↔ y ∈ L.takeWhile (less · x) ∨ y ∈ L.dropWhile (less · x) := by
    rw [← List.mem_append, List.takeWhile_append_dropWhile]
  rw [this]
  constructor
  · rintro (h | h | h) <;> simp [h]
  · rintro (h | h | h) <;> simp [h]
theorem ins_perm (x : One) (L : List One) : (ins x L).Perm (x :: L) := by
  unfold ins
  refine List.perm_middle.trans ?_
  rw [List.takeWhile_append_dropWhile]
theorem ins_length (x : One) (L : List One) : (ins x L).length = L.length + 1 := (ins_perm x L).length_eq
theorem ins_nodup {x : One} {L : List One} (hn : (L.map (·.id)).Nodup) (hx : ∀ y ∈ L, y.id ≠ x.id) : ((ins x L).map (·.id)).Nodup := by
  rw [((ins_perm x L).map (·.id)).nodup_iff, List.map_cons, List.nodup_cons]
  refine ⟨?_, hn⟩
  intro h
  obtain ⟨y, hy, he⟩ := List.mem_map.1 h
  exact hx y hy he
theorem all_dropWhile {x : One} : ∀ {L : List One}, srt L → (∀ y ∈ L, y.id ≠ x.id) → ∀ y ∈ L.dropWhile (less · x), less x y = true
  | [], _, _, y, h => by cases h
  | a :: L, hs, hx, y, h => by
    rw [List.dropWhile_cons] at h
    split at h
    · exact all_dropWhile (List.pairwise_cons.1 hs).2 (fun z hz => hx z (by simp [hz])) y h
    · rename_i hn
      have hxa : less x a = true := by
        rcases less_tri (hx a (by simp)) with q | q
        · exact absurd q hn
        · exact q
      rcases List.mem_cons.1 h with rfl | hy
      · exact hxa
      · exact less_trans hxa ((List.pairwise_cons.1 hs).1 y hy)
theorem ins_srt {x : One} {L : List One} (hs : srt L) (hx : ∀ y ∈ L, y.id ≠ x.id) : srt (ins x L) := by
  unfold ins srt
  rw [List.pairwise_append, List.pairwise_cons]
  have ht : ∀ y ∈ L.takeWhile (less · x), less y x = true := fun y hy => by
    have := List.all_takeWhile (p := (less · x)) (l := L)
    rw [List.all_eq_true] at this
    exact this y hy
  have hd := all_dropWhile hs hx
  refine ⟨List.Pairwise.sublist (List.takeWhile_sublist _) hs, ⟨hd, List.Pairwise.sublist (List.dropWhile_sublist _) hs⟩, ?_⟩
  intro a ha b hb
  rcases List.mem_cons.1 hb with rfl | hb
  · exact ht a ha
  · exact less_trans (ht a ha) (hd b hb)
theorem del_srt {id : Int} {L : List One} (hs : srt L) : srt (del id L) := List.Pairwise.sublist List.filter_sublist hs
theorem del_nodup {id : Int} {L : List One} (hn : (L.map (·.id)).Nodup) : ((del id L).map (·.id)).Nodup := List.Nodup.sublist (List.filter_sublist.map _) hn
theorem mem_del {id : Int} {L : List One} {x : One} : x ∈ del id L ↔ x ∈ L ∧ x.id ≠ id := by simp [del]
theorem look_ins {x : One} {L : List One} (hn : (L.map (·.id)).Nodup) (hx : ∀ y ∈ L, y.id ≠ x.id) (k : Int) : look (ins x L) k = if k = x.id then some x.dead else look L k := by
  have hi := ins_nodup hn hx
  split
  · rename_i h
    rw [look_some hi, mem_ins, h]; left; rfl
  · rename_i h
    cases hl : look L k with
    | none =>
      rw [look_none] at hl ⊢
      intro y hy
      rcases mem_ins.1 hy with rfl | hy
      · exact fun q => h q.symm
      · exact hl y hy
    | some d =>
      rw [look_some hi, mem_ins]
      exact .inr ((look_some hn).1 hl)

/-! the acts -/
def stOpen (s : St) (id dead : Int) : Int × St :=
  if id < 0 ∨ id > 65535 then (1, s)
  else if ¬ dead < 4611686018427387904 then (2, s)
  else if (look s.L id).isSome then (7, s)
  else if 64 ≤ s.L.length then (4, s)
  else if dead ≤ s.now + s.cost then (11, s)
  else (0, { s with L := ins ⟨id, dead⟩ s.L })
def stOut (s : St) (id kind why : Int) : Int × St :=
  if (look s.L id).isSome then (0, { s with L := del id s.L, F := s.F ++ [⟨id, kind, why⟩] }) else (6, s)
def stAnswer (s : St) (id status : Int) (bad : Bool) : Int × St :=
  if status < 0 ∨ status > 255 then (1, s) else if bad then stOut s id 2 2 else stOut s id 1 status
def stCancel (s : St) (id : Int) : Int × St := stOut s id 2 3
def dueBy (c now : Int) (x : One) : Bool := decide (x.dead - c ≤ now)
def byTime (x : One) : Fate := ⟨x.id, 2, 1⟩
def stGo (s : St) (now : Int) : Int × List Fate × St :=
  if ¬ now < 4611686018427387904 then (2, [], s)
  else if now < s.now then (1, [], s)
  else (0, s.F ++ (s.L.filter (dueBy s.cost now)).map byTime, { s with now := now, L := s.L.filter (fun x => !dueBy s.cost now x), F := [] })

theorem stOpen_ok {s : St} (h : StOk D0 s) (id dead : Int) : StOk D0 (stOpen s id dead).2 := by
  unfold stOpen
  split <;> try exact h
  split <;> try exact h
  split <;> try exact h
  split <;> try exact h
  split <;> try exact h
  rename_i h1 h2 h3 h4 h5
  have hn : look s.L id = none := by simpa using h3
  rw [look_none] at hn
  refine ⟨h.cost, h.now, ins_srt h.srt hn, ins_nodup h.nd hn, ?_, by rw [ins_length]; omega⟩
  intro x hx
  rcases mem_ins.1 hx with rfl | hx
  · dsimp only; exact ⟨by omega, by omega, fun _ => by omega, by omega⟩
  · exact h.rng x hx
theorem stOut_ok {D : Int → Prop} {s : St} (h : StOk D s) (id kind why : Int) : StOk D (stOut s id kind why).2 := by
  unfold stOut
  split
  · refine ⟨h.cost, h.now, del_srt h.srt, del_nodup h.nd, fun x hx => h.rng x (mem_del.1 hx).1, ?_⟩
    exact Nat.le_trans (List.length_filter_le _ _) h.len
  · exact h
theorem stAnswer_ok {s : St} (h : StOk D0 s) (id status : Int) (bad : Bool) : StOk D0 (stAnswer s id status bad).2 := by
  unfold stAnswer
  split
  · exact h
  split <;> exact stOut_ok h _ _ _
theorem stCancel_ok {s : St} (h : StOk D0 s) (id : Int) : StOk D0 (stCancel s id).2 := stOut_ok h _ _ _
theorem stGo_ok {s : St} (h : StOk D0 s) {now : Int} (h0 : 0 ≤ now) : StOk D0 (stGo s now).2.2 := by
  unfold stGo
  split
  · exact h
  split
  · exact h
  refine ⟨h.cost, ⟨h0, by dsimp only; omega⟩, List.Pairwise.sublist List.filter_sublist h.srt, List.Nodup.sublist (List.filter_sublist.map _) h.nd, ?_, Nat.le_trans (List.length_filter_le _ _) h.len⟩
  intro x hx
  obtain ⟨hx, hd⟩ := List.mem_filter.1 hx
  have := h.rng x hx
  simp [dueBy] at hd
  refine ⟨this.1, this.2.1, fun _ => ?_, this.2.2.2⟩
  show now + s.cost < x.dead
  omega
theorem stOut_cost (s : St) (id kind why : Int) : (stOut s id kind why).2.cost = s.cost ∧ (stOut s id kind why).2.now = s.now := by
  unfold stOut; split <;> exact ⟨rfl, rfl⟩
end Go.Proofs.Vf
