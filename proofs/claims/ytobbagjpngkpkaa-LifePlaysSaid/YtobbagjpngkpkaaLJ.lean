/- Contracts of package life, and laws that follow from them. Conditions: as stated at each. -/
import Derived.Test.YtobbagjpngkpkaaLH
namespace Go.VC
theorem ld_ext {h h' : Heap} (x : Ext h h') {b : Nat} : ∀ {n o : Nat} {vs : List Value}, ldCells h b o n = some vs → ldCells h' b o n = some vs
  | 0, o, vs, e => e
  | n + 1, o, vs, e => by
    simp only [ldCells] at e ⊢
    cases hc : cellH h b o with
    | none => rw [hc] at e; cases e
    | some v =>
      rw [hc] at e
      rw [x.cell hc]
      cases hl : ldCells h b (o + 1) n with
      | none => rw [hl] at e; cases e
      | some l => rw [ld_ext x hl]; rw [hl] at e; exact e
end Go.VC
namespace Go.Proofs.Vf
open Go Go.Proofs Go.VC

theorem flat_get : ∀ {fs : List Fate} {i : Nat} {f : Fate}, fs[i]? = some f → (flat fs)[i * 3]? = some (.int .i64 f.id) ∧ (flat fs)[i * 3 + 1]? = some (.int .i64 f.kind) ∧ (flat fs)[i * 3 + 2]? = some (.int .i64 f.why)
  | [], i, f, h => by simp at h
  | a :: fs, 0, f, h => by simp at h; subst h; simp [flat, fateV]
  | a :: fs, i + 1, f, h => by
    obtain ⟨h1, h2, h3⟩ := flat_get (fs := fs) (i := i) (f := f) (by simpa using h)
    have e : ∀ j, (flat (a :: fs))[(i + 1) * 3 + j]? = (flat fs)[i * 3 + j]? := fun j => by
      simp only [flat, List.flatMap_cons]
      rw [List.getElem?_append_right (by simp [fateV]; omega)]
      congr 1; simp [fateV]; omega
    exact ⟨(e 0).trans h1, (e 1).trans h2, (e 2).trans h3⟩

theorem look_perm {L M : List One} (hp : L.Perm M) (hn : (L.map (·.id)).Nodup) (id : Int) : look L id = look M id := by
  have hm : (M.map (·.id)).Nodup := (hp.map (·.id)).nodup_iff.1 hn
  cases h : look L id with
  | some d => exact ((look_some hm).2 (hp.mem_iff.1 ((look_some hn).1 h))).symm
  | none =>
    symm; rw [look_none] at h ⊢
    intro x hx; exact h x (hp.mem_iff.2 hx)

/-- a book, and a row of twenty numbers beside it -/
def On (h0 h : Heap) (bb ob : Nat) (s : St) (os : List Int) : Prop :=
  Ext h0 h ∧ h0.size ≤ ob ∧ h[ob]? = some (.cells (os.map (Value.int .u64)).toArray ty_uint64 (0, 0)) ∧ ∃ Own, BookS Own h bb s ∧ (∀ y, Own y → h0.size ≤ y) ∧ ¬ Own ob

section
variable {h0 h h' : Heap} {bb ob : Nat} {s s' : St} {os : List Int}
theorem On.ext (O : On h0 h bb ob s os) (x : Ext h h') : On h0 h' bb ob s os := by
  obtain ⟨o1, o2, o3, Own, B, o4, o5⟩ := O
  exact ⟨o1.trans x, o2, x.get o3, Own, B.ext x, o4, o5⟩
theorem on_op {Own Own' : Nat → Prop} (o1 : Ext h0 h) (o2 : h0.size ≤ ob) (o3 : h[ob]? = some (.cells (os.map (Value.int .u64)).toArray ty_uint64 (0, 0))) (o4 : ∀ y, Own y → h0.size ≤ y) (o5 : ¬ Own ob)
    (c : Ch Own h h') (B : BookS Own' h' bb s') (hf : ∀ y, Own' y → Own y ∨ h.size ≤ y) : On h0 h' bb ob s' os :=
  ⟨ext_ch o1 c o4, o2, c.get o3 o5, Own', B, fun y hy => by
    rcases hf y hy with q | q
    · exact o4 y q
    · have := o1.1; omega, fun hy => by
    rcases hf ob hy with q | q
    · exact o5 q
    · have := lt_of_get o3; omega⟩
theorem On.cell (O : On h0 h bb ob s os) {i : Nat} {v : Int} (hv : os[i]? = some v) : cellH h ob (0 + i * 1) = some (.int .u64 v) :=
  cell_lst O.2.2.1 (by rw [Nat.zero_add, Nat.mul_one, List.getElem?_map, hv]; rfl)
theorem On.set (O : On h0 h bb ob s os) {i : Nat} (hi : i < os.length) (v : Int) : ∃ h', stCells ob h (0 + i * 1) [.int .u64 v] = some h' ∧ On h0 h' bb ob s (os.set i v) ∧ ∀ y, y ≠ ob → h'[y]? = h[y]? := by
  obtain ⟨o1, o2, o3, Own, B, o4, o5⟩ := O
  obtain ⟨h', q1, q2, q3, q4⟩ := st_ex (o := 0 + i * 1) [.int .u64 v] o3 (by simp; omega) (by simp [Value.oneCell'])
  rw [spl_one (by simp; omega), Nat.zero_add, Nat.mul_one, ← List.map_set] at q2
  refine ⟨h', q1, ⟨⟨by have := o1.1; omega, fun y hy => ?_⟩, o2, q2, Own, B.keep (by omega) (fun y _ hy => q3 y fun e => o5 (e ▸ hy)), o4, o5⟩, q3⟩
  rw [q3 y (by omega), o1.2 y hy]
end

structure Mid (c now : Int) (s : St) (os : List Int) (P : List One) : Prop where
  cost : s.cost = c
  tm : s.now = now
  fl : s.F.map (·.id) = P.map (·.id)
  kinds : ∀ f ∈ s.F, ¬ (f.kind = 2 ∧ f.why = 1)
  nd : ((P ++ s.L).map (·.id)).Nodup
  rng : ∀ x ∈ P ++ s.L, 0 ≤ x.id ∧ x.id < 20 ∧ now + c < x.dead ∧ x.dead ≤ now + 60
  ol : os.length = 20
  o : ∀ i : Nat, i < 20 → os[i]? = some ((look (P ++ s.L) i).getD 0)

theorem Mid.len {c now : Int} {s : St} {os : List Int} {P : List One} (M : Mid c now s os P) : P.length + s.L.length ≤ 20 := by
  have := nodup_int_bound (n := 20) M.nd fun x hx => by
    obtain ⟨y, hy, rfl⟩ := List.mem_map.1 hx
    have := M.rng y hy; exact ⟨this.1, this.2.1⟩
  simpa using this

theorem Mid.out {c now : Int} {s : St} {os : List Int} (M : Mid c now s os []) (id kind why : Int) (hk : ¬ (kind = 2 ∧ why = 1)) :
    ∃ P, Mid c now (stOut s id kind why).2 os P ∧ P.length + (stOut s id kind why).2.L.length = s.L.length := by
  have hF : s.F = [] := by have := M.fl; simpa using this
  rcases stOut_cases s id kind why with ⟨h, e⟩ | ⟨h, e⟩
  · obtain ⟨d, hd⟩ := Option.isSome_iff_exists.1 h
    have hnd : (s.L.map (·.id)).Nodup := M.nd
    have hm := (look_some hnd).1 hd
    have hperm : ([One.mk id d] ++ del id s.L).Perm s.L := by
      rw [List.perm_ext_iff_of_nodup]
      · intro x
        rw [List.mem_append, List.mem_singleton, mem_del]
        constructor
        · rintro (rfl | ⟨q, _⟩)
          · exact hm
          · exact q
        · intro hx
          by_cases hid : x.id = id
          · left
            exact nd_inj hnd hx hm hid
          · exact .inr ⟨hx, hid⟩
      · refine nodup_of_map (f := (·.id)) ?_
        rw [List.map_append, List.nodup_append]
        refine ⟨by simp, del_nodup hnd, fun a ha b hb e => ?_⟩
        simp at ha
        obtain ⟨y, hy, rfl⟩ := List.mem_map.1 hb
        exact (mem_del.1 hy).2 (by rw [← e, ha])
      · exact nodup_of_map hnd
    have hnd2 : (([One.mk id d] ++ del id s.L).map (·.id)).Nodup := (hperm.map (·.id)).nodup_iff.2 hnd
    rw [e]
    refine ⟨[One.mk id d], ⟨M.cost, M.tm, by simp [hF], fun f hf => ?_, hnd2, fun x hx => M.rng x (hperm.mem_iff.1 hx), M.ol, fun i hi => ?_⟩, ?_⟩
    · simp [hF] at hf; subst hf; exact hk
    · rw [M.o i hi]
      show _ = some ((look ([One.mk id d] ++ del id s.L) i).getD 0)
      rw [look_perm hperm hnd2]; rfl
    · have := hperm.length_eq
      simp at this ⊢; omega
  · rw [e]; exact ⟨[], M, by simp⟩

theorem Mid.open_ {c now : Int} {s : St} {os : List Int} (M : Mid c now s os []) (hc : 1 ≤ c) (h0 : 0 ≤ now) (hn : now < 1000000) {id : Nat} (hid : id < 20) {dead : Int} (h1 : now < dead) (h2 : dead ≤ now + 60) :
    ((decide ((stOpen s id dead).1 = 0)) = ((decide (((look s.L id).getD 0) = 0)) && (decide (now + c < dead)))) ∧
      ((stOpen s id dead).1 = 0 → Mid c now (stOpen s id dead).2 (os.set id dead) [] ∧ (stOpen s id dead).2.L.length = s.L.length + 1) ∧ ((stOpen s id dead).1 ≠ 0 → (stOpen s id dead).2 = s) := by
  have hnd : (s.L.map (·.id)).Nodup := M.nd
  have hlen := M.len
  simp only [List.length_nil, Nat.zero_add] at hlen
  have e : stOpen s id dead = if (look s.L id).isSome then (7, s) else if dead ≤ now + c then (11, s) else (0, { s with L := ins ⟨id, dead⟩ s.L }) := by
    unfold stOpen
    rw [if_neg (by omega), if_neg (by omega), M.tm, M.cost]
    split
    · rfl
    · rw [if_neg (by omega)]
  cases hl : look s.L id with
  | some d =>
    have hm := (look_some hnd).1 hl
    have := (M.rng _ hm).2.2.1
    rw [hl, Option.isSome_some, if_pos rfl] at e
    rw [e]
    refine ⟨?_, fun q => by simp at q, fun _ => rfl⟩
    have hd : ¬ d = 0 := by dsimp only at this; omega
    simp [hd]
  | none =>
    rw [hl, Option.isSome_none, if_neg (by decide)] at e
    by_cases hden : dead ≤ now + c
    · rw [if_pos hden] at e
      rw [e]
      refine ⟨?_, fun q => by simp at q, fun _ => rfl⟩
      simp; omega
    · rw [if_neg hden] at e
      rw [e]
      have hnot := look_none.1 hl
      refine ⟨?_, fun _ => ⟨⟨M.cost, M.tm, M.fl, M.kinds, ins_nodup hnd hnot, fun x hx => ?_, by rw [List.length_set]; exact M.ol, fun i hi => ?_⟩, ins_length _ _⟩, fun q => absurd rfl q⟩
      · simp; omega
      · rcases mem_ins.1 hx with rfl | hx
        · dsimp only; exact ⟨by omega, by omega, by omega, h2⟩
        · exact M.rng x hx
      · show (os.set id dead)[i]? = some ((look (ins ⟨id, dead⟩ s.L) i).getD 0)
        rw [look_ins hnd hnot, List.getElem?_set]
        by_cases hii : id = i
        · subst hii; rw [if_pos rfl, if_pos (by rw [M.ol]; exact hid)]; simp
        · rw [if_neg hii, if_neg (fun q => hii (by dsimp only at q; omega)), M.o i hi]; rfl
end Go.Proofs.Vf
