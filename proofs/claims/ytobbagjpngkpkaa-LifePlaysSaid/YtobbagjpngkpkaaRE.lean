/- Contracts of package life, and laws that follow from them. Conditions: as stated at each. -/
import Derived.Test.YtobbagjpngkpkaaRD
import Derived.Test.YtobbagjpngkpkaaLX
namespace Go.Proofs.Vf
open Go Go.Proofs Go.VC

theorem same_spec {h : Heap} {e1 e2 : Nat} {a1 a2 : Option Addr} {n1 n2 c1 c2 : Nat} {fs : List Fate} (s1 : Sl h e1 3 a1 n1 c1 (flat fs)) (s2 : Sl h e2 3 a2 n2 c2 (flat fs)) (hn : fs.length < 1000000) :
    CallsH PR fn_linchpinref19_Same #[.slice a1 n1 c1, .slice a2 n2 c2] h (fun v h' => v = .bool true ∧ h' = h) := by
  have h1 := s1.1
  have h2 := s2.1
  rw [flat_length] at h1 h2
  apply F_linchpinref19_Same_ok
  unfold F_linchpinref19_Same
  refine ⟨fun q => absurd (by omega) q, fun _ => ?_⟩
  refine ⟨fun i hh => hh = h ∧ 0 ≤ i ∧ i ≤ fs.length, fun i _ => (fs.length - i).toNat, ⟨rfl, by omega, by omega⟩, ?_⟩
  rintro i hh ⟨rfl, i0, i1⟩
  refine ⟨fun hlt => ?_, fun _ => ⟨rfl, rfl⟩⟩
  have hi : i.toNat < fs.length := by omega
  obtain ⟨b1, o1, q1, q2⟩ := Sl_fate s1 (List.getElem?_eq_getElem hi)
  obtain ⟨b2, o2, q3, q4⟩ := Sl_fate s2 (List.getElem?_eq_getElem hi)
  refine ⟨b1, o1, q1, ⟨i0, by omega⟩, fs[i.toNat].id, fs[i.toNat].kind, fs[i.toNat].why, q2, b2, o2, q3, ⟨i0, by omega⟩, fs[i.toNat].id, fs[i.toNat].kind, fs[i.toNat].why, q4, fun q => by simp at q, fun _ => ⟨⟨by omega, by omega⟩, ⟨rfl, by omega, by omega⟩, by dsimp only; omega⟩⟩

/-- the book and the document's book, apart, alike -/
structure Pair (h0 h : Heap) (bb rb : Nat) (s s' : St) (Oa Ob : Nat → Prop) : Prop where
  x : Ext h0 h
  A : BookS Oa h bb s
  B : RefS Ob h rb s'
  fa : ∀ y, Oa y → h0.size ≤ y
  fb : ∀ y, Ob y → h0.size ≤ y
  ab : ∀ y, Oa y → ¬ Ob y
theorem RefS.bnd {Own : Nat → Prop} {h : Heap} {rb : Nat} {st : St} (R : RefS Own h rb st) : ∀ y, Own y → y < h.size := by obtain ⟨_, _, _, _, R⟩ := R; exact R.bnd
theorem RefS.keep {Own : Nat → Prop} {h h' : Heap} {rb : Nat} {st : St} (R : RefS Own h rb st) (hz : h.size ≤ h'.size) (hk : ∀ y, y < h.size → Own y → h'[y]? = h[y]?) : RefS Own h' rb st := by
  obtain ⟨a, b, c, d, R⟩ := R; exact ⟨a, b, c, d, R.keep hz hk⟩
section
variable {h0 h h' : Heap} {bb rb : Nat} {s s' t t' : St} {Oa Ob Oa' Ob' : Nat → Prop}
theorem Pair.ext (P : Pair h0 h bb rb s s' Oa Ob) (e : Ext h h') : Pair h0 h' bb rb s s' Oa Ob :=
  ⟨P.x.trans e, P.A.ext e, P.B.keep e.1 fun y hy _ => e.2 y hy, P.fa, P.fb, P.ab⟩
theorem Pair.left (P : Pair h0 h bb rb s s' Oa Ob) (c : Ch Oa h h') (A' : BookS Oa' h' bb t) (hf : ∀ y, Oa' y → Oa y ∨ h.size ≤ y) : Pair h0 h' bb rb t s' Oa' Ob :=
  ⟨ext_ch P.x c P.fa, A', P.B.keep c.1 (fun y hy hb => c.2 y hy fun ha => P.ab y ha hb), fun y hy => by
    rcases hf y hy with q | q
    · exact P.fa y q
    · have := P.x.1; omega, P.fb, fun y hy hb => by
    rcases hf y hy with q | q
    · exact P.ab y q hb
    · have := P.B.bnd y hb; omega⟩
theorem Pair.right (P : Pair h0 h bb rb s s' Oa Ob) (c : Ch Ob h h') (B' : RefS Ob' h' rb t') (hf : ∀ y, Ob' y → Ob y ∨ h.size ≤ y) : Pair h0 h' bb rb s t' Oa Ob' :=
  ⟨ext_ch P.x c P.fb, P.A.ch c (fun y ha hb => P.ab y ha hb), B', P.fa, fun y hy => by
    rcases hf y hy with q | q
    · exact P.fb y q
    · have := P.x.1; omega, fun y ha hy => by
    rcases hf y hy with q | q
    · exact P.ab y ha q
    · have := P.A.bnd y ha; omega⟩
end

theorem stOpen_F (s : St) (id dead : Int) : (stOpen s id dead).2.F = s.F := by
  rcases stOpen_cases s id dead with ⟨_, e⟩ | ⟨_, e⟩ <;> rw [e]
theorem stOut_F (s : St) (id kind why : Int) : (stOut s id kind why).2.F.length ≤ s.F.length + 1 := by
  rcases stOut_cases s id kind why with ⟨_, e⟩ | ⟨_, e⟩ <;> rw [e] <;> simp
theorem stAnswer_F (s : St) (id status : Int) (bad : Bool) : (stAnswer s id status bad).2.F.length ≤ s.F.length + 1 := by
  unfold stAnswer
  split
  · simp
  split <;> exact stOut_F _ _ _ _
theorem stGo_F (s : St) (t : Int) : (stGo s t).2.2.F.length ≤ s.F.length := by
  unfold stGo
  split
  · exact Nat.le_refl _
  split
  · exact Nat.le_refl _
  · simp
theorem stGo_len (s : St) (t : Int) : (stGo s t).2.1.length ≤ s.F.length + s.L.length := by
  unfold stGo
  split
  · simp
  split
  · simp
  · simp only [List.length_append, List.length_map]
    have := List.length_filter_le (dueBy s.cost t) s.L; omega
end Go.Proofs.Vf
