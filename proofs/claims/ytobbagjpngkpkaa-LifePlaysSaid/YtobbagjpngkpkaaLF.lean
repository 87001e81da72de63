/- Contracts of package life, and laws that follow from them. Conditions: as stated at each. -/
import Derived.Test.YtobbagjpngkpkaaLE
import Derived.Test.YtobbagjpngkpkaaFLaw
namespace Go.VC
theorem Sl.ld {h : Heap} {e sz : Nat} {a : Option Addr} {n c : Nat} {vs : List Value} (s : Sl h e sz a n c vs) {i : Nat} (hi : i < n) : ∃ b o, a = some ⟨b, o, none⟩ ∧ ldCells h b (o + i * sz) sz = some ((vs.drop (i * sz)).take sz) := by
  rcases s.2 with ⟨rfl, rfl, rfl⟩ | ⟨b, o, cur, rfl, hb, hn, hc, hq⟩
  · omega
  · refine ⟨b, o, rfl, ?_⟩
    have h1 : (i + 1) * sz ≤ n * sz := Nat.mul_le_mul_right _ hi
    have h2 : n * sz ≤ c * sz := Nat.mul_le_mul_right _ hn
    rw [Nat.add_mul, Nat.one_mul] at h1
    rw [ld_lst hb _ _ (by omega), ← hq, List.drop_take, List.take_take, List.drop_drop]
    congr 3
    omega
end Go.VC
namespace Go.Proofs.Vf
open Go Go.Proofs Go.VC

theorem flat_drop : ∀ (fs : List Fate) (i : Nat) (f : Fate), fs[i]? = some f → ((flat fs).drop (i * 3)).take 3 = fateV f
  | [], i, f, h => by simp at h
  | a :: fs, 0, f, h => by
    simp at h; subst h
    simp [flat, fateV]
  | a :: fs, i + 1, f, h => by
    have := flat_drop fs i f (by simpa using h)
    have e : (i + 1) * 3 = 3 + i * 3 := by omega
    simp only [flat, List.flatMap_cons] at this ⊢
    rw [e, ← List.drop_drop]
    have : (fateV a ++ List.flatMap fateV fs).drop 3 = List.flatMap fateV fs := by simp [fateV]
    rw [this]; assumption
theorem Sl_fate {h : Heap} {e : Nat} {a : Option Addr} {n c : Nat} {fs : List Fate} (s : Sl h e 3 a n c (flat fs)) {i : Nat} {f : Fate} (hf : fs[i]? = some f) :
    ∃ b o, a = some ⟨b, o, none⟩ ∧ ldCells h b (o + i * 3) 3 = some (fateV f) := by
  have hl := s.1
  rw [flat_length] at hl
  have hi : i < n := by have := (List.getElem?_eq_some_iff.1 hf).1; omega
  obtain ⟨b, o, h1, h2⟩ := s.ld hi
  exact ⟨b, o, h1, by rw [h2, flat_drop fs i f hf]⟩

/-- a book that a law has made itself -/
def Lv (h0 h : Heap) (bb : Nat) (st : St) : Prop := Ext h0 h ∧ ∃ Own, BookS Own h bb st ∧ ∀ y, Own y → h0.size ≤ y

section
variable {h0 h : Heap} {bb : Nat} {st : St}
theorem ext_ch {Own : Nat → Prop} {h' : Heap} (x : Ext h0 h) (c : Ch Own h h') (ho : ∀ y, Own y → h0.size ≤ y) : Ext h0 h' :=
  ⟨Nat.le_trans x.1 c.1, fun y hy => by rw [c.2 y (Nat.lt_of_lt_of_le hy x.1) (fun q => absurd (ho y q) (by omega)), x.2 y hy]⟩
theorem lv_of {Own : Nat → Prop} {h' : Heap} {st' : St} (x : Ext h0 h) (ho : ∀ y, Own y → h0.size ≤ y) (c : Ch Own h h') (B : BookS (Grow Own h h') h' bb st') : Lv h0 h' bb st' :=
  ⟨ext_ch x c ho, _, B, fun y hy => by rcases hy with q | q; exact ho y q; have := x.1; omega⟩
theorem Lv.ext {h' : Heap} (L : Lv h0 h bb st) (e : Ext h h') : Lv h0 h' bb st := by
  obtain ⟨x, Own, B, ho⟩ := L
  exact ⟨x.trans e, Own, B.ext e, ho⟩

theorem lv_new (x : Ext h0 h) {cost : Int} (hc : 1 ≤ cost ∧ cost ≤ 1000) :
    CallsH PR fn_life_New #[.int .u64 cost] h (fun v h' => ∃ bb, v = .tuple #[.pointer (some ⟨bb, 0, none⟩), .int .i64 0] ∧ Lv h0 h' bb ⟨cost, 0, [], []⟩) := by
  refine (bnew_spec h hc).mono ?_
  rintro _ h' ⟨bb, rfl, xx, B⟩
  exact ⟨bb, rfl, x.trans xx, _, B, fun y hy => by have := x.1; have := hy.1; omega⟩
theorem lv_open (L : Lv h0 h bb st) (id dead : Int) (hd0 : 0 ≤ dead) :
    CallsH PR fn_life_Book_Open #[.pointer (some ⟨bb, 0, none⟩), .int .i64 id, .int .u64 dead] h (fun v h' => v = .int .i64 (stOpen st id dead).1 ∧ Lv h0 h' bb (stOpen st id dead).2) := by
  obtain ⟨x, Own, B, ho⟩ := L
  refine (open_spec B id dead hd0).mono ?_
  rintro _ h' ⟨rfl, c, B'⟩
  exact ⟨rfl, lv_of x ho c B'⟩
theorem lv_answer (L : Lv h0 h bb st) (hF : st.F.length < 1000000) (id status : Int) (bad : Bool) :
    CallsH PR fn_life_Book_Answer #[.pointer (some ⟨bb, 0, none⟩), .int .i64 id, .int .i64 status, .bool bad] h (fun v h' => v = .int .i64 (stAnswer st id status bad).1 ∧ Lv h0 h' bb (stAnswer st id status bad).2) := by
  obtain ⟨x, Own, B, ho⟩ := L
  refine (answer_spec B hF id status bad).mono ?_
  rintro _ h' ⟨rfl, c, B'⟩
  exact ⟨rfl, lv_of x ho c B'⟩
theorem lv_count (L : Lv h0 h bb st) : CallsH PR fn_life_Book_Count #[.pointer (some ⟨bb, 0, none⟩)] h (fun v h' => v = .int .i64 (st.L.length : Nat) ∧ Lv h0 h' bb st) := by
  have L' := L
  obtain ⟨x, Own, B, ho⟩ := L
  refine (count_spec B).mono ?_
  rintro _ h' ⟨rfl, rfl⟩
  exact ⟨rfl, L'⟩
theorem lv_has (L : Lv h0 h bb st) (id : Int) : CallsH PR fn_life_Book_Has #[.pointer (some ⟨bb, 0, none⟩), .int .i64 id] h
    (fun v h' => v = .tuple #[.int .u64 ((look st.L id).getD 0), .bool (look st.L id).isSome] ∧ Lv h0 h' bb st) := by
  have L' := L
  obtain ⟨x, Own, B, ho⟩ := L
  refine (has_spec B id).mono ?_
  rintro _ h' ⟨rfl, e⟩
  exact ⟨rfl, L'.ext e⟩
theorem lv_go (L : Lv h0 h bb st) (hF : st.F.length < 900000) {t : Int} (ht : 0 ≤ t) :
    CallsH PR fn_life_Book_Go #[.pointer (some ⟨bb, 0, none⟩), .int .u64 t] h
      (fun v h' => ∃ a c, v = .tuple #[.slice a (stGo st t).2.1.length c, .int .i64 (stGo st t).1] ∧ Lv h0 h' bb (stGo st t).2.2 ∧ Sl h' ty_api_Fate 3 a (stGo st t).2.1.length c (flat (stGo st t).2.1) ∧ ∀ y, blkOf a y → h0.size ≤ y) := by
  obtain ⟨x, Own, B, ho⟩ := L
  refine (bgo_spec B hF ht).mono ?_
  rintro _ h' ⟨a, c, Own', rfl, B', cc, hf, s, hb⟩
  have hz := x.1
  have hg : ∀ y, Own y ∨ h.size ≤ y → h0.size ≤ y := fun y hy => by
    rcases hy with q | q
    · exact ho y q
    · omega
  exact ⟨a, c, rfl, ⟨ext_ch x cc ho, Own', B', fun y hy => hg y (hf y hy)⟩, s, fun y hy => hg y (hb y hy).2⟩
end

theorem awake_spec (h : Heap) : CallsH PR fn_linchpinlaw19_awake #[] h (fun v h' => v = .bool true ∧ Ext h h') := by
  apply F_linchpinlaw19_awake_ok
  unfold F_linchpinlaw19_awake
  refine (lv_new (Ext.refl h) ⟨by omega, by omega⟩).mono ?_
  rintro _ h1 ⟨bb, rfl, L⟩
  refine ⟨_, _, rfl, fun q => by simp at q, fun _ => ?_⟩
  refine (lv_open L 7 20 (by omega)).mono ?_
  rintro _ h2 ⟨rfl, L⟩
  refine ⟨_, rfl, ?_⟩
  refine (lv_open L 8 30 (by omega)).mono ?_
  rintro _ h3 ⟨rfl, L⟩
  refine ⟨_, rfl, ?_⟩
  refine (lv_answer L (by decide) 8 3 false).mono ?_
  rintro _ h4 ⟨rfl, L⟩
  refine ⟨_, rfl, ?_⟩
  refine (lv_answer L (by decide) 8 3 false).mono ?_
  rintro _ h5 ⟨rfl, L⟩
  refine ⟨_, rfl, ?_⟩
  refine (lv_go L (by decide) (t := 15) (by omega)).mono ?_
  rintro _ h6 ⟨a, c, rfl, L, s, -⟩
  obtain ⟨b, o, ha, hl0⟩ := Sl_fate s (i := 0) (f := ⟨8, 1, 3⟩) (by decide)
  obtain ⟨b', o', ha', hl1⟩ := Sl_fate s (i := 1) (f := ⟨7, 2, 1⟩) (by decide)
  rw [ha] at ha'; cases ha'
  refine ⟨a, _, c, _, rfl, b, o, fun _ => ha, fun _ => ⟨by omega, by decide⟩, 8, 1, 3, fun _ => by simpa [fateV] using hl0, b, o, fun _ => ha, fun _ => ⟨by omega, by decide⟩, 7, 2, 1, fun _ => by simpa [fateV] using hl1, ?_⟩
  refine ⟨fun x45 h43 => x45 = 0 ∧ Lv h h43 bb (stGo (stAnswer (stAnswer (stOpen (stOpen ⟨5, 0, [], []⟩ 7 20).2 8 30).2 8 3 false).2 8 3 false).2 15).2.2, ?_, fun _ => ?_, fun q => absurd q (by decide)⟩
  · rintro x45 h43 ⟨rfl, L⟩
    refine ⟨fun x50 h48 => x50 = 11 ∧ Ext h h48, ?_, fun _ => ?_, fun q => absurd q (by decide)⟩
    · rintro x50 h48 ⟨rfl, x⟩
      exact ⟨congrArg Value.bool (by decide), x⟩
    · refine (lv_open L 7 20 (by omega)).mono ?_
      rintro _ h7 ⟨rfl, L⟩
      exact ⟨_, rfl, by decide, L.1⟩
  · refine (lv_count L).mono ?_
    rintro _ h7 ⟨rfl, L⟩
    exact ⟨_, rfl, by decide, L⟩
end Go.Proofs.Vf
