/- Contracts of package life, and laws that follow from them. Conditions: as stated at each. -/
import Derived.Test.YtobbagjpngkpkaaRB
import Derived.Test.YtobbagjpngkpkaaLK
namespace Go.Proofs.Vf
open Go Go.Proofs Go.VC

theorem due_split {c t : Int} : ∀ {L : List One} {k : Nat}, srt L → (∀ x ∈ L.take k, dueBy c t x = true) → (∀ x, L[k]? = some x → dueBy c t x = false) → L.filter (dueBy c t) = L.take k ∧ L.filter (fun x => !dueBy c t x) = L.drop k
  | [], k, _, _, _ => by simp
  | a :: L, 0, hs, _, h2 => by
    have ha := h2 a rfl
    have hall : ∀ x ∈ a :: L, dueBy c t x = false := fun x hx => by
      rcases List.mem_cons.1 hx with rfl | hx
      · exact ha
      · have := less_iff.1 ((List.pairwise_cons.1 hs).1 x hx)
        simp [dueBy] at ha ⊢; omega
    refine ⟨List.filter_eq_nil_iff.2 fun x hx => by simp [hall x hx], List.filter_eq_self.2 fun x hx => by simp [hall x hx]⟩
  | a :: L, k + 1, hs, h1, h2 => by
    have ha : dueBy c t a = true := h1 a (by simp)
    obtain ⟨i1, i2⟩ := due_split (L := L) (k := k) (List.pairwise_cons.1 hs).2 (fun x hx => h1 x (by simp [hx])) (fun x hx => h2 x (by simpa using hx))
    refine ⟨by rw [List.filter_cons, if_pos ha, i1]; rfl, by rw [List.filter_cons, if_neg (by simp [ha]), i2]; rfl⟩

def lenAt (hh : Heap) (rb : Nat) : Nat := match cellH hh rb (0 + 2) with | some (.slice _ n _) => n | _ => 0
theorem lenAt_of {Own : Nat → Prop} {h : Heap} {rb : Nat} {st : St} (R : RefS Own h rb st) : lenAt h rb = st.L.length := by
  obtain ⟨la, lc, fa, fc, R⟩ := R
  have : cellH h rb (0 + 2) = some (.slice la st.L.length lc) := cell_lst R.blk rfl
  simp only [lenAt, this]

section
variable {Own : Nat → Prop} {h : Heap} {rb : Nat} {st : St}
theorem rgo_spec (R : RefS Own h rb st) (hok : StOk D0 st) (hF : st.F.length < 900000) {t : Int} (h0 : 0 ≤ t) :
    CallsH PR fn_linchpinref19_Book_Go #[.pointer (some ⟨rb, 0, none⟩), .int .u64 t] h
      (fun v h' => ∃ a c Own', v = .tuple #[.slice a (stGo st t).2.1.length c, .int .i64 (stGo st t).1] ∧ RefS Own' h' rb (stGo st t).2.2 ∧ Ch Own h h' ∧ (∀ y, Own' y → Own y ∨ h.size ≤ y) ∧
        Sl h' ty_api_Fate 3 a (stGo st t).2.1.length c (flat (stGo st t).2.1) ∧ ∀ y, blkOf a y → ¬ Own' y ∧ (Own y ∨ h.size ≤ y)) := by
  have RS := R
  obtain ⟨la, lc, fa, fc, R⟩ := R
  have hbnd := R.bnd
  have hcost := hok.cost
  apply F_linchpinref19_Book_Go_ok
  unfold F_linchpinref19_Book_Go
  refine ⟨fun hbig => ?_, fun hsm => ?_⟩
  · have e : stGo st t = (2, [], st) := by unfold stGo; rw [if_pos (by omega)]
    rw [e]
    exact ⟨none, 0, Own, rfl, RS, Ch.refl _ _, fun y => .inl, Sl.nil _ _ _, fun y hy => absurd hy not_blkOf_none⟩
  refine ⟨_, _, rfl, _, cell_lst R.blk rfl, fun hlt => ?_, fun hge => ?_⟩
  · have e : stGo st t = (1, [], st) := by unfold stGo; rw [if_neg (by omega), if_pos hlt]
    rw [e]
    exact ⟨none, 0, Own, rfl, RS, Ch.refl _ _, fun y => .inl, Sl.nil _ _ _, fun y hy => absurd hy not_blkOf_none⟩
  have e : stGo st t = (0, st.F ++ (st.L.filter (dueBy st.cost t)).map byTime, { st with now := t, L := st.L.filter (fun x => !dueBy st.cost t x), F := [] }) := by
    unfold stGo; rw [if_neg (by omega), if_neg (by omega)]
  rw [e]
  obtain ⟨h9, u1, u2, u3, u4⟩ := st_ex (o := 0 + 1) [.int .u64 t] R.blk (by simp) (by simp [Value.oneCell'])
  have hrb := lt_of_get R.blk
  have R9 : RefS Own h9 rb { st with now := t, L := st.L.drop 0, F := st.F ++ (st.L.take 0).map byTime } := by
    refine ⟨la, lc, fa, fc, ?_⟩
    simp only [List.drop_zero, List.take_zero, List.map_nil, List.append_nil]
    exact ⟨u2, R.L.keep fun y _ hb => u3 y (R.lb hb), R.F.keep fun y _ hb => u3 y (R.fb hb), R.own, fun y hy => by have := hbnd y hy; omega⟩
  have c9 : Ch Own h h9 := ⟨by omega, fun y _ hn => u3 y fun q => hn (q ▸ R.own.1)⟩
  refine ⟨h9, u1, fun hh => ∃ k, k ≤ st.L.length ∧ Ch Own h hh ∧ RefS (Grow Own h hh) hh rb { st with now := t, L := st.L.drop k, F := st.F ++ (st.L.take k).map byTime } ∧ ∀ x ∈ st.L.take k, dueBy st.cost t x = true, fun hh => lenAt hh rb, ⟨0, Nat.zero_le _, c9, ?_, fun x hx => by simp at hx⟩, ?_⟩
  · exact (RefS.grow (h := h) R9 c9.1 hbnd)
  rintro hh ⟨k, hk, ch, Rk, hdue⟩
  have RkS := Rk
  obtain ⟨la1, lc1, fa1, fc1, Rk⟩ := Rk
  have hz := ch.1
  have hln : (st.L.drop k).length = st.L.length - k := List.length_drop
  have hl64 := hok.len
  -- the head
  have head : (0 : Int) < (st.L.drop k).length → ∃ o, st.L[k]? = some o ∧ st.L.drop k = o :: st.L.drop (k + 1) ∧ ∃ b off, la1 = some ⟨b, off, none⟩ ∧ cellH hh b off = some (.int .i64 o.id) ∧ cellH hh b (off + 1) = some (.int .u64 o.dead) := by
    intro hpos
    have hkl : k < st.L.length := by omega
    obtain ⟨o, ho⟩ : ∃ o, st.L[k]? = some o := ⟨_, List.getElem?_eq_getElem hkl⟩
    have hd : st.L.drop k = o :: st.L.drop (k + 1) := by
      rw [List.drop_eq_getElem_cons hkl]; congr 1
      rw [List.getElem?_eq_getElem hkl] at ho; exact Option.some.inj ho
    have h0' : (st.L.drop k)[0]? = some o := by rw [hd]; rfl
    obtain ⟨g1, g2⟩ := flatO_get h0'
    obtain ⟨b, off, e1, c1⟩ := Rk.L.get g1
    obtain ⟨b', off', e2, c2⟩ := Rk.L.get g2
    rw [e1] at e2; cases e2
    exact ⟨o, ho, hd, b, off, e1, c1, c2⟩
  have cL : cellH hh rb (0 + 2) = some (.slice la1 (st.L.drop k).length lc1) := cell_lst Rk.blk rfl
  have fin : (∀ x, st.L[k]? = some x → dueBy st.cost t x = false) → ∃ (x40a : Option Addr) (x40n : Nat) (x40c : Nat), cellH hh rb (0 + 3) = some (.slice x40a x40n x40c) ∧ ∃ (h43 : Heap), stCells rb hh (0 + 3) [.slice none 0 0] = some h43 ∧
      ∃ a c Own', Value.tuple #[.slice x40a x40n x40c, .int .i64 0] = .tuple #[.slice a (st.F ++ (st.L.filter (dueBy st.cost t)).map byTime).length c, .int .i64 0] ∧ RefS Own' h43 rb { st with now := t, L := st.L.filter (fun x => !dueBy st.cost t x), F := [] } ∧ Ch Own h h43 ∧ (∀ y, Own' y → Own y ∨ h.size ≤ y) ∧
        Sl h43 ty_api_Fate 3 a (st.F ++ (st.L.filter (dueBy st.cost t)).map byTime).length c (flat (st.F ++ (st.L.filter (dueBy st.cost t)).map byTime)) ∧ ∀ y, blkOf a y → ¬ Own' y ∧ (Own y ∨ h.size ≤ y) := by
    intro hno
    obtain ⟨f1, f2⟩ := due_split hok.srt hdue hno
    obtain ⟨h43, v1, v2, v3, v4⟩ := st_ex (o := 0 + 3) [.slice none 0 0] Rk.blk (by simp) (by simp [Value.oneCell'])
    rw [f1, f2]
    have hsub : ∀ y, Grow Own h hh y → Own y ∨ h.size ≤ y := grow_sub'
    refine ⟨_, _, _, cell_lst Rk.blk rfl, h43, v1, fa1, fc1, fun y => Grow Own h hh y ∧ ¬ blkOf fa1 y, rfl, ⟨la1, lc1, none, 0, v2, Rk.L.keep fun y _ hb => v3 y (Rk.lb hb), Sl.nil _ _ _, ⟨⟨Rk.own.1, fun q => Rk.fb q rfl⟩, fun y hy => ⟨Rk.own.2.1 y hy, Rk.lf hy⟩, fun y hy => absurd hy not_blkOf_none⟩, fun y hy => by have := Rk.bnd y hy.1; omega⟩, ?_, fun y hy => hsub y hy.1, Rk.F.keep fun y _ hb => v3 y (Rk.fb hb), fun y hy => ⟨fun q => q.2 hy, hsub y (Rk.own.2.2 y hy)⟩⟩
    exact ⟨by omega, fun y hy hn => by rw [v3 y (fun q => hn (q ▸ R.own.1)), ch.2 y hy hn]⟩
  by_cases hpos : (0 : Int) < (st.L.drop k).length
  · obtain ⟨o, ho, hd, b, off, rfl, c1, c2⟩ := head hpos
    have hom : o ∈ st.L := List.mem_of_getElem? ho
    have hr := hok.rng o hom
    have hdc := hr.2.2.1 (fun q => q)
    have hnow := hok.now
    have wd : IntKind.u64.wrap (o.dead - st.cost) = o.dead - st.cost := wrap_u64 (by omega) (by omega)
    refine ⟨_, _, _, cL, _, _, _, fun _ => cL, b, off, fun _ => rfl, fun _ => ⟨by omega, hpos⟩, o.dead, fun _ => c2, st.cost, fun _ => cell_lst Rk.blk rfl, fun hc => ?_, fun hc => ?_⟩
    · rw [wd] at hc
      have hdo : dueBy st.cost t o = true := by simp at hc; simp [dueBy]; omega
      refine ⟨_, _, _, cL, b, off, rfl, ⟨by omega, hpos⟩, o.id, c1, ?_⟩
      have hndk : ((st.L.drop k).map (·.id)).Nodup := List.Nodup.sublist ((List.drop_sublist k st.L).map _) hok.nd
      refine (rout_spec RkS (by dsimp only; omega) hndk (by simp; omega) o.id 2 1).mono ?_
      rintro _ h37 ⟨rfl, c37, R37⟩
      have hlk : look (st.L.drop k) o.id = some o.dead := (look_some hndk).2 (by rw [hd]; simp)
      have hdel : del o.id (st.L.drop k) = st.L.drop (k + 1) := by
        rw [hd] at hndk ⊢
        simp only [List.map_cons, List.nodup_cons] at hndk
        unfold del
        rw [List.filter_cons, if_neg (by simp), List.filter_eq_self]
        intro x hx
        have : x.id ≠ o.id := fun q => hndk.1 (by rw [← q]; exact List.mem_map.2 ⟨x, hx, rfl⟩)
        simpa using this
      have htk : st.L.take (k + 1) = st.L.take k ++ [o] := by rw [List.take_add_one, ho]; rfl
      have est : (stOut { st with now := t, L := st.L.drop k, F := st.F ++ (st.L.take k).map byTime } o.id 2 1).2 = { st with now := t, L := st.L.drop (k + 1), F := st.F ++ (st.L.take (k + 1)).map byTime } := by
        unfold stOut
        rw [if_pos (by rw [hlk]; rfl), ← hdel, htk, List.map_append, ← List.append_assoc]
        rfl
      rw [est] at R37
      have hz37 := c37.1
      have R37' : RefS (Grow Own h h37) h37 rb { st with now := t, L := st.L.drop (k + 1), F := st.F ++ (st.L.take (k + 1)).map byTime } := by
        obtain ⟨a1, a2, a3, a4, R'⟩ := R37
        exact ⟨a1, a2, a3, a4, R'.blk, R'.L, R'.F, ⟨Grow.trans hz hz37 R'.own.1, fun y hy => Grow.trans hz hz37 (R'.own.2.1 y hy), fun y hy => Grow.trans hz hz37 (R'.own.2.2 y hy)⟩, fun y => Grow.bnd (by omega) hbnd⟩
      refine ⟨_, rfl, ⟨k + 1, by omega, ch.grow_trans c37, R37', fun x hx => ?_⟩, ?_⟩
      · rw [htk] at hx
        rcases List.mem_append.1 hx with q | q
        · exact hdue x q
        · simp at q; rw [q]; exact hdo
      · dsimp only
        rw [lenAt_of R37', lenAt_of RkS]
        simp only [List.length_drop]; omega
    · rw [wd] at hc
      refine fin fun x hx => ?_
      rw [ho] at hx; cases hx
      simp at hc; simp [dueBy]; omega
  · refine ⟨_, _, _, cL, none, 0, 0, fun q => absurd q hpos, 0, 0, fun q => absurd q hpos, fun q => absurd q hpos, 0, fun q => absurd q hpos, 0, fun q => absurd q hpos, fun q => ?_, fun _ => fin fun x hx => ?_⟩
    · simp only [Bool.and_eq_true, decide_eq_true_eq] at q
      exact absurd q.1 hpos
    · have := (List.getElem?_eq_some_iff.1 hx).1
      omega
end
end Go.Proofs.Vf
