/- Contracts of package life, and laws that follow from them. Conditions: as stated at each. -/
import Derived.Test.YtobbagjpngkpkaaRA
namespace Go.Proofs.Vf
open Go Go.Proofs Go.VC

theorem fidx_none {L : List One} {id : Int} (h : (look L id).isSome = false) : fidx L id = -1 := by
  have : L.findIdx? (fun o => decide (o.id = id)) = none := by
    rw [List.findIdx?_eq_none_iff]
    intro o ho
    have := look_none.1 (show look L id = none by simpa using h) o ho
    simpa using this
  unfold fidx; rw [this]
theorem fidx_some {L : List One} {id : Int} (hn : (L.map (·.id)).Nodup) (h : (look L id).isSome = true) : ∃ i : Nat, fidx L id = i ∧ i < L.length ∧ L.take i ++ L.drop (i + 1) = del id L ∧ ∃ o, L[i]? = some o ∧ o.id = id := by
  cases hf : L.findIdx? (fun o => decide (o.id = id)) with
  | none =>
    rw [List.findIdx?_eq_none_iff] at hf
    have : look L id = none := look_none.2 fun x hx => by simpa using hf x hx
    rw [this] at h; cases h
  | some i =>
    obtain ⟨hi, h1, h2⟩ := List.findIdx?_eq_some_iff_getElem.1 hf
    have he : L[i].id = id := by simpa using h1
    refine ⟨i, by unfold fidx; rw [hf], hi, ?_, L[i], List.getElem?_eq_getElem hi, he⟩
    have hL : L = L.take i ++ L[i] :: L.drop (i + 1) := by rw [← List.drop_eq_getElem_cons hi, List.take_append_drop]
    have hn' := hn
    rw [hL, List.map_append, List.map_cons, List.nodup_append, List.nodup_cons] at hn'
    obtain ⟨_, ⟨n1, _⟩, n2⟩ := hn'
    conv => rhs; rw [hL]
    unfold del
    rw [List.filter_append, List.filter_cons, if_neg (by simp [he])]
    congr 1
    · symm; rw [List.filter_eq_self]
      intro x hx
      have := n2 x.id (List.mem_map.2 ⟨x, hx, rfl⟩) L[i].id (by simp)
      rw [he] at this; simpa using this
    · symm; rw [List.filter_eq_self]
      intro x hx
      have : x.id ≠ id := fun q => n1 (by rw [he, ← q]; exact List.mem_map.2 ⟨x, hx, rfl⟩)
      simpa using this

section
variable {Own : Nat → Prop} {h : Heap} {rb : Nat} {st : St}

theorem RefS.grow {h' : Heap} (R : RefS Own h' rb st) (hz : h.size ≤ h'.size) (hb : ∀ y, Own y → y < h.size) : RefS (Grow Own h h') h' rb st := by
  obtain ⟨la, lc, fa, fc, R⟩ := R
  exact ⟨la, lc, fa, fc, R.blk, R.L, R.F, ⟨.inl R.own.1, fun y hy => .inl (R.own.2.1 y hy), fun y hy => .inl (R.own.2.2 y hy)⟩, fun y => Grow.bnd hz hb⟩

theorem rout_spec (R : RefS Own h rb st) (hl : st.L.length ≤ 64) (hn : (st.L.map (·.id)).Nodup) (hF : st.F.length < 1000000) (id kind why : Int) :
    CallsH PR fn_linchpinref19_Book_out #[.pointer (some ⟨rb, 0, none⟩), .int .i64 id, .int .i64 kind, .int .i64 why] h
      (fun v h' => v = .int .i64 (stOut st id kind why).1 ∧ Ch Own h h' ∧ RefS (Grow Own h h') h' rb (stOut st id kind why).2) := by
  have RS := R
  obtain ⟨la, lc, fa, fc, R⟩ := R
  have hbnd := R.bnd
  apply F_linchpinref19_Book_out_ok
  unfold F_linchpinref19_Book_out
  refine (find_spec R hl id).mono ?_
  rintro _ h1 ⟨rfl, rfl⟩
  rcases stOut_cases st id kind why with ⟨hs, e⟩ | ⟨hs, e⟩
  · obtain ⟨i, hi, hil, hdel, -⟩ := fidx_some hn hs
    rw [hi, e]
    refine ⟨_, rfl, fun q => absurd q (by omega), fun _ => ?_⟩
    have hLl := R.L.le
    refine ⟨_, _, rfl, _, _, _, cell_lst R.blk rfl, i, rfl, ⟨by omega, by omega, by omega⟩, _, _, _, cell_lst R.blk rfl, ⟨by omega, by omega⟩, i + 1, rfl, ⟨by omega, by omega, by omega⟩, ?_⟩
    intro h19 e19
    obtain ⟨p1, p2, p3⟩ := push_get e19
    have keepR : ∀ {hh : Heap}, Ext h1 hh → RefP Own hh rb st la lc fa fc := fun x => R.keep x.1 fun y hy _ => x.2 y hy
    have R19 := keepR p2
    refine ⟨cell_lst R19.blk rfl, cell_lst R19.blk rfl, _, _, (R19.L.take (Nat.le_of_lt hil)).firstB, ?_⟩
    have s0 : Sl h19 ty_linchpinref19_One 2 (some ⟨h1.size, 0, none⟩) 0 0 [] := ⟨rfl, .inr ⟨_, _, [], rfl, p1, by omega, by simp, rfl⟩⟩
    rw [flatO_take]
    refine s0.app_fresh p2 (fun y hy => by rw [blkOf_some] at hy; omega) (by rw [flatO_length, List.length_take]; omega) (oneCell_flatO _) rfl ⟨by omega, by omega, by omega⟩ ?_
    intro a1 c1 h30 s30 x30 f30
    have R30 := keepR x30
    refine ⟨cell_lst R30.blk rfl, _, _, (R30.L.drop (Nat.succ_le_of_lt hil)).firstB, ?_⟩
    rw [flatO_drop]
    refine s30.app_fresh x30 f30 (by rw [flatO_length, List.length_drop]) (oneCell_flatO _) rfl ⟨by omega, by omega, by omega⟩ ?_
    intro a2 c2 h39 s39 x39 f39
    have R39 := keepR x39
    have hz39 := x39.1
    have hrb := lt_of_get R.blk
    obtain ⟨h41, u1, u2, u3, u4⟩ := st_ex (o := 0 + 2) [.slice a2 (0 + i + (st.L.length - (i + 1))) c2] R39.blk (by simp) (by simp [Value.oneCell'])
    refine ⟨h41, u1, ?_⟩
    have eL : (del id st.L).length = 0 + i + (st.L.length - (i + 1)) := by rw [← hdel, List.length_append, List.length_take, List.length_drop]; omega
    have fv : ∀ y, blkOf a2 y → y ≠ rb := fun y hy => by have := f39 y hy; omega
    have s41 : Sl h41 ty_linchpinref19_One 2 a2 (0 + i + (st.L.length - (i + 1))) c2 (flatO (del id st.L)) := by
      have := s39.keep (h' := h41) fun y _ hb => u3 y (fv y hb)
      rw [List.nil_append, ← flatO_append, hdel] at this; exact this
    have F41 : Sl h41 ty_api_Fate 3 fa st.F.length fc (flat st.F) := R39.F.keep fun y _ hb => u3 y (R.fb hb)
    refine ⟨_, _, _, cell_lst u2 rfl, ?_⟩
    intro h44 e44
    obtain ⟨w1, w2, w3⟩ := push_get e44
    refine (F41.ext w2).append (m := 1) rfl (by simp [Value.oneCell']) rfl ⟨by omega, by omega, by omega⟩ ?_
    intro a' c' h53 s53 c53 f53
    have hz44 := w2.1; have hz53 := c53.1
    have k53 : ∀ y, y < h41.size → ¬ blkOf fa y → h53[y]? = h41[y]? := fun y hy hb => by rw [c53.2 y (by omega) hb, w2.2 y hy]
    have b53 := (k53 rb (by omega) (fun q => R.fb q rfl)).trans u2
    have hfa : ∀ y, blkOf fa y → y < h1.size := fun y hy => hbnd y (R.own.2.2 y hy)
    have hnew : ∀ y, blkOf a' y → blkOf fa y ∨ h1.size ≤ y := fun y hy => by
      rcases f53 y hy with q | q
      · exact .inl q
      · exact .inr (by omega)
    obtain ⟨h55, v1, v2, v3, v4⟩ := st_ex (o := 0 + 3) [.slice a' (st.F.length + 1) c'] b53 (by simp [spl]) (by simp [Value.oneCell'])
    refine ⟨h55, v1, rfl, ⟨by omega, fun y hy hy' => ?_⟩, a2, c2, a', c', ?_⟩
    · have n1 : y ≠ rb := fun e => hy' (e ▸ R.own.1)
      rw [v3 y n1, k53 y (by omega) (fun q => hy' (R.own.2.2 y q)), u3 y n1, x39.2 y hy]
    · have hb2 : ∀ y, blkOf a2 y → y < h41.size := fun y hy => s41.blk_lt hy
      refine ⟨?_, ?_, ?_, ⟨.inl R.own.1, fun y hy => ?_, fun y hy => ?_⟩, fun y => Grow.bnd (by omega) hbnd⟩
      · rw [v2]
        simp only [spl, eL, List.length_append]
        rfl
      · show Sl h55 ty_linchpinref19_One 2 a2 (del id st.L).length c2 (flatO (del id st.L))
        rw [eL]
        exact s41.keep fun y hy hb => by rw [v3 y (fv y hb), k53 y hy (fun q => by have := hfa y q; have := f39 y hb; omega)]
      · show Sl h55 ty_api_Fate 3 a' (st.F ++ [Fate.mk id kind why]).length c' (flat (st.F ++ [Fate.mk id kind why]))
        rw [List.length_append, flat_append]
        exact s53.keep fun y _ hb => v3 y fun q => by
          rcases hnew y hb with r | r
          · exact R.fb r q
          · omega
      · have := f39 y hy; have := hb2 y hy; exact .inr (by omega)
      · rcases hnew y hy with r | r
        · exact .inl (R.own.2.2 y r)
        · have := s53.blk_lt hy; exact .inr (by omega)
  · rw [fidx_none hs, e]
    exact ⟨_, rfl, fun _ => ⟨rfl, Ch.refl _ _, RS.grow (Nat.le_refl _) hbnd⟩, fun q => absurd (by omega) q⟩

theorem ranswer_spec (R : RefS Own h rb st) (hl : st.L.length ≤ 64) (hn : (st.L.map (·.id)).Nodup) (hF : st.F.length < 1000000) (id status : Int) (bad : Bool) :
    CallsH PR fn_linchpinref19_Book_Answer #[.pointer (some ⟨rb, 0, none⟩), .int .i64 id, .int .i64 status, .bool bad] h
      (fun v h' => v = .int .i64 (stAnswer st id status bad).1 ∧ Ch Own h h' ∧ RefS (Grow Own h h') h' rb (stAnswer st id status bad).2) := by
  have hbnd : ∀ y, Own y → y < h.size := by obtain ⟨_, _, _, _, R⟩ := R; exact R.bnd
  apply F_linchpinref19_Book_Answer_ok
  unfold F_linchpinref19_Book_Answer stAnswer
  refine ⟨fun hb => ?_, fun hb => ?_⟩
  · have hc : status < 0 ∨ status > 255 := by simpa using hb
    rw [if_pos hc]
    exact ⟨rfl, Ch.refl _ _, R.grow (Nat.le_refl _) hbnd⟩
  · have hc : ¬ (status < 0 ∨ status > 255) := by simp at hb; omega
    rw [if_neg hc]
    refine ⟨fun hbad => ?_, fun hbad => ?_⟩
    · subst hbad
      refine (rout_spec R hl hn hF id 2 2).mono ?_
      rintro _ h3 ⟨rfl, c3, B3⟩
      exact ⟨_, rfl, rfl, c3, B3⟩
    · subst hbad
      refine (rout_spec R hl hn hF id 1 status).mono ?_
      rintro _ h3 ⟨rfl, c3, B3⟩
      exact ⟨_, rfl, rfl, c3, B3⟩
theorem rcancel_spec (R : RefS Own h rb st) (hl : st.L.length ≤ 64) (hn : (st.L.map (·.id)).Nodup) (hF : st.F.length < 1000000) (id : Int) :
    CallsH PR fn_linchpinref19_Book_Cancel #[.pointer (some ⟨rb, 0, none⟩), .int .i64 id] h
      (fun v h' => v = .int .i64 (stCancel st id).1 ∧ Ch Own h h' ∧ RefS (Grow Own h h') h' rb (stCancel st id).2) := by
  apply F_linchpinref19_Book_Cancel_ok
  unfold F_linchpinref19_Book_Cancel stCancel
  refine (rout_spec R hl hn hF id 2 3).mono ?_
  rintro _ h3 ⟨rfl, c3, B3⟩
  exact ⟨_, rfl, rfl, c3, B3⟩
end
end Go.Proofs.Vf
