/- Contracts of package life, and laws that follow from them. Conditions: as stated at each. -/
import Derived.Test.YtobbagjpngkpkaaLC
namespace Go.VC
theorem Sl.set1 {h : Heap} {e b o n c i : Nat} {vs : List Value} {v : Value} (s : Sl h e 1 (some ⟨b, o, none⟩) n c vs) (hi : i < n) (hv : v.oneCell' = true) :
    ∃ h', stCells b h (o + i * 1) [v] = some h' ∧ Sl h' e 1 (some ⟨b, o, none⟩) n c (vs.set i v) ∧ Ch (blkOf (some ⟨b, o, none⟩)) h h' := by
  rcases s.2 with ⟨q, _⟩ | ⟨b', o', cur, q, hb, hn, hc, hq⟩
  · cases q
  cases q
  have hl := s.1
  simp only [Nat.mul_one] at hq hc hl ⊢
  obtain ⟨h', q1, q2, q3, q4⟩ := st_ex (o := o + i) [v] hb (by simp; omega) (by simpa using hv)
  rw [spl_one (by omega)] at q2
  refine ⟨h', q1, ⟨by rw [List.length_set]; omega, .inr ⟨b, o, _, rfl, q2, hn, by rw [List.length_set]; omega, ?_⟩⟩, ⟨by omega, fun x _ hx => q3 x fun e => hx (blkOf_some.2 e)⟩⟩
  rw [Nat.mul_one, ← hq]
  apply List.ext_getElem?
  intro j
  simp only [List.getElem?_set, List.getElem?_take, List.getElem?_drop, List.length_take, List.length_drop]
  by_cases hj : i = j
  · subst hj
    rw [if_pos hi, if_pos rfl, if_pos (by omega), if_pos rfl, if_pos (by omega)]
  · rw [if_neg hj]
    by_cases hjn : j < n
    · rw [if_pos hjn, if_pos hjn, if_neg (by omega)]
    · rw [if_neg hjn, if_neg hjn]
end Go.VC
namespace Go.Proofs.Vf
open Go Go.Proofs Go.VC
section
variable {Own : Nat → Prop} {h : Heap} {bb : Nat} {st : St} {x : BX} {D : Int → Prop}

theorem before_spec (B : BookP Own h bb st D x) {a b : One} (ha : a ∈ st.L) (hb : b ∈ st.L) :
    CallsH PR fn_life_Book_before #[.pointer (some ⟨bb, 0, none⟩), .int .i64 a.id, .int .i64 b.id] h (fun v h' => v = .bool (less a b) ∧ h' = h) := by
  have la : look st.L a.id = some a.dead := (look_some B.st.nd).2 ha
  have lb : look st.L b.id = some b.dead := (look_some B.st.nd).2 hb
  apply F_life_Book_before_ok
  unfold F_life_Book_before
  refine ⟨_, _, rfl, _, cell_lst B.blk (bc_map _), x.l, x.c, B.all, x.tm a.id, a.dead, by rw [B.ent, la]; rfl, _, cell_lst B.blk (bc_map _), x.l, x.c, B.all, x.tm b.id, b.dead, by rw [B.ent, lb]; rfl, ?_, rfl⟩
  rfl

theorem mid_get {α : Type} (A : List α) (y : α) (C : List α) : (A ++ y :: C)[A.length]? = some y := by simp
def idsOf (os : List One) : List Value := os.map fun o => Value.int .i64 o.id
theorem idsOf_get (A : List One) (y : One) (C : List One) : (idsOf (A ++ y :: C))[A.length]? = some (.int .i64 y.id) := by
  unfold idsOf; rw [List.getElem?_map, mid_get]; rfl
theorem idsOf_swap (A : List One) (z y : One) (C : List One) : ((idsOf (A ++ z :: y :: C)).set (A.length + 1) (.int .i64 z.id)).set A.length (.int .i64 y.id) = idsOf (A ++ y :: z :: C) := by
  unfold idsOf
  simp only [List.map_append, List.map_cons]
  rw [List.set_append_right _ _ (by simp), List.set_append_right _ _ (by simp)]
  simp

theorem sorted_spec (B : BookP Own h bb st D x) {ts : List Int} {du : List One} {a : Option Addr} {c : Nat} (s : Sl h ty_int 1 a ts.length c (ts.map (Value.int .i64)))
    (hts : ts = du.map fun o => x.tm o.id) (hdu : ∀ o ∈ du, o ∈ st.L) (hnd : (du.map (·.id)).Nodup) :
    CallsH PR fn_life_Book_sorted #[.pointer (some ⟨bb, 0, none⟩), .slice a ts.length c] h
      (fun v h' => ∃ a' c' os, v = .slice a' (List.length os) c' ∧ List.Perm os du ∧ srt os ∧ Ext h h' ∧ Sl h' ty_int 1 a' os.length c' (idsOf os) ∧ ∀ y, blkOf a' y → h.size ≤ y) := by
  have hlen : ts.length = du.length := by rw [hts, List.length_map]
  have hdl : du.length ≤ 64 := by
    have h1 := B.st.len
    have h2 : (du.map (·.id)).length ≤ (st.L.map (·.id)).length := List.Nodup.length_le_of_subset hnd (by
      intro v hv
      obtain ⟨o, ho, rfl⟩ := List.mem_map.1 hv
      exact List.mem_map.2 ⟨o, hdu o ho, rfl⟩)
    simp only [List.length_map] at h2; omega
  apply F_life_Book_sorted_ok
  unfold F_life_Book_sorted
  refine ⟨ts.length, rfl, ⟨by omega, by omega, by omega⟩, ?_⟩
  intro h1 e1
  obtain ⟨p1, p2, p3⟩ := push_get e1
  refine ⟨fun a1 n1 c1 i hh => 0 ≤ i ∧ i ≤ ts.length ∧ (n1 : Int) = i ∧ Ext h hh ∧ Sl hh ty_int 1 a1 n1 c1 (idsOf (du.take i.toNat)) ∧ ∀ y, blkOf a1 y → h.size ≤ y, fun _ _ _ i _ => (ts.length - i).toNat,
    ⟨by omega, by omega, rfl, p2, ⟨by simp [idsOf], .inr ⟨_, _, (madeCells ((Value.int .i64 0)).cells (ts.length * 1)).toList, rfl, p1, by omega, ?_, by simp [idsOf]⟩⟩, fun y hy => by rw [blkOf_some] at hy; omega⟩, ?_⟩
  · simp [madeCells, Value.cells]
  rintro a1 n1 c1 i hh ⟨i0, i1, hn, xx, sl, hf⟩
  refine ⟨fun hlt => ?_, fun hge => ?_⟩
  · have hi : i.toNat < du.length := by omega
    obtain ⟨o, ho⟩ : ∃ o, du[i.toNat] = o := ⟨_, rfl⟩
    have hmem : o ∈ st.L := ho ▸ hdu _ (List.getElem_mem hi)
    have hlk : look st.L o.id = some o.dead := (look_some B.st.nd).2 hmem
    obtain ⟨⟨t0, t1⟩, _, hid, _⟩ := B.tmr _ _ hlk
    obtain ⟨b, off, rfl, hc⟩ := (s.ext xx).get (i := i.toNat) (v := .int .i64 (x.tm o.id)) (by rw [hts, List.map_map, List.getElem?_map, List.getElem?_eq_getElem hi, ho]; rfl)
    refine ⟨b, off, rfl, ⟨i0, hlt⟩, x.tm o.id, by rw [Nat.mul_one]; exact hc, _, _, rfl, ⟨t0, t1⟩, o.id, cell_lst (xx.get B.blk) (bc_id _ hid), ?_⟩
    intro h25 e25
    obtain ⟨q1, q2, q3⟩ := push_get e25
    refine (sl.ext q2).append (m := 1) rfl (by simp [Value.oneCell']) rfl ⟨by omega, by omega, by omega⟩ ?_
    intro a' c' h' s' c'' hf'
    have hz := xx.1; have hz' := q2.1; have hz'' := c''.1
    refine ⟨⟨by omega, by omega⟩, ⟨by omega, by omega, by omega, ⟨by omega, fun y hy => ?_⟩, ?_, fun y hy => ?_⟩, by dsimp only; omega⟩
    · rw [c''.2 y (by omega) (fun q => by have := hf y q; omega), q2.2 y (by omega), xx.2 y hy]
    · have e : (i + 1).toNat = i.toNat + 1 := by omega
      rw [e, List.take_add_one, List.getElem?_eq_getElem hi, ho]
      unfold idsOf at s' ⊢
      rw [List.map_append]; exact s'
    · rcases hf' y hy with q | q
      · exact hf y q
      · omega
  · have hi : i.toNat = du.length := by omega
    rw [hi, List.take_length] at sl
    have hn1 : n1 = du.length := by omega
    subst hn1
    refine ⟨fun k hh => 0 ≤ k ∧ k ≤ du.length ∧ Ext h hh ∧ ∃ os : List One, os.Perm du ∧ srt (os.take k.toNat) ∧ Sl hh ty_int 1 a1 du.length c1 (idsOf os), fun k _ => (du.length - k).toNat, ⟨by omega, by omega, xx, du, .refl _, by simp [srt], sl⟩, ?_⟩
    rintro k hh ⟨k0, k1, xk, os, hp, hs, slk⟩
    have hol := hp.length_eq
    refine ⟨fun hklt => ?_, fun hkge => ?_⟩
    · have hkn : k.toNat < os.length := by omega
      refine ⟨fun m hh => ∃ A y Bs C, 0 ≤ m ∧ Ext h hh ∧ (A ++ y :: (Bs ++ C)).Perm du ∧ (A.length : Int) = m ∧ (A.length + Bs.length : Int) = k ∧ srt (A ++ Bs) ∧ (∀ z ∈ Bs, less y z = true) ∧ Sl hh ty_int 1 a1 du.length c1 (idsOf (A ++ y :: (Bs ++ C))), fun m _ => m.toNat,
        ⟨os.take k.toNat, os[k.toNat], [], os.drop (k.toNat + 1), k0, xk, ?_, by rw [List.length_take]; omega, by rw [List.length_take]; simp; omega, by rw [List.append_nil]; exact hs, fun z hz => (by cases hz), ?_⟩, ?_⟩
      · rw [List.nil_append, ← List.drop_eq_getElem_cons hkn, List.take_append_drop]; exact hp
      · rw [List.nil_append, ← List.drop_eq_getElem_cons hkn, List.take_append_drop]; exact slk
      rintro m h46 ⟨A, y, Bs, C, m0, x46, hpm, hA, hAB, hsr, hall, slm⟩
      have hmem : ∀ o, o ∈ A ++ y :: (Bs ++ C) → o ∈ st.L := fun o ho => hdu o (hpm.mem_iff.1 ho)
      have hndm : ((A ++ y :: (Bs ++ C)).map (·.id)).Nodup := (hpm.map (·.id)).nodup_iff.2 hnd
      have hlm := hpm.length_eq
      simp only [List.length_append, List.length_cons] at hlm
      -- the end of the inner loop
      have fin : srt (A ++ y :: Bs) → (-9223372036854775808 ≤ k + 1 ∧ k + 1 < 9223372036854775808) ∧ ((0 ≤ k + 1 ∧ k + 1 ≤ du.length ∧ Ext h h46 ∧ ∃ os : List One, os.Perm du ∧ srt (os.take (k + 1).toNat) ∧ Sl h46 ty_int 1 a1 du.length c1 (idsOf os)) ∧ ((du.length : Int) - (k + 1)).toNat < ((du.length : Int) - k).toNat) := by
        intro hsr2
        refine ⟨⟨by omega, by omega⟩, ⟨by omega, by omega, x46, _, hpm, ?_, slm⟩, by omega⟩
        have e : (k + 1).toNat = (A ++ y :: Bs).length := by simp; omega
        have e2 : A ++ y :: (Bs ++ C) = (A ++ y :: Bs) ++ C := by simp
        rw [e, e2, List.take_left]; exact hsr2
      -- by the last one before
      rcases List.eq_nil_or_concat A with rfl | ⟨A', z, rfl⟩
      · have hm : m = 0 := by simpa using hA.symm
        subst hm
        refine ⟨0, 0, fun q => absurd q (by omega), fun q => absurd q (by omega), 0, fun q => absurd q (by omega), 0, 0, fun q => absurd q (by omega), fun q => absurd q (by omega), 0, fun q => absurd q (by omega), fun _ h61 => h61 = h46, ?_, fun q => absurd q (by omega), fun _ => ⟨false, rfl⟩⟩
        rintro b h61 rfl
        refine ⟨fun q => by simp at q, fun _ => ?_⟩
        apply fin
        rw [List.nil_append] at hsr ⊢
        exact List.pairwise_cons.2 ⟨hall, hsr⟩
      · simp only [List.concat_eq_append] at *
        have hAl : (A'.length : Int) = m - 1 := by simp at hA; omega
        have hm1 : 0 < m := by omega
        have hml : m.toNat = (A' ++ [z]).length := by simp; omega
        have hml1 : (m - 1).toNat = A'.length := by omega
        have ew : IntKind.i64.wrap (m - 1) = m - 1 := wrap_i64 ⟨by omega, by omega⟩
        have el : A' ++ [z] ++ y :: (Bs ++ C) = A' ++ z :: y :: (Bs ++ C) := by simp
        have gy : (idsOf (A' ++ [z] ++ y :: (Bs ++ C)))[m.toNat]? = some (.int .i64 y.id) := by rw [hml]; exact idsOf_get _ _ _
        have gz : (idsOf (A' ++ [z] ++ y :: (Bs ++ C)))[(m - 1).toNat]? = some (.int .i64 z.id) := by rw [hml1, el]; exact idsOf_get _ _ _
        obtain ⟨b, off, rfl, cy⟩ := slm.get gy
        obtain ⟨b', off', eq', cz⟩ := slm.get gz
        cases eq'
        have hzy : z.id ≠ y.id := by
          intro e
          rw [el, List.map_append, List.map_cons, List.map_cons, List.nodup_append] at hndm
          have := (List.nodup_cons.1 hndm.2.1).1
          exact this (by rw [e]; simp)
        have B46 : BookP Own h46 bb st D x := B.ext x46
        refine ⟨b, off, fun _ => rfl, fun _ => ⟨by omega, by omega⟩, y.id, fun _ => by rw [Nat.mul_one]; exact cy, b, off, fun _ => rfl, fun _ => by rw [ew]; exact ⟨by omega, by omega⟩, z.id, fun _ => by rw [ew, Nat.mul_one]; exact cz, fun bo h61 => h61 = h46 ∧ bo = less y z, ?_, fun _ => ?_, fun q => absurd hm1 q⟩
        · rintro bo h61 ⟨rfl, rfl⟩
          refine ⟨fun hb => ?_, fun hb => ?_⟩
          · have hyz : less y z = true := by simp at hb; exact hb.2
            refine ⟨⟨by omega, by omega⟩, ⟨by omega, by omega⟩, b, off, rfl, ⟨by omega, by omega⟩, z.id, by rw [Nat.mul_one]; exact cz, ⟨by omega, by omega⟩, y.id, by rw [Nat.mul_one]; exact cy, ⟨by omega, by omega⟩, ?_⟩
            obtain ⟨h78, u1, u2, u3⟩ := slm.set1 (i := m.toNat) (v := .int .i64 z.id) (by omega) rfl
            obtain ⟨h81, v1, v2, v3⟩ := u2.set1 (i := (m - 1).toNat) (v := .int .i64 y.id) (by omega) rfl
            have em : m.toNat = A'.length + 1 := by omega
            rw [em, hml1, el, idsOf_swap] at v2
            refine ⟨h78, u1, ⟨by omega, by omega⟩, h81, v1, ⟨by omega, by omega⟩, ⟨A', y, z :: Bs, C, by omega, ?_, ?_, hAl, ?_, ?_, ?_, v2⟩, by omega⟩
            · have hz := x46.1
              refine ⟨by have := u3.1; have := v3.1; omega, fun w hw => ?_⟩
              have hnb : ¬ blkOf (some ⟨b, off, none⟩) w := fun q => by have := hf w q; omega
              rw [v3.2 w (by have := u3.1; omega) hnb, u3.2 w (by omega) hnb, x46.2 w hw]
            · refine List.Perm.trans ?_ hpm
              rw [el]
              exact (List.Perm.swap z y _).append_left A'
            · simp at hAB ⊢; omega
            · have : A' ++ z :: Bs = A' ++ [z] ++ Bs := by simp
              rw [this]; exact hsr
            · intro w hw
              rcases List.mem_cons.1 hw with rfl | hw
              · exact hyz
              · exact hall w hw
          · have hyz : less y z = false := by simp [hm1] at hb; exact hb
            apply fin
            have hzy2 : less z y = true := by
              rcases less_tri hzy with q | q
              · exact q
              · rw [hyz] at q; cases q
            unfold srt at hsr ⊢
            rw [List.pairwise_append] at hsr ⊢
            obtain ⟨s1, s2, s3⟩ := hsr
            refine ⟨s1, List.pairwise_cons.2 ⟨hall, s2⟩, fun p hp q hq => ?_⟩
            rcases List.mem_cons.1 hq with rfl | hq
            · rcases List.mem_append.1 hp with hp | hp
              · have := (List.pairwise_append.1 s1).2.2 p hp z (by simp)
                exact less_trans this hzy2
              · simp only [List.mem_singleton] at hp; subst hp; exact hzy2
            · exact s3 p hp q hq
        · refine (before_spec B46 (hmem y (by simp)) (hmem z (by simp))).mono ?_
          rintro _ _ ⟨rfl, rfl⟩
          exact ⟨_, rfl, rfl, rfl⟩
    · have hk : k.toNat = os.length := by omega
      rw [hk, List.take_length] at hs
      refine ⟨a1, c1, os, by rw [hol], hp, hs, xk, by rw [hol]; exact slk, hf⟩
end
end Go.Proofs.Vf
