/- Contracts of package life, and laws that follow from them. Conditions: as stated at each. -/
import Derived.Test.YtobbagjpngkpkaaLH
namespace Go.Proofs.Vf
open Go Go.Proofs Go.VC

/-- two books that a law has made, apart from each other -/
structure Two (h0 h : Heap) (ba bb : Nat) (sa sb : St) (Oa Ob : Nat → Prop) : Prop where
  x : Ext h0 h
  A : BookS Oa h ba sa
  B : BookS Ob h bb sb
  fa : ∀ y, Oa y → h0.size ≤ y
  fb : ∀ y, Ob y → h0.size ≤ y
  ab : ∀ y, Oa y → ¬ Ob y

section
variable {h0 h h' : Heap} {ba bb : Nat} {sa sb sa' sb' : St} {Oa Ob Oa' Ob' : Nat → Prop}
theorem Two.left (T : Two h0 h ba bb sa sb Oa Ob) (c : Ch Oa h h') (A' : BookS Oa' h' ba sa') (hf : ∀ y, Oa' y → Oa y ∨ h.size ≤ y) : Two h0 h' ba bb sa' sb Oa' Ob :=
  ⟨ext_ch T.x c T.fa, A', T.B.ch c (fun y hb ha => T.ab y ha hb), fun y hy => by
    rcases hf y hy with q | q
    · exact T.fa y q
    · have := T.x.1; omega, T.fb, fun y hy hb => by
    rcases hf y hy with q | q
    · exact T.ab y q hb
    · have := T.B.bnd y hb; omega⟩
theorem Two.right (T : Two h0 h ba bb sa sb Oa Ob) (c : Ch Ob h h') (B' : BookS Ob' h' bb sb') (hf : ∀ y, Ob' y → Ob y ∨ h.size ≤ y) : Two h0 h' ba bb sa sb' Oa Ob' :=
  ⟨ext_ch T.x c T.fb, T.A.ch c (fun y ha hb => T.ab y ha hb), B', T.fa, fun y hy => by
    rcases hf y hy with q | q
    · exact T.fb y q
    · have := T.x.1; omega, fun y ha hy => by
    rcases hf y hy with q | q
    · exact T.ab y ha q
    · have := T.A.bnd y ha; omega⟩
theorem Two.other {F : Nat → Prop} (T : Two h0 h ba bb sa sb Oa Ob) (c : Ch F h h') (h1 : ∀ y, F y → h0.size ≤ y ∧ ¬ Oa y ∧ ¬ Ob y) : Two h0 h' ba bb sa sb Oa Ob :=
  ⟨ext_ch T.x c (fun y hy => (h1 y hy).1), T.A.ch c (fun y ha hf => (h1 y hf).2.1 ha), T.B.ch c (fun y ha hf => (h1 y hf).2.2 ha), T.fa, T.fb, T.ab⟩
theorem grow_sub {Own : Nat → Prop} {h h' : Heap} : ∀ y, Grow Own h h' y → Own y ∨ h.size ≤ y := fun y hy => by
  rcases hy with q | q
  · exact .inl q
  · exact .inr q.1
end

/-- a slice of outcomes that lies apart from both books -/
structure Apart (h0 h : Heap) (Oa Ob : Nat → Prop) (a : Option Addr) (n c : Nat) (fs : List Fate) : Prop where
  s : Sl h ty_api_Fate 3 a n c (flat fs)
  n : n = fs.length
  f : ∀ y, blkOf a y → h0.size ≤ y ∧ ¬ Oa y ∧ ¬ Ob y

theorem split_filter {c n t : Int} (hnt : n ≤ t) : ∀ {L : List One}, srt L → L.filter (dueBy c n) ++ (L.filter (fun x => !dueBy c n x)).filter (dueBy c t) = L.filter (dueBy c t)
  | [], _ => rfl
  | a :: L, hs => by
    have hs' := List.pairwise_cons.1 hs
    have ih := split_filter (c := c) hnt hs'.2
    by_cases ha : a.dead - c ≤ n
    · have h1 : dueBy c n a = true := by simp [dueBy, ha]
      have h2 : dueBy c t a = true := by simp [dueBy]; omega
      have e : (a :: L).filter (fun x => !dueBy c n x) = L.filter (fun x => !dueBy c n x) := by rw [List.filter_cons, if_neg (by simp [h1])]
      rw [e, List.filter_cons, if_pos h1, List.filter_cons, if_pos h2, List.cons_append, ih]
    · have h1 : dueBy c n a = false := by simp [dueBy]; omega
      have hall : ∀ x ∈ L, dueBy c n x = false := fun x hx => by
        have := less_iff.1 (hs'.1 x hx)
        simp [dueBy]; omega
      have e1 : L.filter (dueBy c n) = [] := List.filter_eq_nil_iff.2 fun x hx => by simp [hall x hx]
      have e2 : L.filter (fun x => !dueBy c n x) = L := List.filter_eq_self.2 fun x hx => by simp [hall x hx]
      simp only [List.filter_cons, h1, e1, e2]
      simp [List.filter_cons]
theorem rest_filter {c n t : Int} (hnt : n ≤ t) (L : List One) : (L.filter (fun x => !dueBy c n x)).filter (fun x => !dueBy c t x) = L.filter (fun x => !dueBy c t x) := by
  rw [List.filter_filter]
  apply List.filter_congr
  intro x _
  by_cases h1 : x.dead - c ≤ n
  · have h2 : x.dead - c ≤ t := by omega
    simp [dueBy, h1, h2]
  · simp [dueBy, h1]

/-- a book that nothing was answered in, at a time -/
def stAt (L0 : List One) (n : Int) : St := ⟨7, n, L0.filter (fun x => !dueBy 7 n x), []⟩
theorem stAt_go {L0 : List One} {n t : Int} (hs : srt L0) (h1 : n ≤ t) (h2 : t < 4611686018427387904) :
    (stGo (stAt L0 n) t).1 = 0 ∧ (stGo (stAt L0 n) t).2.2 = stAt L0 t ∧ (L0.filter (dueBy 7 n)).map byTime ++ (stGo (stAt L0 n) t).2.1 = (L0.filter (dueBy 7 t)).map byTime := by
  have e : stGo (stAt L0 n) t = (0, ((L0.filter (fun x => !dueBy 7 n x)).filter (dueBy 7 t)).map byTime, ⟨7, t, (L0.filter (fun x => !dueBy 7 n x)).filter (fun x => !dueBy 7 t x), []⟩) := by
    unfold stGo stAt
    rw [if_neg (by omega), if_neg (by dsimp only; omega)]
    rfl
  rw [e]
  refine ⟨rfl, by rw [rest_filter h1]; rfl, ?_⟩
  rw [← List.map_append, split_filter h1 hs]

theorem steps_spec (h : Heap) {a1 a2 : Option Addr} {n1 c1 n2 c2 : Nat} {xs ys : List Int} (hA : ArgI h .u16 a1 xs) (hn1 : n1 = xs.length) (hx : ∀ x ∈ xs, 0 ≤ x ∧ x < 65536)
    (hB : ArgI h .u8 a2 ys) (hn2 : n2 = ys.length) (hy : ∀ y ∈ ys, 0 ≤ y ∧ y < 256) :
    CallsH PR fn_linchpinlaw19_LifeSteps #[.slice a1 n1 c1, .slice a2 n2 c2] h (fun v h' => v = .bool true ∧ Ext h h') := by
  subst hn1 hn2
  apply F_linchpinlaw19_LifeSteps_ok
  unfold F_linchpinlaw19_LifeSteps
  have hget : ∀ {i : Int}, 0 ≤ i → i < (xs.length : Int) → ∃ b o x, a1 = some ⟨b, o, none⟩ ∧ (∀ hh, Ext h hh → cellH hh b (o + i.toNat * 1) = some (.int .u16 x)) ∧ (IntKind.u64.wrap (8 + IntKind.u64.wrap x) = 8 + x) ∧ 0 ≤ x ∧ x < 65536 := by
    intro i i0 i1
    have hi : i.toNat < xs.length := by omega
    obtain ⟨b, o, e1, e2⟩ := hA i.toNat xs[i.toNat] (List.getElem?_eq_getElem hi)
    have := hx _ (List.getElem_mem hi)
    exact ⟨b, o, _, e1, fun hh xx => by rw [Nat.mul_one]; exact xx.cell e2, by rw [wrap_u64 (n := xs[i.toNat]) (by omega) (by omega), wrap_u64 (by omega) (by omega)], this.1, this.2⟩
  have hget2 : ∀ {i : Int}, 0 ≤ i → i < (ys.length : Int) → ∃ b o x, a2 = some ⟨b, o, none⟩ ∧ (∀ hh, Ext h hh → cellH hh b (o + i.toNat * 1) = some (.int .u8 x)) ∧ IntKind.u64.wrap x = x ∧ 0 ≤ x ∧ x < 256 := by
    intro i i0 i1
    have hi : i.toNat < ys.length := by omega
    obtain ⟨b, o, e1, e2⟩ := hB i.toNat ys[i.toNat] (List.getElem?_eq_getElem hi)
    have := hy _ (List.getElem_mem hi)
    exact ⟨b, o, _, e1, fun hh xx => by rw [Nat.mul_one]; exact xx.cell e2, wrap_u64 (by omega) (by omega), this.1, this.2⟩
  refine (awake_spec h).mono ?_
  rintro _ h1' ⟨rfl, x1⟩
  refine ⟨true, rfl, fun q => (by cases q), fun _ => ?_⟩
  refine (bnew_spec h1' (cost := 7) ⟨by omega, by omega⟩).mono ?_
  rintro _ h4 ⟨ba, rfl, x4, A4⟩
  refine ⟨_, _, rfl, ?_⟩
  refine (bnew_spec h4 (cost := 7) ⟨by omega, by omega⟩).mono ?_
  rintro _ h8 ⟨bb, rfl, x8, B8⟩
  have hz1 := x1.1; have hz4 := x4.1
  have T8 : Two h h8 ba bb ⟨7, 0, [], []⟩ ⟨7, 0, [], []⟩ _ _ := ⟨(x1.trans x4).trans x8, A4.ext x8, B8, fun y hy => by have := hy.1; omega, fun y hy => by have := hy.1; omega, fun y hy hb => by have := hy.2; have := hb.1; omega⟩
  refine ⟨_, _, rfl, fun q => ?_, fun q => ?_⟩
  · refine ⟨congrArg Value.bool ?_, T8.x⟩
    simpa using q
  have hl : xs.length ≤ 64 ∧ ys.length ≤ 60 := by simp at q; omega
  clear q
  refine ⟨fun i hh => 0 ≤ i ∧ i ≤ xs.length ∧ ∃ s Oa Ob, Two h hh ba bb s s Oa Ob ∧ s.cost = 7 ∧ s.now = 0 ∧ s.F = [] ∧ (s.L.length : Int) = i ∧ ∀ o ∈ s.L, 0 ≤ o.id ∧ o.id < i ∧ 8 ≤ o.dead ∧ o.dead < 65544, fun i _ => (xs.length - i).toNat,
    ⟨by omega, by omega, _, _, _, T8, rfl, rfl, rfl, rfl, fun o ho => by cases ho⟩, ?_⟩
  rintro i hh ⟨i0, i1, s, Oa, Ob, T, hc, hnow, hF, hlen, hall⟩
  refine ⟨fun hlt => ?_, fun hge => ?_⟩
  · obtain ⟨b, o, x, e1, e2, e3, x0, x1⟩ := hget i0 hlt
    have hln : look s.L i = none := look_none.2 fun y hy => by have := hall y hy; omega
    have eo : stOpen s i (8 + x) = (0, { s with L := ins ⟨i, 8 + x⟩ s.L }) := by
      unfold stOpen
      rw [if_neg (by omega), if_neg (by omega), if_neg (by rw [hln]; decide), if_neg (by omega), if_neg (by omega)]
    refine ⟨b, o, e1, ⟨i0, hlt⟩, x, e2 _ T.x, ?_⟩
    rw [e3]
    refine (open_spec T.A i (8 + x) (by omega)).mono ?_
    rw [eo]
    rintro _ h33 ⟨rfl, c33, A33⟩
    have T33 := T.left c33 A33 grow_sub
    refine ⟨_, rfl, fun _ => ⟨i0, hlt⟩, x, fun _ => e2 _ T33.x, ?_⟩
    rw [e3]
    refine ⟨fun y h41 => y = 0 ∧ ∃ Oa Ob, Two h h41 ba bb { s with L := ins ⟨i, 8 + x⟩ s.L } { s with L := ins ⟨i, 8 + x⟩ s.L } Oa Ob, ?_, fun _ => ?_, fun q => absurd rfl q⟩
    · rintro y h41 ⟨rfl, Oa', Ob', T41⟩
      refine ⟨fun q => by simp at q, fun _ => ⟨⟨by omega, by omega⟩, ⟨by omega, by omega, _, _, _, T41, hc, hnow, hF, by dsimp only; rw [ins_length]; omega, fun o ho => ?_⟩, by dsimp only; omega⟩⟩
      rcases mem_ins.1 ho with rfl | ho
      · dsimp only; exact ⟨by omega, by omega, by omega, by omega⟩
      · have := hall o ho; exact ⟨by omega, by omega, by omega, by omega⟩
    · refine (open_spec T33.B i (8 + x) (by omega)).mono ?_
      rw [eo]
      rintro _ h41 ⟨rfl, c41, B41⟩
      exact ⟨_, rfl, rfl, _, _, T33.right c41 B41 grow_sub⟩
  obtain ⟨L0, hL0⟩ : ∃ L0, L0 = s.L := ⟨_, rfl⟩
  have hs0 : srt L0 := by rw [hL0]; exact T.A.sok.srt
  have hn0 : L0.length = xs.length := by rw [hL0]; omega
  have hd0 : ∀ o ∈ L0, 8 ≤ o.dead ∧ o.dead < 65544 := fun o ho => by have := hall o (hL0 ▸ ho); omega
  have es : s = stAt L0 0 := by
    have e1 : L0.filter (fun x => !dueBy 7 0 x) = L0 := List.filter_eq_self.2 fun o ho => by have := hd0 o ho; simp [dueBy]; omega
    unfold stAt; rw [e1, hL0]
    cases s; simp_all
  rw [es] at T
  clear es hall hlen hF hnow hc hL0
  clear s
  have hF0 : ∀ t, (stAt L0 t).F.length < 900000 := fun t => by simp [stAt]
  have hdl : ∀ t, ((L0.filter (dueBy 7 t)).map byTime).length ≤ 64 := fun t => by
    rw [List.length_map]; have := List.length_filter_le (dueBy 7 t) L0; omega
  refine ⟨fun pa pn pc now j hh => 0 ≤ j ∧ j ≤ ys.length ∧ 0 ≤ now ∧ now ≤ 255 * j ∧ ∃ Oa Ob, Two h hh ba bb (stAt L0 now) (stAt L0 0) Oa Ob ∧ Apart h hh Oa Ob pa pn pc ((L0.filter (dueBy 7 now)).map byTime), fun _ _ _ _ j _ => (ys.length - j).toNat, ⟨by omega, by omega, by omega, by omega, Oa, Ob, T, ?_⟩, ?_⟩
  · have e1 : L0.filter (dueBy 7 0) = [] := List.filter_eq_nil_iff.2 fun o ho => by have := hd0 o ho; simp [dueBy]; omega
    rw [e1]
    exact ⟨Sl.nil _ _ _, rfl, fun y hy => absurd hy not_blkOf_none⟩
  clear T
  rintro pa pn pc now j hj ⟨j0, j1, n0, n1, Oa, Ob, T, P⟩
  -- a goes on to a time: its outcomes behind those that there are
  have goA : ∀ {hh : Heap} {Oa Ob : Nat → Prop} {pa : Option Addr} {pn pc : Nat} {t : Int}, Two h hh ba bb (stAt L0 now) (stAt L0 0) Oa Ob → Apart h hh Oa Ob pa pn pc ((L0.filter (dueBy 7 now)).map byTime) → now ≤ t → t < 4611686018427387904 →
      CallsH PR fn_life_Book_Go #[.pointer (some ⟨ba, 0, none⟩), .int .u64 t] hh (fun v h' => ∃ a c Oa', v = .tuple #[.slice a (stGo (stAt L0 now) t).2.1.length c, .int .i64 0] ∧ Two h h' ba bb (stAt L0 t) (stAt L0 0) Oa' Ob ∧ Apart h h' Oa' Ob pa pn pc ((L0.filter (dueBy 7 now)).map byTime) ∧
        Apart h h' Oa' Ob a (stGo (stAt L0 now) t).2.1.length c (stGo (stAt L0 now) t).2.1 ∧ ∀ y, blkOf a y → ¬ blkOf pa y) := by
    intro hh Oa Ob pa pn pc t T P hnt htt
    obtain ⟨g1, g2, g3⟩ := stAt_go hs0 hnt htt
    refine (bgo_spec T.A (hF0 _) (by omega)).mono ?_
    rintro _ h' ⟨a, c, Oa', rfl, A', cc, hf, sl, hb⟩
    rw [g2] at A'
    have T' := T.left cc A' hf
    have hlt : ∀ y, blkOf pa y → y < hh.size := fun y hy => P.s.blk_lt hy
    refine ⟨a, c, Oa', by rw [g1], T', ⟨P.s.ch cc fun y hy => (P.f y hy).2.1, P.n, fun y hy => ⟨(P.f y hy).1, fun q => ?_, (P.f y hy).2.2⟩⟩, ⟨sl, rfl, fun y hy => ?_⟩, fun y hy hp => ?_⟩
    · rcases hf y q with r | r
      · exact (P.f y hy).2.1 r
      · have := hlt y hy; omega
    · obtain ⟨q1, q2⟩ := hb y hy
      refine ⟨?_, q1, fun q => ?_⟩
      · rcases q2 with r | r
        · exact T.fa y r
        · have := T.x.1; omega
      · rcases q2 with r | r
        · exact T.ab y r q
        · have := T.B.bnd y q; omega
    · rcases (hb y hy).2 with r | r
      · exact (P.f y hp).2.1 r
      · have := hlt y hp; omega
  refine ⟨fun hlt => ?_, fun hge => ?_⟩
  · obtain ⟨b, o, y, e1, e2, e3, y0, y1⟩ := hget2 j0 hlt
    have ew : IntKind.u64.wrap (now + y) = now + y := wrap_u64 (by omega) (by omega)
    refine ⟨b, o, e1, ⟨j0, hlt⟩, y, e2 _ T.x, ?_⟩
    rw [e3, ew]
    obtain ⟨g1, g2, g3⟩ := stAt_go hs0 (show now ≤ now + y by omega) (by omega)
    have hd1 := hdl (now + y)
    rw [← g3, List.length_append] at hd1
    refine (goA T P (t := now + y) (by omega) (by omega)).mono ?_
    rintro _ h62 ⟨a, c, Oa', rfl, T', P', Q', hne⟩
    refine ⟨_, _, _, _, rfl, fun q => absurd rfl q, fun _ => ?_⟩
    refine ⟨_, _, Q'.s.firstB, ?_⟩
    have hp := P'.n
    refine P'.s.append (flat_length _) (fun v hv => ?_) rfl ⟨by omega, by omega, by omega⟩ ?_
    · unfold flat at hv
      obtain ⟨f, _, hv⟩ := List.mem_flatMap.1 hv
      simp [fateV] at hv
      rcases hv with rfl | rfl | rfl <;> rfl
    intro a' c' h74 s74 c74 f74
    refine ⟨⟨by omega, by omega⟩, ⟨by omega, by omega, by omega, by omega, Oa', Ob, T'.other c74 P'.f, ?_⟩, by dsimp only; omega⟩
    rw [← g3]
    refine ⟨by rw [flat_append]; exact s74, by rw [List.length_append, ← hp], fun z hz => ?_⟩
    rcases f74 z hz with r | r
    · exact P'.f z r
    · refine ⟨?_, fun q => ?_, fun q => ?_⟩
      · have := T'.x.1; omega
      · have := T'.A.bnd z q; omega
      · have := T'.B.bnd z q; omega
  · obtain ⟨g1, g2, g3⟩ := stAt_go hs0 (show now ≤ 100000 by omega) (by omega)
    have hd1 := hdl 100000
    rw [← g3, List.length_append] at hd1
    refine (goA T P (t := 100000) (by omega) (by omega)).mono ?_
    rintro _ h76 ⟨a, c, Oa', rfl, T', P', Q', hne⟩
    refine ⟨_, _, _, _, rfl, ?_⟩
    obtain ⟨k1, k2, k3⟩ := stAt_go (n := 0) hs0 (show (0 : Int) ≤ 100000 by omega) (by omega)
    have e1 : L0.filter (dueBy 7 0) = [] := List.filter_eq_nil_iff.2 fun o ho => by have := hd0 o ho; simp [dueBy]; omega
    have e2 : L0.filter (dueBy 7 100000) = L0 := List.filter_eq_self.2 fun o ho => by have := hd0 o ho; simp [dueBy]; omega
    rw [e1, List.map_nil, List.nil_append] at k3
    refine (bgo_spec T'.B (hF0 _) (by omega)).mono ?_
    rw [k1, k2, k3]
    rintro _ h80 ⟨a3, c3, Ob', rfl, B80, c80, hf80, s80, hb80⟩
    have T80 := T'.right c80 B80 hf80
    have Qs := Q'.s.ch c80 fun y hy => (Q'.f y hy).2.2
    have Ps := P'.s.ch c80 fun y hy => (P'.f y hy).2.2
    refine ⟨_, _, _, _, rfl, _, _, Qs.firstB, ?_⟩
    have hp := P'.n
    refine Ps.append (flat_length _) (fun v hv => ?_) rfl ⟨by omega, by omega, by omega⟩ ?_
    · unfold flat at hv
      obtain ⟨f, _, hv⟩ := List.mem_flatMap.1 hv
      simp [fateV] at hv
      rcases hv with rfl | rfl | rfl <;> rfl
    intro a' c' h91 s91 c91 f91
    rw [← flat_append, g3] at s91
    have hz80 := c80.1
    have hz76 := T'.x.1
    have x91 : Ext h h91 := ext_ch T80.x c91 fun y hy => (P'.f y hy).1
    have s80' : Sl h91 ty_api_Fate 3 a3 _ c3 (flat ((L0.filter (dueBy 7 100000)).map byTime)) := s80.ch c91 fun y hy hp => by
      rcases (hb80 y hy).2 with r | r
      · exact (P'.f y hp).2.2 r
      · have := P'.s.blk_lt hp; omega
    have hlen : pn + (stGo (stAt L0 now) 100000).2.1.length = ((L0.filter (dueBy 7 100000)).map byTime).length := by
      rw [← g3, List.length_append, ← hp]
    refine ⟨fun q => ?_, fun _ => ?_⟩
    · rw [hlen, e2] at q
      simp at q; omega
    obtain ⟨fs, hfs⟩ : ∃ fs, fs = (L0.filter (dueBy 7 100000)).map byTime := ⟨_, rfl⟩
    rw [← hfs] at s91 s80' hlen ⊢
    refine ⟨fun i hh => hh = h91 ∧ 0 ≤ i ∧ i ≤ fs.length, fun i _ => (fs.length - i).toNat, ⟨rfl, by omega, by omega⟩, ?_⟩
    rintro i hh ⟨rfl, i0, i1⟩
    refine ⟨fun hlt => ?_, fun _ => ⟨rfl, x91⟩⟩
    have hi : i.toNat < fs.length := by omega
    obtain ⟨b1, o1, q1, q2⟩ := Sl_fate s91 (List.getElem?_eq_getElem hi)
    obtain ⟨b2, o2, q3, q4⟩ := Sl_fate s80' (List.getElem?_eq_getElem hi)
    refine ⟨b1, o1, q1, ⟨i0, by omega⟩, fs[i.toNat].id, fs[i.toNat].kind, fs[i.toNat].why, q2, b2, o2, q3, ⟨i0, hlt⟩, fs[i.toNat].id, fs[i.toNat].kind, fs[i.toNat].why, q4, fun q => by simp at q, fun _ => ⟨⟨by omega, by omega⟩, ⟨rfl, by omega, by omega⟩, by dsimp only; omega⟩⟩
end Go.Proofs.Vf
