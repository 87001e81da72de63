/- Contracts of package life, and laws that follow from them. Conditions: as stated at each. -/
import Derived.Test.YtobbagjpngkpkaaLD
namespace Go.Proofs.Vf
open Go Go.Proofs Go.VC

theorem exists_map {α β : Type} {f : β → α} {P : β → Prop} : ∀ {l : List α}, (∀ v ∈ l, ∃ o, P o ∧ f o = v) → ∃ du : List β, l = du.map f ∧ ∀ o ∈ du, P o
  | [], _ => ⟨[], rfl, fun _ h => by cases h⟩
  | v :: l, h => by
    obtain ⟨o, h1, h2⟩ := h v (by simp)
    obtain ⟨du, h3, h4⟩ := exists_map (l := l) fun w hw => h w (by simp [hw])
    refine ⟨o :: du, by rw [List.map_cons, h2, ← h3], fun p hp => ?_⟩
    rcases List.mem_cons.1 hp with rfl | hp
    · exact h1
    · exact h4 p hp
theorem nodup_of_map {α β : Type} {f : α → β} {l : List α} (h : (l.map f).Nodup) : l.Nodup := by
  rw [List.nodup_iff_pairwise_ne, List.pairwise_map] at h
  exact List.nodup_iff_pairwise_ne.2 (h.imp fun hab e => hab (by rw [e]))
theorem srt_nodup {L : List One} (h : srt L) : L.Nodup := by
  refine List.nodup_iff_pairwise_ne.2 (List.Pairwise.imp (fun {a b} hab e => ?_) h)
  subst e
  have := less_asymm hab
  rw [hab] at this; cases this
theorem srt_unique {L M : List One} (hp : L.Perm M) (h1 : srt L) (h2 : srt M) : L = M := by
  refine List.Perm.eq_of_pairwise (le := fun a b => less a b = true) ?_ h1 h2 hp
  intro a b _ _ hab hba
  have := less_asymm hab
  rw [hba] at this; cases this
theorem nd_inj {L : List One} (hn : (L.map (·.id)).Nodup) {a b : One} (ha : a ∈ L) (hb : b ∈ L) (e : a.id = b.id) : a = b := by
  have h1 := (look_some hn (id := a.id) (d := a.dead)).2 ha
  have h2 := (look_some hn (id := b.id) (d := b.dead)).2 hb
  rw [e, h2] at h1
  cases a; cases b
  simp at e h1 ⊢
  exact ⟨e, h1.symm⟩

section
variable {Own : Nat → Prop} {h : Heap} {bb : Nat} {st : St} {x : BX} {D : Int → Prop}

theorem bgo_spec (B : BookS Own h bb st) (hF : st.F.length < 900000) {t : Int} (h0 : 0 ≤ t) :
    CallsH PR fn_life_Book_Go #[.pointer (some ⟨bb, 0, none⟩), .int .u64 t] h
      (fun v h' => ∃ a c Own', v = .tuple #[.slice a (stGo st t).2.1.length c, .int .i64 (stGo st t).1] ∧ BookS Own' h' bb (stGo st t).2.2 ∧ Ch Own h h' ∧ (∀ y, Own' y → Own y ∨ h.size ≤ y) ∧
        Sl h' ty_api_Fate 3 a (stGo st t).2.1.length c (flat (stGo st t).2.1) ∧ ∀ y, blkOf a y → ¬ Own' y ∧ (Own y ∨ h.size ≤ y)) := by
  have BS := B
  have hbnd := B.bnd
  have hok := stGo_ok B.sok h0
  obtain ⟨x, B⟩ := B
  have hcost := B.st.cost
  apply F_life_Book_Go_ok
  unfold F_life_Book_Go
  refine ⟨_, _, rfl, _, cell_lst B.blk (bc_wheel _), ?_⟩
  refine (go_spec B.wheel B.good h0).mono ?_
  rintro _ h6 (⟨hv, rfl, rfl⟩ | ⟨hv, hlt, rfl, rfl⟩ | ⟨hv, hge, a, n, c, F, ids, rfl, I⟩)
  · have e : stGo st t = (2, [], st) := by unfold stGo; rw [if_pos (by omega)]
    refine ⟨_, _, _, _, rfl, fun _ => ?_, fun q => absurd q (by decide)⟩
    rw [e]
    exact ⟨none, 0, Own, rfl, BS, Ch.refl _ _, fun y => .inl, Sl.nil _ _ _, fun y hy => absurd hy not_blkOf_none⟩
  · have e : stGo st t = (1, [], st) := by unfold stGo; rw [if_neg (by omega), if_pos hlt]
    refine ⟨_, _, _, _, rfl, fun _ => ?_, fun q => absurd q (by decide)⟩
    rw [e]
    exact ⟨none, 0, Own, rfl, BS, Ch.refl _ _, fun y => .inl, Sl.nil _ _ _, fun y hy => absurd hy not_blkOf_none⟩
  have e : stGo st t = (0, st.F ++ (st.L.filter (dueBy st.cost t)).map byTime, { st with now := t, L := st.L.filter (fun x => !dueBy st.cost t x), F := [] }) := by
    unfold stGo; rw [if_neg (by omega), if_neg (by omega)]
  rw [e] at hok ⊢
  refine ⟨_, _, _, _, rfl, fun q => absurd rfl q, fun _ => ?_⟩
  have hz6 := I.ch.1
  obtain rfl : ids.length = n := I.len
  obtain ⟨D, hD⟩ : ∃ D : Int → Prop, D = fun id => ∃ d, look st.L id = some d ∧ d - st.cost ≤ t := ⟨_, rfl⟩
  have hFout : ∀ y, y < h.size → ¬ x.WF y → ¬ F y := fun y hy hw hf => by
    rcases I.foot y hf with q | q
    · exact hw q
    · omega
  have hfa : ∀ y, blkOf x.fa y → y < h.size := fun y hy => hbnd y (B.own.2.2.2 y hy)
  -- the book, when the timers have gone off
  have B6 : BookP (fun y => Own y ∨ F y) h6 bb { st with now := t } D { x with S := left x.S t, WF := F } :=
    { B with
      blk := by rw [I.ch.2 _ (lt_of_get B.blk) B.dis.1]; exact B.blk
      wheel := I.wheel
      good := left_good _ _
      all := by
        show h6[x.mo]? = _
        rw [I.ch.2 _ (lt_of_get B.all) B.dis.2.1]; exact B.all
      tmr := fun id d hd => by
        obtain ⟨r1, r2, r3, r4, _⟩ := B.tmr id d hd
        obtain ⟨s, hs, hst⟩ := r4 (fun q => q)
        refine ⟨r1, r2, r3, fun hn => ?_, fun hy => ?_⟩
        · have : t < s.t := by
            rw [hst]
            by_cases hq : d - st.cost ≤ t
            · exact absurd (by rw [hD]; exact ⟨d, hd, hq⟩) hn
            · omega
          exact ⟨_, left_of hs this, hst⟩
        · rw [hD] at hy
          obtain ⟨d', h1, h2⟩ := hy
          change look st.L id = some d at hd
          rw [hd] at h1; cases h1
          exact left_none hs (by omega)
      spot := fun k s hs => by
        obtain ⟨s0, h1, _, _⟩ := left_some hs
        exact B.spot k s0 h1
      fates := B.fates.keep fun y hy hb => I.ch.2 y hy (B.dis.2.2 y hb)
      own := ⟨.inl B.own.1, .inl B.own.2.1, fun y hy => .inr hy, fun y hy => .inl (B.own.2.2.2 y hy)⟩
      dis := ⟨hFout _ (lt_of_get B.blk) B.dis.1, hFout _ (lt_of_get B.all) B.dis.2.1, fun y hy => hFout y (hfa y hy) (B.dis.2.2 y hy)⟩
      bnd := fun y hy => by
        rcases hy with q | q
        · have := hbnd y q; omega
        · exact I.wheel.bnd y q
      st := by
        refine ⟨B.st.cost, ⟨h0, hv⟩, B.st.srt, B.st.nd, fun o ho => ?_, B.st.len⟩
        have r := B.st.rng o ho
        refine ⟨r.1, r.2.1, fun hn => ?_, r.2.2.2⟩
        have hl := (look_some B.st.nd (id := o.id) (d := o.dead)).2 ho
        rw [hD] at hn
        by_cases hq : o.dead - st.cost ≤ t
        · exact absurd ⟨o.dead, hl, hq⟩ hn
        · show t + st.cost < o.dead
          omega }
  -- who is due
  obtain ⟨du, hdu, hdP⟩ : ∃ du : List One, ids = du.map (fun o => x.tm o.id) ∧ ∀ o ∈ du, o ∈ st.L ∧ o.dead - st.cost ≤ t := by
    refine exists_map fun v hv => ?_
    obtain ⟨s, hs, hle⟩ := (I.mem v).1 hv
    obtain ⟨id, d, h1, h2⟩ := B.spot v s hs
    obtain ⟨_, _, _, r4, _⟩ := B.tmr id d h1
    obtain ⟨s', hs', hst⟩ := r4 (fun q => q)
    rw [h2, hs] at hs'; cases hs'
    exact ⟨⟨id, d⟩, ⟨(look_some B.st.nd).1 h1, by show d - st.cost ≤ t; omega⟩, h2⟩
  have hdn : du.Nodup := nodup_of_map (hdu ▸ I.nodup)
  have hdn2 : (du.map (·.id)).Nodup := by
    have h1 : (du.map fun o => x.tm o.id).Nodup := hdu ▸ I.nodup
    have h2 : (du.map fun o => x.tm o.id) = (du.map (·.id)).map x.tm := by rw [List.map_map]; rfl
    rw [h2] at h1
    exact nodup_of_map h1
  have hdm : ∀ o, o ∈ du ↔ o ∈ st.L.filter (dueBy st.cost t) := by
    intro o
    rw [List.mem_filter, dueBy, decide_eq_true_eq]
    constructor
    · exact hdP o
    · rintro ⟨h1, h2⟩
      have hl := (look_some B.st.nd (id := o.id) (d := o.dead)).2 h1
      obtain ⟨_, _, _, r4, _⟩ := B.tmr _ _ hl
      obtain ⟨s, hs, hst⟩ := r4 (fun q => q)
      have : x.tm o.id ∈ ids := (I.mem _).2 ⟨s, hs, by omega⟩
      rw [hdu] at this
      obtain ⟨o', h3, h4⟩ := List.mem_map.1 this
      have h5 := (hdP o' h3).1
      have h6 := B.tm_inj ((look_some B.st.nd (id := o'.id) (d := o'.dead)).2 h5) hl h4
      rw [← nd_inj B.st.nd h5 h1 h6]; exact h3
  refine (sorted_spec B6 I.out hdu (fun o ho => (hdP o ho).1) hdn2).mono ?_
  rintro _ h11 ⟨a', c', os, rfl, hperm, hsrt, x11, s11, hfr⟩
  have hos : os = st.L.filter (dueBy st.cost t) := by
    refine srt_unique (hperm.trans ?_) hsrt (List.Pairwise.sublist List.filter_sublist B.st.srt)
    rw [List.perm_ext_iff_of_nodup hdn ((srt_nodup B.st.srt).sublist List.filter_sublist)]
    exact hdm
  have hosm : ∀ o ∈ os, o ∈ st.L := fun o ho => by rw [hos] at ho; exact (List.mem_filter.1 ho).1
  have hosn : os.Nodup := hperm.nodup_iff.2 hdn
  have hosl : os.length ≤ 64 := by
    have h1 := B.st.len
    have h2 : os.length ≤ st.L.length := by rw [hos]; exact List.length_filter_le _ _
    omega
  refine ⟨_, _, _, rfl, fun i hh => 0 ≤ i ∧ i ≤ os.length ∧ Ch (fun y => Own y ∨ F y) h11 hh ∧ ∃ xi, BookP (Grow (fun y => Own y ∨ F y) h11 hh) hh bb { st with now := t, L := st.L.filter (fun o => decide (o ∉ os.take i.toNat)), F := st.F ++ (os.take i.toNat).map byTime } D xi,
    fun i _ => (os.length - i).toNat, ⟨by omega, by omega, Ch.refl _ _, { x with S := left x.S t, WF := F }, ?_⟩, ?_⟩
  · have e1 : st.L.filter (fun o => decide (o ∉ os.take (0 : Int).toNat)) = st.L := by
      rw [List.filter_eq_self]; intro o _; simp
    have e2 : st.F ++ (os.take (0 : Int).toNat).map byTime = st.F := by simp
    rw [e1, e2]
    exact (B6.ext x11).mono (fun _ => .inl) (fun y => Grow.bnd (Nat.le_refl _) (B6.ext x11).bnd)
  rintro i hh ⟨i0, i1, ch, xi, Bi⟩
  have hOb : ∀ y, Own y ∨ F y → y < h6.size := B6.bnd
  have sli : Sl hh ty_int 1 a' os.length c' (idsOf os) := s11.ch ch fun y hy hq => by
    have := hfr y hy; have := hOb y hq; omega
  have hz11 := x11.1
  refine ⟨fun hlt => ?_, fun hge2 => ?_⟩
  · have hi : i.toNat < os.length := by omega
    obtain ⟨o, ho⟩ : ∃ o, os[i.toNat] = o := ⟨_, rfl⟩
    have hmem : o ∈ os := ho ▸ List.getElem_mem hi
    obtain ⟨b, off, rfl, hc⟩ := sli.get (i := i.toNat) (v := .int .i64 o.id) (by unfold idsOf; rw [List.getElem?_map, List.getElem?_eq_getElem hi, ho]; rfl)
    have hnt : o ∉ os.take i.toNat := by
      intro hin
      rw [List.mem_take_iff_getElem] at hin
      obtain ⟨q, hq, he⟩ := hin
      have := List.pairwise_iff_getElem.1 hosn q i.toNat (by omega) hi (by omega)
      exact this (he.trans ho.symm)
    refine ⟨b, off, rfl, ⟨i0, hlt⟩, o.id, by rw [Nat.mul_one]; exact hc, ?_⟩
    refine (outD_spec Bi (by simp; omega) o.id 2 1).mono ?_
    rintro _ h26 ⟨rfl, c26, x26, B26⟩
    refine ⟨_, rfl, ⟨by omega, by omega⟩, ⟨by omega, by omega, ch.grow_trans c26, x26, ?_⟩, by dsimp only; omega⟩
    have hin : o ∈ st.L.filter (fun o => decide (o ∉ os.take i.toNat)) := List.mem_filter.2 ⟨hosm o hmem, by simpa using hnt⟩
    have hlk := (look_some Bi.st.nd (id := o.id) (d := o.dead)).2 hin
    have est : (stOut { st with now := t, L := st.L.filter (fun o => decide (o ∉ os.take i.toNat)), F := st.F ++ (os.take i.toNat).map byTime } o.id 2 1).2 =
        { st with now := t, L := st.L.filter (fun o => decide (o ∉ os.take (i + 1).toNat)), F := st.F ++ (os.take (i + 1).toNat).map byTime } := by
      unfold stOut
      rw [if_pos (by rw [hlk]; rfl)]
      have e : (i + 1).toNat = i.toNat + 1 := by omega
      have e3 : os.take (i + 1).toNat = os.take i.toNat ++ [o] := by rw [e, List.take_add_one, List.getElem?_eq_getElem hi, ho]; rfl
      have hL : del o.id (st.L.filter (fun o => decide (o ∉ os.take i.toNat))) = st.L.filter (fun y => decide (y ∉ os.take i.toNat ++ [o])) := by
        unfold del
        rw [List.filter_filter]
        apply List.filter_congr
        intro y hy
        by_cases hyo : y = o
        · subst hyo; simp
        · have : y.id ≠ o.id := fun q => hyo (nd_inj B.st.nd hy (hosm o hmem) q)
          simp [this, hyo]
      rw [e3, ← hL, List.map_append, ← List.append_assoc]
      rfl
    rw [← est]
    have g26 := ch.1; have g26' := c26.1
    exact B26.mono (fun y hy => Grow.trans g26 g26' hy) (fun y => Grow.bnd (by omega) (B6.ext x11).bnd)
  · have hi : i.toNat = os.length := by omega
    have eL : st.L.filter (fun o => decide (o ∉ os.take i.toNat)) = st.L.filter (fun x => !dueBy st.cost t x) := by
      apply List.filter_congr
      intro y hy
      rw [hi, List.take_length, hos]
      simp [hy]
    have eF : st.F ++ (os.take i.toNat).map byTime = st.F ++ (st.L.filter (dueBy st.cost t)).map byTime := by rw [hi, List.take_length, hos]
    rw [eL, eF] at Bi
    have hz := ch.1
    refine ⟨_, _, _, cell_lst Bi.blk (bc_fates _ Bi.il Bi.ul), ?_⟩
    obtain ⟨h33, v1, v2, v3, v4⟩ := st_ex (o := 0 + 131) [.slice none 0 0] Bi.blk (by rw [bc_len _ Bi.il Bi.ul]; simp) (by simp [Value.oneCell'])
    rw [spl_one (by rw [bc_len _ Bi.il Bi.ul]; omega), bc_set_fates _ Bi.il Bi.ul] at v2
    have hfl := Bi.fl
    have hgrow : ∀ y, Grow (fun y => Own y ∨ F y) h11 hh y → Own y ∨ h.size ≤ y := fun y hy => by
      rcases hy with (q | q) | q
      · exact .inl q
      · rcases I.foot y q with r | r
        · exact .inl (B.own.2.2.1 y r)
        · exact .inr r
      · exact .inr (by omega)
    refine ⟨h33, v1, xi.fa, xi.fc, fun y => Grow (fun y => Own y ∨ F y) h11 hh y ∧ ¬ blkOf xi.fa y, ?_, ⟨{ xi with fa := none, fn := 0, fc := 0 }, ?_⟩, ?_, fun y hy => hgrow y hy.1, ?_, fun y hy => ⟨fun q => q.2 hy, hgrow y (Bi.own.2.2.2 y hy)⟩⟩
    · rw [hfl]
    · have hkeep : ∀ y, y ≠ bb → h33[y]? = hh[y]? := v3
      exact
      { blk := v2
        il := Bi.il
        ul := Bi.ul
        wheel := Bi.wheel.keep (by omega) fun y _ hw => hkeep y fun e => Bi.dis.1 (e ▸ hw)
        good := Bi.good
        all := by
          show h33[xi.mo]? = _
          rw [hkeep _ Bi.bm.symm]; exact Bi.all
        ok := Bi.ok
        ent := Bi.ent
        tmr := fun id d hd => by
          obtain ⟨r1, r2, r3, r4, _⟩ := Bi.tmr id d hd
          refine ⟨r1, r2, r3, fun _ => r4 ?_, fun q => q.elim⟩
          rw [hD]
          rintro ⟨d', h1, h2⟩
          have h3 := (look_some Bi.st.nd).1 hd
          obtain ⟨h4, h5⟩ := List.mem_filter.1 h3
          have h6 := (look_some B.st.nd).2 h4
          rw [h1] at h6; cases h6
          simp [dueBy] at h5; omega
        free := Bi.free
        spot := Bi.spot
        fates := Sl.nil _ _ _
        fl := rfl
        own := ⟨⟨Bi.own.1, fun q => Bi.fb q rfl⟩, ⟨Bi.own.2.1, fun q => Bi.fm q rfl⟩, fun y hy => ⟨Bi.own.2.2.1 y hy, fun q => Bi.dis.2.2 y q hy⟩, fun y hy => absurd hy not_blkOf_none⟩
        dis := ⟨Bi.dis.1, Bi.dis.2.1, fun y hy => absurd hy not_blkOf_none⟩
        bnd := fun y hy => by have := Bi.bnd y hy.1; omega
        st := hok }
    · have hbb := B.own.1
      refine ⟨by omega, fun y hy hn => ?_⟩
      have n1 : y ≠ bb := fun q => hn (q ▸ hbb)
      have nF : ¬ F y := fun q => by
        rcases I.foot y q with r | r
        · exact hn (B.own.2.2.1 y r)
        · omega
      rw [v3 y n1, ch.2 y (by omega) (fun q => q.elim hn nF), x11.2 y (by omega), I.ch.2 y hy (fun q => hn (B.own.2.2.1 y q))]
    · have := Bi.fates
      rw [hfl] at this
      exact this.keep fun y _ hb => v3 y (Bi.fb hb)
end

set_option maxRecDepth 8000 in
theorem bnew_spec (h : Heap) {cost : Int} (hc : 1 ≤ cost ∧ cost ≤ 1000) :
    CallsH PR fn_life_New #[.int .u64 cost] h (fun v h' => ∃ bb, v = .tuple #[.pointer (some ⟨bb, 0, none⟩), .int .i64 0] ∧ Ext h h' ∧ BookS (fun y => h.size ≤ y ∧ y < h'.size) h' bb ⟨cost, 0, [], []⟩) := by
  apply F_life_New_ok
  unfold F_life_New
  refine ⟨fun hb => by simp at hb; omega, fun _ => ?_⟩
  refine (new_spec h).mono ?_
  rintro _ h3 ⟨wb, rfl, hwb, x3, W3⟩
  refine ⟨_, rfl, ?_⟩
  intro h6 e6 h8 e8
  obtain ⟨p1, p2, p3⟩ := push_get e6
  obtain ⟨q1, q2, q3⟩ := push_get e8
  have hz := x3.1
  refine ⟨h6.size, rfl, x3.trans (p2.trans q2), ⟨wb, h3.size, [], 0, fun _ => 0, List.replicate 64 0, List.replicate 64 false, fun _ => none, fun y => h.size ≤ y ∧ y < h3.size, none, 0, 0⟩, ?_⟩
  exact
  { blk := q1
    il := by simp
    ul := by simp
    wheel := W3.ext (p2.trans q2)
    good := fun _ _ h => by cases h
    all := q2.get p1
    ok := mapOk_nil _ _
    ent := fun _ => rfl
    tmr := fun _ _ h => by cases h
    free := fun i hi => by
      dsimp only at hi
      rw [List.getElem?_replicate] at hi
      split at hi <;> cases hi
    spot := fun _ _ h => by cases h
    fates := Sl.nil _ _ _
    fl := rfl
    own := ⟨⟨by omega, by omega⟩, ⟨by dsimp only; omega, by dsimp only; omega⟩, fun y hy => ⟨hy.1, by have := hy.2; omega⟩, fun y hy => absurd hy not_blkOf_none⟩
    dis := ⟨fun q => by have := q.2; omega, fun q => by have := q.2; dsimp only at this; omega, fun y hy => absurd hy not_blkOf_none⟩
    bnd := fun y hy => hy.2
    st := ⟨hc, ⟨by dsimp only; omega, by dsimp only; omega⟩, List.Pairwise.nil, List.nodup_nil, fun _ h => (by cases h), by simp⟩ }

theorem bnew_bad (h : Heap) {cost : Int} (hc : cost < 1 ∨ 1000 < cost) :
    CallsH PR fn_life_New #[.int .u64 cost] h (fun v h' => v = .tuple #[.pointer none, .int .i64 1] ∧ h' = h) := by
  apply F_life_New_ok
  unfold F_life_New
  refine ⟨fun _ => ⟨rfl, rfl⟩, fun hb => ?_⟩
  simp at hb; omega
end Go.Proofs.Vf
