/- Contracts of the functions of package wheel over the heap. Conditions: the wheel is one that its own functions made. -/
import Derived.Test.YtobbagjpngkpkaaWE
namespace Go.VC
theorem oneCell_ints (k : IntKind) (ks : List Int) : ∀ v ∈ ks.map (Value.int k), v.oneCell' = true := by
  intro v hv
  obtain ⟨x, _, rfl⟩ := List.mem_map.1 hv
  rfl
theorem key_inj {κ : Type} {l : List (ME κ)} {c : Nat} (ho : mapOk l c) {a b : ME κ} (ha : a ∈ l) (hb : b ∈ l) (e : a.key = b.key) : a = b := by
  have hn := ho.2.2
  clear ho
  induction l with
  | nil => cases ha
  | cons x l ih =>
    simp only [List.map_cons, List.nodup_cons] at hn
    rcases List.mem_cons.1 ha with rfl | ha' <;> rcases List.mem_cons.1 hb with rfl | hb'
    · rfl
    · exact (hn.1 (List.mem_map.2 ⟨b, hb', e.symm⟩)).elim
    · exact (hn.1 (List.mem_map.2 ⟨a, ha', e⟩)).elim
    · exact ih ha' hb' hn.2
end Go.VC
namespace Go.Proofs.Vf
open Go Go.Proofs Go.VC

theorem may_spec (t : Int) (h : Heap) : CallsH PR fn_tick_May #[.int .u64 t] h (fun v h' => v = .bool (decide (t < 4611686018427387904)) ∧ h' = h) := by
  apply F_tick_May_ok
  unfold F_tick_May
  exact ⟨rfl, rfl⟩

/-- the timers that go off later than a time, as they lie by it -/
def left (S : Int → Option Spot) (nw : Int) (id : Int) : Option Spot := (S id).bind fun s => if s.t ≤ nw then none else some (spotOf s.t nw)
theorem left_some {S : Int → Option Spot} {nw id : Int} {s : Spot} (h : left S nw id = some s) : ∃ s0, S id = some s0 ∧ nw < s0.t ∧ s = spotOf s0.t nw := by
  unfold left at h
  cases hs : S id with
  | none => rw [hs] at h; cases h
  | some s0 =>
    rw [hs] at h
    simp only [Option.bind_some] at h
    split at h
    · cases h
    · cases h; exact ⟨s0, rfl, by omega, rfl⟩
theorem left_of {S : Int → Option Spot} {nw id : Int} {s : Spot} (h : S id = some s) (ht : nw < s.t) : left S nw id = some (spotOf s.t nw) := by
  unfold left; rw [h]; simp only [Option.bind_some]; rw [if_neg (by omega)]
theorem left_none {S : Int → Option Spot} {nw id : Int} {s : Spot} (h : S id = some s) (ht : s.t ≤ nw) : left S nw id = none := by
  unfold left; rw [h]; simp only [Option.bind_some]; rw [if_pos ht]
theorem left_good (S : Int → Option Spot) (nw : Int) : Good (left S nw) nw := fun id s hs => by
  obtain ⟨s0, _, h2, rfl⟩ := left_some hs
  exact ⟨h2, rfl⟩
theorem left_self {S : Int → Option Spot} {now : Int} (hg : Good S now) : left S now = S := by
  funext id
  cases hs : S id with
  | none => simp [left, hs]
  | some s =>
    obtain ⟨a1, a2⟩ := hg id s hs
    rw [left_of hs a1, ← a2]

structure GoInv (Own : Nat → Prop) (h : Heap) (wb : Nat) (S : Int → Option Spot) (nw : Int) (a : Option Addr) (n c : Nat) (hh : Heap) (F : Nat → Prop) (ids : List Int) : Prop where
  wheel : WheelS F hh wb (left S nw) nw
  ch : Ch Own h hh
  foot : ∀ x, F x → Own x ∨ h.size ≤ x
  len : ids.length = n
  out : Sl hh ty_int 1 a n c (ids.map (Value.int .i64))
  fresh : ∀ x, blkOf a x → h.size ≤ x ∧ ¬ F x
  nodup : ids.Nodup
  mem : ∀ id, id ∈ ids ↔ ∃ s, S id = some s ∧ s.t ≤ nw

def timeAt (hh : Heap) (wb : Nat) : Int := match cellH hh wb (0 + 257) with | some (.int _ t) => t | _ => 0
theorem timeAt_of {Own : Nat → Prop} {h : Heap} {wb : Nat} {S : Int → Option Spot} {now : Int} (W : WheelS Own h wb S now) : timeAt h wb = now := by
  obtain ⟨rows, ma, l, c, W⟩ := W
  simp only [timeAt, W.cell_now]

theorem go_spec {Own : Nat → Prop} {h : Heap} {wb : Nat} {S : Int → Option Spot} {now : Int} (W : WheelS Own h wb S now) (hg : Good S now) {t : Int} (h0 : 0 ≤ t) :
    CallsH PR fn_wheel_Wheel_Go #[.pointer (some ⟨wb, 0, none⟩), .int .u64 t] h
      (fun v h' => (4611686018427387904 ≤ t ∧ v = .tuple #[.slice none 0 0, .int .i64 2] ∧ h' = h) ∨ (t < 4611686018427387904 ∧ t < now ∧ v = .tuple #[.slice none 0 0, .int .i64 1] ∧ h' = h) ∨
        (t < 4611686018427387904 ∧ now ≤ t ∧ ∃ a n c F ids, v = .tuple #[.slice a n c, .int .i64 0] ∧ GoInv Own h wb S t a n c h' F ids)) := by
  have hW := W
  have hbnd := W.bnd
  obtain ⟨rows, ma, l, c, W⟩ := W
  have hrng := W.rng
  have hids := W.ids
  have hnow := W.nowr
  apply F_wheel_Wheel_Go_ok
  unfold F_wheel_Wheel_Go
  refine (may_spec t h).mono ?_
  rintro _ _ ⟨rfl, rfl⟩
  refine ⟨_, rfl, fun hm => ?_, fun hm => ?_⟩
  · exact .inl ⟨by simpa using hm, rfl, rfl⟩
  have ht : t < 4611686018427387904 := by simpa using hm
  refine ⟨_, _, rfl, now, W.cell_now, fun hlt => ?_, fun hge => ?_⟩
  · exact .inr (.inl ⟨ht, hlt, rfl, rfl⟩)
  rename_i h
  refine ⟨fun a n c hh => ∃ nw F ids, now ≤ nw ∧ nw ≤ t ∧ GoInv Own h wb S nw a n c hh F ids, fun _ _ _ hh => (t - timeAt hh wb).toNat, ⟨now, Own, [], by omega, by omega, ?_⟩, ?_⟩
  · exact ⟨by rw [left_self hg]; exact hW, Ch.refl _ _, fun x hx => .inl hx, rfl, Sl.nil _ _ _, fun x hx => absurd hx not_blkOf_none, List.nodup_nil, fun id => by
      constructor
      · intro q; cases q
      · rintro ⟨s, hs, hle⟩
        have := (hg id s hs).1; omega⟩
  rintro a n c hh ⟨nw, F, ids, hn1, hn2, I⟩
  refine (first_spec I.wheel (left_good S nw)).mono ?_
  rintro _ h15 ⟨at_, ok, rfl, x15, hmin, hnone⟩
  have W15 := I.wheel.ext x15
  have bF := I.wheel.bnd
  refine ⟨at_, ok, rfl, fun hfin => ?_, fun hgo => ?_⟩
  · -- the last one
    have hlast : ∀ id s, left S nw id = some s → t < s.t := by
      intro id s hs
      cases ok with
      | false => rw [hnone rfl id] at hs; cases hs
      | true =>
        have : t < at_ := by simpa using hfin
        have := (hmin rfl).2 id s hs
        omega
    refine (move_spec W15 (left_good S nw) hn2 ht (fun id s hs => by have := hlast id s hs; omega)).mono ?_
    rintro _ h20 ⟨rfl, c20, W20⟩
    have ch2 : Ch F hh h20 := (x15.ch).trans c20
    refine ⟨rfl, .inr (.inr ⟨ht, by omega, a, n, c, Grow F h15 h20, ids, rfl, W20.congr fun id => ?_, ?_, ?_, I.len, ?_, ?_, I.nodup, fun id => ?_⟩)⟩
    · cases hs : S id with
      | none => simp [moved, left, hs]
      | some s =>
        by_cases hle : s.t ≤ nw
        · rw [moved, left_none hs hle, left_none hs (by omega)]; rfl
        · have hl := left_of hs (show nw < s.t by omega)
          have := hlast id _ hl
          rw [moved, hl, left_of hs this]; rfl
    · refine ⟨Nat.le_trans I.ch.1 ch2.1, fun x hx ho => (ch2.2 x (Nat.lt_of_lt_of_le hx I.ch.1) fun hf => ?_).trans (I.ch.2 x hx ho)⟩
      rcases I.foot x hf with q | q
      · exact ho q
      · omega
    · intro x hx
      rcases hx with q | q
      · exact I.foot x q
      · have := I.ch.1; have := x15.1; exact .inr (by omega)
    · exact I.out.ch ch2 fun x hx => (I.fresh x hx).2
    · intro x hx
      have := I.fresh x hx
      have hlt := I.out.blk_lt hx
      refine ⟨this.1, fun q => ?_⟩
      rcases q with q | q
      · exact this.2 q
      · have := x15.1; omega
    · rw [I.mem]
      constructor
      · rintro ⟨s, hs, hle⟩; exact ⟨s, hs, by omega⟩
      · rintro ⟨s, hs, hle⟩
        refine ⟨s, hs, ?_⟩
        by_cases hlt : nw < s.t
        · have := hlast id _ (left_of hs hlt)
          simp only [spotOf] at this; omega
        · omega
  · have ok1 : ok = true := by cases ok with
      | true => rfl
      | false => simp at hgo
    subst ok1
    have hat : at_ ≤ t := by simpa using hgo
    obtain ⟨⟨id0, s0, hs0, ht0⟩, hmin⟩ := hmin rfl
    have hnat : nw < at_ := by rw [← ht0]; exact (left_good S nw id0 s0 hs0).1
    refine (move_spec W15 (left_good S nw) (by omega) (by omega) hmin).mono ?_
    rintro _ h22 ⟨rfl, c22, W22⟩
    have ch2 : Ch F hh h22 := (x15.ch).trans c22
    have hF22 : ∀ x, Grow F h15 h22 x → F x ∨ hh.size ≤ x := fun x hx => by
      rcases hx with q | q
      · exact .inl q
      · have := x15.1; exact .inr (by omega)
    -- from here on: the timers that lie by at_; F2: the wheel's blocks
    obtain ⟨F2, hF2⟩ : ∃ F2, F2 = Grow F h15 h22 := ⟨_, rfl⟩
    rw [← hF2] at W22 hF22
    have bF2 := W22.bnd
    obtain ⟨Sm, hSm⟩ : ∃ Sm, Sm = moved (left S nw) at_ := ⟨_, rfl⟩
    rw [← hSm] at W22
    have hSmS : ∀ id s, Sm id = some s → ∃ s1, S id = some s1 ∧ nw < s1.t ∧ s1.t = s.t ∧ at_ ≤ s.t ∧ s = spotOf s.t at_ := by
      intro id s hs
      rw [hSm] at hs
      unfold moved at hs
      obtain ⟨s1, h1, rfl⟩ := Option.map_eq_some_iff.1 hs
      obtain ⟨s2, h2, h3, rfl⟩ := left_some h1
      exact ⟨s2, h2, h3, rfl, (show at_ ≤ (spotOf s2.t nw).t from hmin id _ h1), rfl⟩
    have hSSm : ∀ id s, S id = some s → nw < s.t → Sm id = some (spotOf s.t at_) := by
      intro id s hs hlt
      rw [hSm, moved, left_of hs hlt]; rfl
    have hW22 := W22
    obtain ⟨rows2, ma2, l2, c2, W2⟩ := W22
    refine ⟨rfl, some ma2, W2.cell_all, l2, c2, W2.all, ?_⟩
    rintro h28 ⟨k1, k2, k3⟩
    have ent : ∀ e ∈ l2, ∃ s, Sm e.key = some s ∧ e.val = s.v := fun e he => by
      have := mem_mlook W2.ok he
      rw [W2.spots] at this
      obtain ⟨s, h1, h2⟩ := Option.map_eq_some_iff.1 this
      exact ⟨s, h1, h2.symm⟩
    have ent' : ∀ id s, Sm id = some s → ∃ e ∈ l2, e.key = id := fun id s hs => by
      have := W2.spots id
      rw [hs] at this
      obtain ⟨e, he, hk, _⟩ := mlook_mem this
      exact ⟨e, he, hk⟩
    refine ⟨fun a1 n1 c1 h3 => Ext h22 h3 ∧ ∃ sn due, iterAt ikey h3 h22.size l2 c2 sn ∧ due.length = n1 ∧ Sl h3 ty_int 1 a1 n1 c1 (due.map (Value.int .i64)) ∧ (∀ x, blkOf a1 x → h22.size < x) ∧ due.Nodup ∧
        (∀ id, id ∈ due ↔ ∃ e ∈ l2, e.born ∈ sn ∧ e.key = id ∧ ∃ s, Sm id = some s ∧ s.t = at_),
      fun _ _ _ h3 => unseen l2 h3 h22.size, ⟨⟨by omega, k1⟩, #[], [], k3, rfl, Sl.nil _ _ _, fun x hx => absurd hx not_blkOf_none, List.nodup_nil, fun id => by simp⟩, ?_⟩
    rintro a1 n1 c1 h35 ⟨x35, sn, due, it, hdl, hds, hdf, hdn, hdm⟩
    have hdb : n1 ≤ 1000 := by
      rw [← hdl]
      refine nodup_int_bound hdn fun x hx => ?_
      obtain ⟨e, _, _, hk, s, hs, _⟩ := (hdm x).1 hx
      exact W2.ids x s hs
    refine ⟨l2, c2, sn, it, W2.ok.1, fun hall => ?_, ?_⟩
    · -- all are seen
      have hdm' : ∀ id, id ∈ due ↔ ∃ s, S id = some s ∧ s.t = at_ := fun id => by
        rw [hdm]
        constructor
        · rintro ⟨e, he, _, hk, s, hs, hst⟩
          obtain ⟨s1, h1, h2, h3, _⟩ := hSmS id s hs
          exact ⟨s1, h1, by omega⟩
        · rintro ⟨s, hs, hst⟩
          have h1 := hSSm id s hs (by omega)
          obtain ⟨e, he, hk⟩ := ent' id _ h1
          exact ⟨e, he, hall e he, hk, _, h1, hst⟩
      subst hdl
      refine (sortFunc_spec hds (by omega)).mono ?_
      rintro _ h41 ⟨rfl, ks, hperm, hks, c41⟩
      have hkl : ks.length = due.length := hperm.length_eq
      have hkn : ks.Nodup := hperm.nodup_iff.2 hdn
      have hkm : ∀ id, id ∈ ks ↔ ∃ s, S id = some s ∧ s.t = at_ := fun id => by rw [hperm.mem_iff]; exact hdm' id
      have W41 : WheelS F2 h41 wb Sm at_ := (hW22.ext x35).ch c41 fun x hx hb => by have := bF2 x hx; have := hdf x hb; omega
      have ch41 : Ch F hh h41 := by
        refine ⟨by have := ch2.1; have := x35.1; have := c41.1; omega, fun x hx hf => ?_⟩
        have := ch2.1; have hx35 := x35.1
        rw [c41.2 x (by omega) (fun hb => by have := hdf x hb; omega), x35.2 x (by omega), ch2.2 x hx hf]
      refine ⟨rfl, fun j hj => 0 ≤ j ∧ j ≤ ks.length ∧ Ch F2 h41 hj ∧ WheelS F2 hj wb (fun id => if id ∈ ks.take j.toNat then none else Sm id) at_, fun j _ => (ks.length - j).toNat, ⟨by omega, by omega, Ch.refl _ _, ?_⟩, ?_⟩
      · refine W41.congr fun id => ?_
        simp
      rintro j hj ⟨hj0, hj1, cj, Wj⟩
      have slj : Sl hj ty_int 1 a1 ks.length c1 (ks.map (Value.int .i64)) := hks.ch cj fun y hy hf => by
        have := hdf y hy; have := bF2 y hf; omega
      refine ⟨fun hjl => ?_, fun hjg => ?_⟩
      · have hjn : j.toNat < ks.length := by omega
        obtain ⟨b, o', rfl, hcell⟩ := slj.get (i := j.toNat) (v := .int .i64 ks[j.toNat]) (by simp [hjn])
        obtain ⟨id, hid⟩ : ∃ id, ks[j.toNat] = id := ⟨_, rfl⟩
        rw [hid] at hcell
        have hmem : id ∈ ks := hid ▸ List.getElem_mem hjn
        have hnt : id ∉ ks.take j.toNat := by
          intro hin
          rw [List.mem_take_iff_getElem] at hin
          obtain ⟨q, hq, he⟩ := hin
          have := List.pairwise_iff_getElem.1 hkn q j.toNat (by omega) hjn (by omega)
          exact this (he.trans hid.symm)
        obtain ⟨s1, hs1, hst1⟩ := (hkm id).1 hmem
        have hsm1 := hSSm id s1 hs1 (by omega)
        refine ⟨b, o', rfl, ⟨by omega, by omega⟩, id, by rw [Nat.mul_one]; exact hcell, ?_⟩
        refine (drop_spec Wj (id := id) (s := spotOf s1.t at_) (by simp only [hnt, if_false]; exact hsm1)).mono ?_
        rintro _ h55 ⟨rfl, c55, W55⟩
        refine ⟨rfl, ⟨by omega, by omega⟩, ⟨by omega, by omega, cj.trans c55, W55.congr fun k => ?_⟩, by dsimp only; omega⟩
        have ej : (j + 1).toNat = j.toNat + 1 := by omega
        rw [ej, List.take_add_one, List.getElem?_eq_getElem hjn, hid]
        simp only [List.mem_append, Option.toList_some, List.mem_singleton]
        by_cases hk : k = id
        · subst hk
          rw [upd_same, if_pos (.inr rfl)]
        · rw [upd_other _ _ hk]
          by_cases hkt : k ∈ ks.take j.toNat
          · rw [if_pos hkt, if_pos (.inl hkt)]
          · rw [if_neg hkt, if_neg (by simp [hkt, hk])]
      · have ej : j.toNat = ks.length := by omega
        rw [ej, List.take_length] at Wj
        refine ⟨ks.length, ks.map (Value.int .i64), by rw [← hkl]; exact slj.firstB, ?_⟩
        have chj : Ch (fun x => F x ∨ hh.size ≤ x) hh hj := (ch41.mono fun x _ q => .inl q).trans (cj.mono fun x hx q => by
          rcases hF22 x q with q | q
          · exact .inl q
          · exact .inr q)
        have chj' : Ch F hh hj := ⟨chj.1, fun x hx hf => chj.2 x hx (fun q => q.elim hf (fun q => by omega))⟩
        have outj : Sl hj ty_int 1 a n c (ids.map (Value.int .i64)) := I.out.ch chj' fun x hx => (I.fresh x hx).2
        have hall : (ids ++ ks).Nodup := by
          rw [List.nodup_append]
          refine ⟨I.nodup, hkn, fun x hx y hy e => ?_⟩
          subst e
          obtain ⟨s1, hs1, hl1⟩ := (I.mem x).1 hx
          obtain ⟨s2, hs2, hl2⟩ := (hkm x).1 hy
          rw [hs1] at hs2; cases hs2; omega
        have hmem : ∀ id, id ∈ ids ++ ks ↔ ∃ s, S id = some s ∧ s.t ≤ at_ := fun id => by
          rw [List.mem_append, I.mem, hkm]
          constructor
          · rintro (⟨s, hs, hl⟩ | ⟨s, hs, hl⟩)
            · exact ⟨s, hs, by omega⟩
            · exact ⟨s, hs, by omega⟩
          · rintro ⟨s, hs, hl⟩
            by_cases hq : s.t ≤ nw
            · exact .inl ⟨s, hs, hq⟩
            · have := hmin id _ (left_of hs (show nw < s.t by omega))
              simp only [spotOf] at this
              exact .inr ⟨s, hs, by omega⟩
        have hlen : (ids ++ ks).length ≤ 1000 := nodup_int_bound hall fun x hx => by
          obtain ⟨s, hs, _⟩ := (hmem x).1 hx
          exact hids x s hs
        rw [List.length_append] at hlen
        have hnl := I.len
        refine outj.append (by simp) (oneCell_ints _ _) rfl ⟨by omega, by omega, by omega⟩ ?_
        intro a' c' h65 s65 c65 hf65
        have Wend : WheelS F2 h65 wb (left S at_) at_ := by
          refine (Wj.ch c65 fun x hx hb => ?_).congr fun id => ?_
          · have := I.fresh x hb
            rcases hF22 x hx with q | q
            · exact this.2 q
            · have := I.out.blk_lt hb; omega
          · by_cases hk : id ∈ ks
            · rw [if_pos hk]
              obtain ⟨s, hs, hl⟩ := (hkm id).1 hk
              rw [left_none hs (by omega)]
            · rw [if_neg hk]
              cases hs : S id with
              | none => simp [hSm, moved, left, hs]
              | some s =>
                by_cases hq : s.t ≤ nw
                · rw [hSm, moved, left_none hs hq, left_none hs (by omega)]; rfl
                · have h1 := hmin id _ (left_of hs (show nw < s.t by omega))
                  simp only [spotOf] at h1
                  have h2 : s.t ≠ at_ := fun q => hk ((hkm id).2 ⟨s, hs, q⟩)
                  rw [hSSm id s hs (by omega), left_of hs (by omega)]
        refine ⟨⟨at_, F2, ids ++ ks, by omega, hat, Wend, ?_, ?_, by simp [I.len], by simpa using s65, ?_, hall, hmem⟩, ?_⟩
        · have hz := I.ch.1
          refine ⟨by have := chj.1; have := c65.1; omega, fun x hx ho => ?_⟩
          rw [c65.2 x (by have := chj.1; omega) (fun hb => by have := (I.fresh x hb).1; omega), chj'.2 x (by omega) (fun hf => ?_), I.ch.2 x hx ho]
          rcases I.foot x hf with q | q
          · exact ho q
          · omega
        · intro x hx
          rcases hF22 x hx with q | q
          · exact I.foot x q
          · have := I.ch.1; exact .inr (by omega)
        · intro x hx
          rcases hf65 x hx with q | q
          · have := I.fresh x q
            refine ⟨this.1, fun hf => ?_⟩
            rcases hF22 x hf with r | r
            · exact this.2 r
            · have := I.out.blk_lt q; omega
          · have hc := chj.1; have hz := I.ch.1
            refine ⟨by omega, fun hf => ?_⟩
            have := Wj.bnd x hf; omega
        · dsimp only
          rw [timeAt_of Wend, timeAt_of I.wheel]; omega
    · -- one more
      rintro e he hns h40 ⟨y1, y2, y3⟩
      refine ⟨⟨y3, W2.ok.2.1⟩, ?_⟩
      obtain ⟨s, hs, hv⟩ := ent e he
      have x40 : Ext h22 h40 := ⟨by have := x35.1; omega, fun z hz => by rw [y1 z (by omega)]; exact x35.2 z hz⟩
      refine ⟨s.t, s.lv, s.pl, hv, ?_⟩
      intro h69 e69
      obtain ⟨h72, q1, q2, q3, q4⟩ := st_tmp (zs := [_, _, _]) e69 [.int .u64 s.t, .int .i64 s.lv, .int .i64 s.pl] rfl (by simp [Value.oneCell'])
      have hz35 := x35.1
      have keepit : ∀ h', (∀ x, x < h40.size → x ≠ h22.size ∨ True → h'[x]? = h40[x]?) → iterAt ikey h' h22.size l2 c2 (sn.push e.born) := by
        intro h' hk
        rcases y3 with ⟨r1, r2, r3⟩ | ⟨r, r1, r2⟩
        · exact .inl ⟨r1, r2, by rw [hk _ (lt_of_get r3) (.inr trivial)]; exact r3⟩
        · exact .inr ⟨r, by rw [hk _ (lt_of_get r1) (.inr trivial)]; exact r1, by rw [hk _ (lt_of_get r2) (.inr trivial)]; exact r2⟩
      have s40 : Sl h40 ty_int 1 a1 n1 c1 (due.map (Value.int .i64)) := hds.keep fun x hx hb => y1 x (by have := hdf x hb; omega)
      refine ⟨h72, q1, s.t, cell_lst q2 rfl, fun heq => ?_, fun hne => ?_⟩
      · intro h76 e76
        obtain ⟨p1, p2, p3⟩ := push_get e76
        have x76 : Ext h40 h76 := q3.trans p2
        refine (s40.ext x76).append (m := 1) rfl (by simp [Value.oneCell']) rfl ⟨by omega, by omega, by omega⟩ ?_
        intro a' c' h85 s85 c85 hf85
        have hk85 : ∀ x, x < h40.size → (x ≠ h22.size → ¬ blkOf a1 x) → h85[x]? = h40[x]? := fun x hx hb => by
          have hz := x76.1
          rw [c85.2 x (by omega) (fun q => by have := hdf x q; exact hb (by omega) q), x76.2 x hx]
        have hit : iterAt ikey h85 h22.size l2 c2 (sn.push e.born) := by
          have hne : ∀ x, x ≤ h22.size → ¬ blkOf a1 x := fun x hx q => by have := hdf x q; omega
          rcases y3 with ⟨r1, r2, r3⟩ | ⟨r, r1, r2⟩
          · exact .inl ⟨r1, r2, by rw [hk85 _ (lt_of_get r3) (fun _ => hne _ (by omega))]; exact r3⟩
          · have hr : r < h22.size ∨ h22.size ≤ r := by omega
            refine .inr ⟨r, by rw [hk85 _ (lt_of_get r1) (fun _ => hne _ (by omega))]; exact r1, ?_⟩
            have : ¬ blkOf a1 r := by
              rintro ⟨b, o, rfl, rfl⟩
              rcases s40.2 with ⟨q, _⟩ | ⟨b', o', cur, q, hb, _⟩
              · cases q
              · cases q; exact ne_map_cells hb r2 rfl
            rw [hk85 _ (lt_of_get r2) (fun _ => this)]; exact r2
        refine ⟨⟨⟨by have := x40.1; have := x76.1; have := c85.1; omega, fun x hx => ?_⟩, sn.push e.born, due ++ [e.key], hit, by simp [hdl], by simpa using s85, ?_, ?_, ?_⟩, unseen_lt it hit he hns⟩
        · rw [hk85 x (by have := x40.1; omega) (fun _ q => by have := hdf x q; omega), x40.2 x hx]
        · intro x hx
          rcases hf85 x hx with q | q
          · exact hdf x q
          · have := x76.1; omega
        · rw [List.nodup_append]
          refine ⟨hdn, by simp, fun x hx y hy exy => ?_⟩
          simp only [List.mem_singleton] at hy
          subst exy
          obtain ⟨e', he', hb', hk', _⟩ := (hdm x).1 hx
          have := key_inj W2.ok he' he (hk'.trans hy)
          subst this; exact hns hb'
        · intro id
          rw [List.mem_append, List.mem_singleton, hdm]
          constructor
          · rintro (⟨e', h1, h2, h3, h4⟩ | h1)
            · exact ⟨e', h1, Array.mem_push.2 (.inl h2), h3, h4⟩
            · exact ⟨e, he, Array.mem_push.2 (.inr rfl), h1.symm, s, by rw [h1]; exact hs, heq⟩
          · rintro ⟨e', h1, h2, h3, h4⟩
            rcases Array.mem_push.1 h2 with g | g
            · exact .inl ⟨e', h1, g, h3, h4⟩
            · right; rw [← h3, ok_born_inj W2.ok h1 he g]
      · have hk72 : ∀ x, x < h40.size → h72[x]? = h40[x]? := q3.2
        have hit : iterAt ikey h72 h22.size l2 c2 (sn.push e.born) := keepit h72 fun x hx _ => hk72 x hx
        refine ⟨⟨x40.trans q3, sn.push e.born, due, hit, hdl, s40.ext q3, hdf, hdn, fun id => ?_⟩, unseen_lt it hit he hns⟩
        rw [hdm]
        constructor
        · rintro ⟨e', h1, h2, h3, h4⟩
          exact ⟨e', h1, Array.mem_push.2 (.inl h2), h3, h4⟩
        · rintro ⟨e', h1, h2, h3, h4⟩
          rcases Array.mem_push.1 h2 with g | g
          · exact ⟨e', h1, g, h3, h4⟩
          · exfalso
            have := ok_born_inj W2.ok h1 he g
            subst this
            obtain ⟨s', h5, h6⟩ := h4
            rw [← h3, hs] at h5; cases h5
            exact hne h6
end Go.Proofs.Vf
