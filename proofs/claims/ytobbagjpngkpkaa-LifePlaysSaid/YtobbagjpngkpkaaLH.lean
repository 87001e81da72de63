/- Contracts of package life, and laws that follow from them. Conditions: as stated at each. -/
import Derived.Test.YtobbagjpngkpkaaLF
namespace Go.Proofs.Vf
open Go Go.Proofs Go.VC

theorem stOpen_cases (s : St) (id dead : Int) : ((stOpen s id dead).1 = 0 ∧ (stOpen s id dead).2 = { s with L := ins ⟨id, dead⟩ s.L }) ∨ ((stOpen s id dead).1 ≠ 0 ∧ (stOpen s id dead).2 = s) := by
  unfold stOpen
  split
  · exact .inr ⟨by simp, rfl⟩
  split
  · exact .inr ⟨by simp, rfl⟩
  split
  · exact .inr ⟨by simp, rfl⟩
  split
  · exact .inr ⟨by simp, rfl⟩
  split
  · exact .inr ⟨by simp, rfl⟩
  · exact .inl ⟨rfl, rfl⟩
theorem stOut_cases (s : St) (id kind why : Int) : ((look s.L id).isSome = true ∧ stOut s id kind why = (0, { s with L := del id s.L, F := s.F ++ [⟨id, kind, why⟩] })) ∨ ((look s.L id).isSome = false ∧ stOut s id kind why = (6, s)) := by
  unfold stOut
  cases h : (look s.L id).isSome with
  | true => left; exact ⟨rfl, if_pos rfl⟩
  | false => right; exact ⟨rfl, if_neg (by decide)⟩
theorem del_length {L : List One} {id : Int} (hn : (L.map (·.id)).Nodup) (h : (look L id).isSome = true) : (del id L).length + 1 = L.length := by
  induction L with
  | nil => simp [look] at h
  | cons a L ih =>
    simp only [List.map_cons, List.nodup_cons] at hn
    by_cases ha : a.id = id
    · have : del id (a :: L) = L := by
        unfold del
        rw [List.filter_cons, if_neg (by simp [ha]), List.filter_eq_self]
        intro x hx
        have : x.id ≠ id := fun q => hn.1 (by rw [ha, ← q]; exact List.mem_map.2 ⟨x, hx, rfl⟩)
        simpa using this
      rw [this]; rfl
    · have h' : (look L id).isSome = true := by
        unfold look at h ⊢
        rw [List.find?_cons, decide_eq_false ha] at h; exact h
      have := ih hn.2 h'
      unfold del at this ⊢
      rw [List.filter_cons, if_pos (by simp [ha])]
      simp only [List.length_cons]; omega

/-- an argument: a slice of integers -/
def ArgI (h : Heap) (k : IntKind) (a : Option Addr) (xs : List Int) : Prop := ∀ i x, xs[i]? = some x → ∃ b o, a = some ⟨b, o, none⟩ ∧ cellH h b (o + i) = some (.int k x)
theorem ArgI.ext {h h' : Heap} {k : IntKind} {a : Option Addr} {xs : List Int} (A : ArgI h k a xs) (x : Ext h h') : ArgI h' k a xs := fun i v hv => by
  obtain ⟨b, o, h1, h2⟩ := A i v hv
  exact ⟨b, o, h1, x.cell h2⟩

structure Late (c now : Int) (s : St) : Prop where
  cost : s.cost = c
  now : s.now = now
  dead : ∀ x ∈ s.L, x.dead = c + 10

theorem Late.go {c now t : Int} {s : St} (H : Late c now s) (h1 : now ≤ t) (h2 : t < 4611686018427387904) :
    (stGo s t).1 = 0 ∧ Late c t (stGo s t).2.2 ∧ (stGo s t).2.2.F = [] ∧ (10 ≤ t → (stGo s t).2.1.length = s.F.length + s.L.length ∧ (stGo s t).2.2.L = []) ∧ (t < 10 → (stGo s t).2.1.length = s.F.length ∧ (stGo s t).2.2.L = s.L) := by
  have e : stGo s t = (0, s.F ++ (s.L.filter (dueBy s.cost t)).map byTime, { s with now := t, L := s.L.filter (fun x => !dueBy s.cost t x), F := [] }) := by
    unfold stGo; rw [if_neg (by omega), if_neg (by rw [H.now]; omega)]
  have hc := H.cost
  rw [e]
  refine ⟨rfl, ⟨H.cost, rfl, fun x hx => H.dead x (List.mem_filter.1 hx).1⟩, rfl, fun ht => ?_, fun ht => ?_⟩
  · have e1 : s.L.filter (dueBy s.cost t) = s.L := List.filter_eq_self.2 fun x hx => by have := H.dead x hx; simp [dueBy]; omega
    have e2 : s.L.filter (fun x => !dueBy s.cost t x) = [] := List.filter_eq_nil_iff.2 fun x hx => by have := H.dead x hx; simp [dueBy]; omega
    exact ⟨by rw [e1]; simp, e2⟩
  · have e1 : s.L.filter (dueBy s.cost t) = [] := List.filter_eq_nil_iff.2 fun x hx => by have := H.dead x hx; simp [dueBy]; omega
    have e2 : s.L.filter (fun x => !dueBy s.cost t x) = s.L := List.filter_eq_self.2 fun x hx => by have := H.dead x hx; simp [dueBy]; omega
    exact ⟨by rw [e1]; simp, e2⟩
theorem Late.open {c now : Int} {s : St} (H : Late c now s) (id : Int) : Late c now (stOpen s id (c + 10)).2 := by
  rcases stOpen_cases s id (c + 10) with ⟨_, e⟩ | ⟨_, e⟩
  · rw [e]
    refine ⟨H.cost, H.now, fun x hx => ?_⟩
    rcases mem_ins.1 hx with rfl | hx
    · rfl
    · exact H.dead x hx
  · rw [e]; exact H
theorem Late.out {c now : Int} {s : St} (H : Late c now s) (id kind why : Int) : Late c now (stOut s id kind why).2 := by
  rcases stOut_cases s id kind why with ⟨_, e⟩ | ⟨_, e⟩
  · rw [e]
    exact ⟨H.cost, H.now, fun x hx => H.dead x (mem_del.1 hx).1⟩
  · rw [e]; exact H
theorem out_sum {s : St} (hn : (s.L.map (·.id)).Nodup) (id kind why : Int) : (stOut s id kind why).2.F.length + (stOut s id kind why).2.L.length = s.F.length + s.L.length ∧
    (stOut s id kind why).2.F.length = s.F.length + (if (look s.L id).isSome then 1 else 0) ∧ (stOut s id kind why).1 = (if (look s.L id).isSome then 0 else 6) := by
  rcases stOut_cases s id kind why with ⟨h, e⟩ | ⟨h, e⟩
  · rw [e, h]
    have := del_length hn h
    simp; omega
  · rw [e, h]; simp
theorem Lv.nd {h0 h : Heap} {bb : Nat} {st : St} (L : Lv h0 h bb st) : (st.L.map (·.id)).Nodup := by
  obtain ⟨_, Own, B, _⟩ := L
  exact B.sok.nd
theorem look_out {s : St} (id kind why : Int) : (look (stOut s id kind why).2.L id).isSome = false := by
  rcases stOut_cases s id kind why with ⟨h, e⟩ | ⟨h, e⟩
  · rw [e]
    show (look (del id s.L) id).isSome = false
    rw [look_del, if_pos rfl]; rfl
  · rw [e]; exact h

theorem late_spec (h : Heap) {p0 p2 : Int} {a : Option Addr} {n cp : Nat} {xs : List Int} (h0 : 0 ≤ p0 ∧ p0 < 256) (h2 : 0 ≤ p2 ∧ p2 < 256) (hA : ArgI h .u16 a xs) (hn : n = xs.length) (hx : ∀ x ∈ xs, 0 ≤ x ∧ x < 65536) :
    CallsH PR fn_linchpinlaw19_LifeLate #[.int .u8 p0, .slice a n cp, .int .u8 p2] h (fun v h' => v = .bool true ∧ Ext h h') := by
  subst hn
  apply F_linchpinlaw19_LifeLate_ok
  unfold F_linchpinlaw19_LifeLate
  have w0 : IntKind.u64.wrap p0 = p0 := wrap_u64 (by omega) (by omega)
  have w2 : IntKind.u64.wrap p2 = p2 := wrap_u64 (by omega) (by omega)
  have w3 : IntKind.u64.wrap (1 + p0) = 1 + p0 := wrap_u64 (by omega) (by omega)
  have w4 : IntKind.u64.wrap (1 + p0 + 10) = 1 + p0 + 10 := wrap_u64 (by omega) (by omega)
  have t2 : p2.tmod 20 = p2 % 20 := Int.tmod_eq_emod_of_nonneg h2.1
  have w5 : IntKind.u64.wrap (p2 % 20 + 1000) = p2 % 20 + 1000 := wrap_u64 (by omega) (by omega)
  simp only [w0, w2, w3, w4, t2, w5]
  obtain ⟨c, hc⟩ : ∃ c, c = 1 + p0 := ⟨_, rfl⟩
  obtain ⟨t, ht⟩ : ∃ t, t = p2 % 20 := ⟨_, rfl⟩
  rw [← hc, ← ht]
  have hcb : 1 ≤ c ∧ c ≤ 1000 := by omega
  have htb : 0 ≤ t ∧ t < 20 := by omega
  clear hc ht w0 w2 w3 w4 w5 t2
  have hget : ∀ {i : Int}, 0 ≤ i → i < (xs.length : Int) → ∃ b o x, a = some ⟨b, o, none⟩ ∧ (∀ hh, Ext h hh → cellH hh b (o + i.toNat * 1) = some (.int .u16 x)) ∧ IntKind.i64.wrap x = x := by
    intro i i0 i1
    have hi : i.toNat < xs.length := by omega
    obtain ⟨b, o, e1, e2⟩ := hA i.toNat xs[i.toNat] (List.getElem?_eq_getElem hi)
    have := hx _ (List.getElem_mem hi)
    exact ⟨b, o, _, e1, fun hh xx => by rw [Nat.mul_one]; exact xx.cell e2, wrap_i64 ⟨by omega, by omega⟩⟩
  refine (awake_spec h).mono ?_
  rintro _ h1' ⟨rfl, x1⟩
  refine ⟨true, rfl, fun q => (by cases q), fun _ => ?_⟩
  refine (lv_new x1 hcb).mono ?_
  rintro _ h5 ⟨bb, rfl, L⟩
  refine ⟨_, _, rfl, fun q => ?_, fun q => ?_⟩
  · refine ⟨congrArg Value.bool ?_, L.1⟩
    simpa using q
  have hl60 : xs.length ≤ 60 := by simp at q; omega
  clear q
  refine ⟨fun k i hh => 0 ≤ i ∧ i ≤ xs.length ∧ ∃ s, Lv h hh bb s ∧ Late c 0 s ∧ s.F = [] ∧ k = (s.L.length : Nat) ∧ (s.L.length : Int) ≤ i, fun _ i _ => (xs.length - i).toNat, ⟨by omega, by omega, _, L, ⟨rfl, rfl, fun _ q => by cases q⟩, rfl, rfl, by simp⟩, ?_⟩
  rintro k i hh ⟨i0, i1, s, L, H, hF, rfl, hki⟩
  refine ⟨fun hlt => ?_, fun hge => ?_⟩
  · refine ⟨fun k' h23 => ∃ s, Lv h h23 bb s ∧ Late c 0 s ∧ s.F = [] ∧ k' = (s.L.length : Nat) ∧ (s.L.length : Int) ≤ i + 1, ?_, ?_⟩
    · rintro k' h23 ⟨s', L', H', hF', rfl, hk'⟩
      exact ⟨⟨by omega, by omega⟩, ⟨by omega, by omega, s', L', H', hF', rfl, hk'⟩, by dsimp only; omega⟩
    obtain ⟨b, o, x, e1, e2, e3⟩ := hget i0 hlt
    refine ⟨b, o, e1, ⟨i0, hlt⟩, x, e2 _ L.1, ?_⟩
    rw [e3]
    refine (lv_open L x (c + 10) (by omega)).mono ?_
    rintro _ h32 ⟨rfl, L'⟩
    refine ⟨_, rfl, fun hz => ?_, fun hnz => ?_⟩
    · rcases stOpen_cases s x (c + 10) with ⟨_, e⟩ | ⟨hne, _⟩
      · have H' := H.open x
        rw [e] at L' H'
        refine ⟨⟨by omega, by omega⟩, _, L', H', hF, ?_, ?_⟩ <;> simp only [ins_length] <;> omega
      · exact absurd hz hne
    · rcases stOpen_cases s x (c + 10) with ⟨hz, _⟩ | ⟨_, e⟩
      · exact absurd hz hnz
      · rw [e] at L'
        exact ⟨s, L', H, hF, rfl, by omega⟩
  obtain ⟨N, hN⟩ : ∃ N, N = s.L.length := ⟨_, rfl⟩
  have hNb : N ≤ 60 := by omega
  rw [← hN]
  refine ⟨fun k j hj => 0 ≤ j ∧ j ≤ xs.length ∧ ∃ s, Lv h hj bb s ∧ Late c 0 s ∧ k = (s.F.length : Nat) ∧ s.F.length + s.L.length = N, fun _ j _ => (xs.length - j).toNat, ⟨by omega, by omega, s, L, H, by rw [hF]; rfl, by rw [hF, hN]; simp⟩, ?_⟩
  clear L H hF hN hki
  rintro k j hj ⟨j0, j1, s, L, H, rfl, hs⟩
  refine ⟨fun hlt => ?_, fun hge => ?_⟩
  · refine ⟨fun k' h23 => ∃ s, Lv h h23 bb s ∧ Late c 0 s ∧ k' = (s.F.length : Nat) ∧ s.F.length + s.L.length = N, ?_, ?_⟩
    · rintro k' h23 ⟨s', L', H', rfl, hk'⟩
      exact ⟨⟨by omega, by omega⟩, ⟨by omega, by omega, s', L', H', rfl, hk'⟩, by dsimp only; omega⟩
    obtain ⟨b, o, x, e1, e2, e3⟩ := hget j0 hlt
    refine ⟨b, o, fun _ => e1, fun _ => ⟨j0, hlt⟩, x, fun _ => e2 _ L.1, ?_⟩
    rw [e3]
    by_cases hpar : j.tmod 2 = 0
    · have hO := out_sum L.nd x 1 1
      refine ⟨fun y h57 => y = (stOut s x 1 1).1 ∧ Lv h h57 bb (stOut s x 1 1).2, ?_, fun _ => ?_, fun q => absurd hpar q⟩
      · rintro y h57 ⟨rfl, L'⟩
        rw [hO.2.2]
        have H' := H.out x 1 1
        cases hl : (look s.L x).isSome with
        | true =>
          rw [hl] at hO
          simp only [if_true] at hO
          refine ⟨fun _ => ⟨⟨by omega, by omega⟩, _, L', H', by omega, by omega⟩, fun q => by simp [hpar] at q⟩
        | false =>
          rw [hl] at hO
          refine ⟨fun q => by simp at q, fun _ => ⟨_, L', H', ?_, by omega⟩⟩
          have := hO.2.1
          simp at this; omega
      · refine (lv_answer L (by omega) x 1 false).mono ?_
        rintro _ h57 ⟨rfl, L'⟩
        exact ⟨_, rfl, by simp [stAnswer], by simpa [stAnswer] using L'⟩
    · refine ⟨fun y h57 => h57 = hj, ?_, fun q => absurd q hpar, fun _ => ⟨0, rfl⟩⟩
      rintro y h57 rfl
      exact ⟨fun q => by simp [hpar] at q, fun _ => ⟨s, L, H, rfl, hs⟩⟩
  refine (lv_go L (by omega) htb.1).mono ?_
  obtain ⟨g1, g2, g3, g4, g5⟩ := H.go htb.1 (show t < 4611686018427387904 by omega)
  rintro _ h64 ⟨a1, c1, rfl, L', -, -⟩
  refine ⟨_, _, _, _, rfl, ?_⟩
  obtain ⟨want, hwant⟩ : ∃ want : Nat, want = (stGo s t).2.1.length := ⟨_, rfl⟩
  have hleft : (stGo s t).2.2.L.length + want = N := by
    by_cases h10 : 10 ≤ t
    · obtain ⟨e1, e2⟩ := g4 h10; rw [e2, hwant, e1]; simp; omega
    · obtain ⟨e1, e2⟩ := g5 (by omega); rw [e2, hwant, e1]; omega
  rw [g1, ← hwant]
  refine ⟨fun x68 h71 => x68 = (want : Int) ∧ h71 = h64, ?_, fun h10 => ⟨?_, rfl⟩, fun h10 => ⟨?_, rfl⟩⟩
  · rintro x68 h71 ⟨rfl, rfl⟩
    refine ⟨fun q => by simp at q, fun _ => ?_⟩
    refine ⟨fun i hi => 0 ≤ i ∧ i ≤ xs.length ∧ ∃ s, Lv h hi bb s ∧ Late c t s ∧ s.F.length + s.L.length + want = N, fun i _ => (xs.length - i).toNat, ⟨by omega, by omega, _, L', g2, by rw [g3]; simp; omega⟩, ?_⟩
    clear L L' H g1 g2 g3 g4 g5 hs hwant hleft
    clear s
    rintro i hi ⟨i0, i1, s, L, H, hs⟩
    refine ⟨fun hlt => ?_, fun hge => ?_⟩
    · obtain ⟨b, o, x, e1, e2, e3⟩ := hget i0 hlt
      refine ⟨b, o, e1, ⟨i0, hlt⟩, x, e2 _ L.1, ?_⟩
      rw [e3]
      refine (lv_has L x).mono ?_
      rintro _ h86 ⟨rfl, L⟩
      refine ⟨_, _, rfl, ⟨i0, hlt⟩, x, e2 _ L.1, ?_⟩
      rw [e3]
      have hO := out_sum L.nd x 2 2
      have hN := look_out (s := s) x 2 2
      have hH := H.out x 2 2
      refine (lv_answer L (by omega) x 2 true).mono ?_
      have ea : ∀ s : St, stAnswer s x 2 true = stOut s x 2 2 := fun s => by simp [stAnswer]
      rw [ea]
      rintro _ h93 ⟨rfl, L2⟩
      refine ⟨_, rfl, fun _ => ⟨i0, hlt⟩, x, fun _ => e2 _ L2.1, ?_⟩
      have hEq : (decide ((stOut s x 2 2).1 = 0)) = (look s.L x).isSome := by
        rw [hO.2.2]; cases (look s.L x).isSome <;> rfl
      rw [hEq, e3]
      rcases stOut_cases (stOut s x 2 2).2 x 2 2 with ⟨q, _⟩ | ⟨_, e6⟩
      · rw [hN] at q; cases q
      refine ⟨fun y h101 => y = 6 ∧ Lv h h101 bb (stOut s x 2 2).2, ?_, fun _ => ?_, fun q => absurd rfl q⟩
      · rintro y h101 ⟨rfl, L3⟩
        refine ⟨fun q => by simp at q, fun _ => ⟨⟨by omega, by omega⟩, ⟨by omega, by omega, _, L3, hH, by omega⟩, by dsimp only; omega⟩⟩
      · refine (lv_answer L2 (by omega) x 2 true).mono ?_
        rw [ea, e6]
        rintro _ h101 ⟨rfl, L3⟩
        exact ⟨_, rfl, rfl, L3⟩
    · refine (lv_go L (by omega) (t := t + 1000) (by omega)).mono ?_
      obtain ⟨g1, g2, g3, g4, _⟩ := H.go (show t ≤ t + 1000 by omega) (by omega)
      obtain ⟨g4, g5⟩ := g4 (by omega)
      rintro _ h108 ⟨a2, c2, rfl, L2, -, -⟩
      refine ⟨_, _, _, _, rfl, ?_⟩
      have ew : IntKind.i64.wrap ((N : Int) - want) = N - want := wrap_i64 ⟨by omega, by omega⟩
      have hc : ((decide ((stGo s (t + 1000)).1 = 0)) && (decide (((stGo s (t + 1000)).2.1.length : Int) = IntKind.i64.wrap ((N : Int) - want)))) = true := by
        rw [g1, g4, ew]; simp; omega
      rw [hc]
      refine ⟨fun y h115 => y = 0 ∧ Ext h h115, ?_, fun _ => ?_, fun q => (by cases q)⟩
      · rintro y h115 ⟨rfl, xx⟩
        exact ⟨rfl, xx⟩
      · refine (lv_count L2).mono ?_
        rintro _ h115 ⟨rfl, L3⟩
        exact ⟨_, rfl, by rw [g5]; rfl, L3.1⟩
  · obtain ⟨e1, _⟩ := g4 h10; omega
  · obtain ⟨e1, _⟩ := g5 (by omega); omega
end Go.Proofs.Vf
