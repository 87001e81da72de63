/- Contracts of package life, and laws that follow from them. Conditions: as stated at each. -/
import Derived.Test.YtobbagjpngkpkaaRE
namespace Go.Proofs.Vf
open Go Go.Proofs Go.VC

theorem look_snoc {L : List One} {k : Nat} {o : One} (ho : L[k]? = some o) (hn : (L.map (·.id)).Nodup) (id : Int) :
    look (L.take (k + 1)) id = if o.id = id then some o.dead else look (L.take k) id := by
  have hk := (List.getElem?_eq_some_iff.1 ho).1
  have e : L.take (k + 1) = L.take k ++ [o] := by rw [List.take_add_one, ho]; rfl
  have hn' : ((L.take (k + 1)).map (·.id)).Nodup := List.Nodup.sublist ((List.take_sublist _ _).map _) hn
  rw [e] at hn' ⊢
  split
  · rename_i he
    refine (look_some hn').2 ?_
    rw [← he]; simp
  · rename_i he
    unfold look
    rw [List.find?_append, List.find?_cons, decide_eq_false he]
    simp

theorem plays_spec (h : Heap) {p0 : Int} {a : Option Addr} {n cp : Nat} (h0 : 0 ≤ p0 ∧ p0 < 18446744073709551616) (hA : ArgD h a n) :
    CallsH PR fn_linchpinlaw19_LifePlays #[.int .u64 p0, .slice a n cp] h (fun v h' => v = .bool true ∧ Ext h h') := by
  apply F_linchpinlaw19_LifePlays_ok
  unfold F_linchpinlaw19_LifePlays
  refine (awake_spec h).mono ?_
  rintro _ h1 ⟨rfl, x1⟩
  refine ⟨true, rfl, fun q => (by cases q), fun _ => ?_⟩
  by_cases hbad : p0 < 1 ∨ 1000 < p0
  · refine (bnew_bad h1 hbad).mono ?_
    rintro _ h4 ⟨rfl, rfl⟩
    refine ⟨_, _, rfl, fun _ => ⟨congrArg Value.bool (by simp), x1⟩, fun q => ?_⟩
    simp at q; omega
  refine (bnew_spec h1 (cost := p0) ⟨by omega, by omega⟩).mono ?_
  rintro _ h4 ⟨bb, rfl, x4, B4⟩
  refine ⟨_, _, rfl, fun q => ?_, fun _ => ⟨fun q => by simp at q, fun _ => ?_⟩⟩
  · simp at q; omega
  intro h14 e14
  obtain ⟨p1, p2, p3⟩ := push_get e14
  have hz1 := x1.1; have hz4 := x4.1
  have P14 : Pair h h14 bb h4.size ⟨p0, 0, [], []⟩ ⟨p0, 0, [], []⟩ _ (fun y => y = h4.size) :=
    ⟨(x1.trans x4).trans p2, B4.ext p2, ⟨none, 0, none, 0, p1, Sl.nil _ _ _, Sl.nil _ _ _, ⟨rfl, fun y hy => absurd hy not_blkOf_none, fun y hy => absurd hy not_blkOf_none⟩, fun y hy => by omega⟩, fun y hy => by have := hy.1; omega, fun y hy => by omega, fun y hy e => by have := hy.2; omega⟩
  refine ⟨fun i hh => 0 ≤ i ∧ i ≤ 150 ∧ ∃ s Oa Ob, Pair h hh bb h4.size s s Oa Ob ∧ (s.F.length : Int) ≤ i, fun i _ => (150 - i).toNat, ⟨by omega, by omega, _, _, _, P14, by simp⟩, ?_⟩
  rintro i hh ⟨i0, i1, s, Oa, Ob, P, hF⟩
  refine ⟨fun hlt => ?_, fun _ => ⟨rfl, P.x⟩⟩
  simp only [Bool.and_eq_true, decide_eq_true_eq] at hlt
  obtain ⟨b, o, kd, id, N, sd, ea, el, hN, hid⟩ := hA i.toNat (by omega)
  refine ⟨b, o, ea, ⟨i0, hlt.1⟩, kd, id, N, sd, ld_ext P.x el, ?_⟩
  intro h29 e29
  obtain ⟨h32, q1, q2, q3, q4⟩ := st_tmp (zs := [_, _, _, _]) e29 [.int .i64 kd, .int .i64 id, .int .u64 N, .int .i64 sd] rfl (by simp [Value.oneCell'])
  have P32 := P.ext q3
  have hOa := P.A.bnd
  have hOb := P.B.bnd
  have hok := P.A.sok
  refine ⟨h32, q1, fun x y hj => x = y ∧ hj[hh.size]? = some (.cells (List.toArray [.int .i64 kd, .int .i64 id, .int .u64 N, .int .i64 sd]) ty_linchpinlaw19_Do (0, 0)) ∧ ∃ s Oa Ob, Pair h hj bb h4.size s s Oa Ob ∧ (s.F.length : Int) ≤ i + 1, ?_, ?_⟩
  · rintro x _ h37 ⟨rfl, hd, s2, Oa2, Ob2, P2, hF2⟩
    refine ⟨id, cell_lst hd rfl, ?_⟩
    refine (has_spec P2.A id).mono ?_
    rintro _ h40 ⟨rfl, x40⟩
    have P40 := P2.ext x40
    have hd40 := x40.get hd
    have hok2 := P2.A.sok
    obtain ⟨la, lc, fa, fc, R⟩ := P40.B
    have cL : cellH h40 h4.size 2 = some (.slice la s2.L.length lc) := cell_lst R.blk rfl
    have hl2 := hok2.len
    refine ⟨_, _, rfl, fun w is k hx => hx = h40 ∧ 0 ≤ k ∧ k ≤ s2.L.length ∧ w = (look (s2.L.take k.toNat) id).getD 0 ∧ is = (look (s2.L.take k.toNat) id).isSome, fun _ _ k _ => (s2.L.length - k).toNat, ⟨rfl, by omega, by omega, by simp [look], by simp [look]⟩, ?_⟩
    rintro w is k hx ⟨rfl, k0, k1, rfl, rfl⟩
    refine ⟨_, _, _, cL, fun hkl => ?_, fun hkg => ?_⟩
    · have hk : k.toNat < s2.L.length := by omega
      obtain ⟨o, ho⟩ : ∃ o, s2.L[k.toNat]? = some o := ⟨_, List.getElem?_eq_getElem hk⟩
      obtain ⟨g1, g2⟩ := flatO_get ho
      obtain ⟨b1, o1, e1, c1⟩ := R.L.get g1
      obtain ⟨b2, o2, e2, c2⟩ := R.L.get g2
      rw [e1] at e2; cases e2
      have hsn := look_snoc ho hok2.nd id
      have ek : (k + 1).toNat = k.toNat + 1 := by omega
      refine ⟨fun w is hx' => hx' = hx ∧ w = (look (s2.L.take (k + 1).toNat) id).getD 0 ∧ is = (look (s2.L.take (k + 1).toNat) id).isSome, ?_, _, _, _, cL, b1, o1, e1, ⟨k0, hkl⟩, o.id, c1, id, cell_lst hd40 rfl, fun he => ⟨_, _, _, cL, b1, o1, e1, ⟨k0, hkl⟩, o.dead, by rw [Nat.add_assoc]; exact c2, rfl, ?_, ?_⟩, fun hne => ⟨rfl, ?_, ?_⟩⟩
      · rintro w' is' h58 ⟨rfl, rfl, rfl⟩
        exact ⟨⟨by omega, by omega⟩, ⟨rfl, by omega, by omega, rfl, rfl⟩, by dsimp only; omega⟩
      · rw [ek, hsn, if_pos he]; rfl
      · rw [ek, hsn, if_pos he]; rfl
      · rw [ek, hsn, if_neg hne]
      · rw [ek, hsn, if_neg hne]
    · have ek : k.toNat = s2.L.length := by omega
      rw [ek, List.take_length]
      refine ⟨_, _, _, fun _ => cL, fun y h82 => y = (s2.L.length : Nat) ∧ h82 = hx, ?_, fun _ => ?_, fun q => absurd rfl q⟩
      · rintro y h82 ⟨rfl, rfl⟩
        refine ⟨fun _ => cL, fun q => by simp at q, fun _ => ⟨⟨by omega, by omega⟩, ⟨by omega, by omega, s2, Oa2, Ob2, P40, hF2⟩, by dsimp only; omega⟩⟩
      · refine (count_spec P40.A).mono ?_
        rintro _ h82 ⟨rfl, rfl⟩
        exact ⟨_, rfl, rfl, rfl⟩
  · have ht : hh.size < h32.size := by omega
    have nA : ¬ Oa hh.size := fun q => by have := hOa _ q; omega
    have nB : ¬ Ob hh.size := fun q => by have := hOb _ q; omega
    have nowc : ∀ {hx : Heap} {Ob' : Nat → Prop} {s' : St}, RefS Ob' hx h4.size s' → cellH hx h4.size 1 = some (.int .u64 s'.now) := fun R => by
      obtain ⟨la, lc, fa, fc, R⟩ := R
      exact cell_lst R.blk rfl
    have l64 := hok.len
    have op : ∀ (w : Int), 0 ≤ w → CallsH PR fn_life_Book_Open #[.pointer (some ⟨bb, 0, none⟩), .int .i64 id, .int .u64 w] h32 (fun v h102 => v = .int .i64 (stOpen s id w).1 ∧ h102[hh.size]? = some (.cells (List.toArray [.int .i64 kd, .int .i64 id, .int .u64 N, .int .i64 sd]) ty_linchpinlaw19_Do (0, 0)) ∧ cellH h102 h4.size 1 = some (.int .u64 s.now) ∧
        CallsH PR fn_linchpinref19_Book_Open #[.pointer (some ⟨h4.size, 0, none⟩), .int .i64 id, .int .u64 w] h102 (fun v h112 => v = .int .i64 (stOpen s id w).1 ∧ h112[hh.size]? = some (.cells (List.toArray [.int .i64 kd, .int .i64 id, .int .u64 N, .int .i64 sd]) ty_linchpinlaw19_Do (0, 0)) ∧ ∃ s Oa Ob, Pair h h112 bb h4.size s s Oa Ob ∧ (s.F.length : Int) ≤ i + 1)) := by
      intro w hw
      refine (open_spec P32.A id w hw).mono ?_
      rintro _ h102 ⟨rfl, c102, A102⟩
      have P102 := P32.left c102 A102 grow_sub'
      have t102 := c102.get q2 nA
      refine ⟨rfl, t102, nowc P102.B, ?_⟩
      refine (ropen_spec P102.B hok id w hw).mono ?_
      rintro _ h112 ⟨rfl, c112, B112⟩
      exact ⟨rfl, c112.get t102 nB, _, _, _, P102.right c112 B112 grow_sub', by rw [stOpen_F]; omega⟩
    have wnn : ∀ x : Int, 0 ≤ IntKind.u64.wrap x := fun x => by
      simp only [IntKind.wrap, IntKind.bits, IntKind.signed]
      simp
      omega
    refine ⟨kd, cell_lst q2 rfl, fun hk0 => ?_, fun hk0 => ?_⟩
    · refine ⟨id, cell_lst q2 rfl, _, nowc P32.B, N, cell_lst q2 rfl, ?_⟩
      refine (op _ (wnn _)).mono ?_
      rintro _ h102 ⟨rfl, t102, n102, H⟩
      refine ⟨_, rfl, id, cell_lst t102 rfl, _, n102, N, cell_lst t102 rfl, ?_⟩
      refine H.mono ?_
      rintro _ h112 ⟨rfl, t112, G⟩
      exact ⟨_, rfl, rfl, t112, G⟩
    · refine ⟨fun bo hj => hj = h32, ?_, fun _ => rfl, fun _ => rfl⟩
      rintro bo h118 rfl
      refine ⟨fun _ => ?_, fun _ => ⟨fun hk3 => ?_, fun hk3 => ⟨fun hk4 => ?_, fun hk4 => ?_⟩⟩⟩
      · refine ⟨id, cell_lst q2 rfl, sd, cell_lst q2 rfl, kd, cell_lst q2 rfl, ?_⟩
        refine (answer_spec P32.A (by omega) id sd (decide (kd = 2))).mono ?_
        rintro _ h126 ⟨rfl, c126, A126⟩
        have P126 := P32.left c126 A126 grow_sub'
        have t126 := c126.get q2 nA
        refine ⟨_, rfl, id, cell_lst t126 rfl, sd, cell_lst t126 rfl, kd, cell_lst t126 rfl, ?_⟩
        refine (ranswer_spec P126.B l64 hok.nd (by omega) id sd (decide (kd = 2))).mono ?_
        rintro _ h136 ⟨rfl, c136, B136⟩
        have := stAnswer_F s id sd (decide (kd = 2))
        exact ⟨_, rfl, rfl, c136.get t126 nB, _, _, _, P126.right c136 B136 grow_sub', by omega⟩
      · refine ⟨id, cell_lst q2 rfl, ?_⟩
        refine (bcancel_spec P32.A (by omega) id).mono ?_
        rintro _ h142 ⟨rfl, c142, A142⟩
        have P142 := P32.left c142 A142 grow_sub'
        have t142 := c142.get q2 nA
        refine ⟨_, rfl, id, cell_lst t142 rfl, ?_⟩
        refine (rcancel_spec P142.B l64 hok.nd (by omega) id).mono ?_
        rintro _ h147 ⟨rfl, c147, B147⟩
        have := stOut_F s id 2 3
        exact ⟨_, rfl, rfl, c147.get t142 nB, _, _, _, P142.right c147 B147 grow_sub', by unfold stCancel; omega⟩
      · refine ⟨_, nowc P32.B, N, cell_lst q2 rfl, ?_⟩
        refine (bgo_spec P32.A (by omega) (wnn (s.now + N))).mono ?_
        rintro _ h156 ⟨a1, c1, Oa', rfl, A156, c156, f156, s156, b156⟩
        have P156 := P32.left c156 A156 f156
        have t156 := c156.get q2 nA
        refine ⟨_, _, _, _, rfl, _, nowc P156.B, N, cell_lst t156 rfl, ?_⟩
        refine (rgo_spec P156.B hok (by omega) (wnn (s.now + N))).mono ?_
        rintro _ h165 ⟨a2, c2, Ob', rfl, B165, c165, f165, s165, b165⟩
        have P165 := P156.right c165 B165 f165
        have hbd := hOb
        have s156' := s156.ch c165 fun y hy hb => by
          rcases (b156 y hy).2 with r | r
          · exact P.ab y r hb
          · have := hOb y hb; omega
        have hsl := stGo_len s (IntKind.u64.wrap (s.now + N))
        refine ⟨_, _, _, _, rfl, ?_⟩
        refine (same_spec s156' s165 (by omega)).mono ?_
        rintro _ h169 ⟨rfl, rfl⟩
        have := stGo_F s (IntKind.u64.wrap (s.now + N))
        exact ⟨_, rfl, fun q => (by cases q), fun _ => ⟨rfl, c165.get t156 nB, _, _, _, P165, by omega⟩⟩
      · refine ⟨id, cell_lst q2 rfl, N, cell_lst q2 rfl, ?_⟩
        refine (op N hN.1).mono ?_
        rintro _ h176 ⟨rfl, t176, n176, H⟩
        refine ⟨_, rfl, id, cell_lst t176 rfl, N, cell_lst t176 rfl, ?_⟩
        refine H.mono ?_
        rintro _ h183 ⟨rfl, t183, G⟩
        exact ⟨_, rfl, rfl, t183, G⟩
end Go.Proofs.Vf
