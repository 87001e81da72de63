/- Contracts of package life, and laws that follow from them. Conditions: as stated at each. -/
import Derived.Test.YtobbagjpngkpkaaLJ
namespace Go.Proofs.Vf
open Go Go.Proofs Go.VC

/-- an argument: a slice of the law's steps -/
def ArgD (h : Heap) (a : Option Addr) (n : Nat) : Prop := ∀ i : Nat, i < n → ∃ b o k id N s, a = some ⟨b, o, none⟩ ∧ ldCells h b (o + i * 4) 4 = some [.int .i64 k, .int .i64 id, .int .u64 N, .int .i64 s] ∧ (0 ≤ N ∧ N < 18446744073709551616) ∧ (-9223372036854775808 ≤ id ∧ id < 9223372036854775808)

theorem made_one (v : Value) (n : Nat) : madeCells #[v] n = (List.replicate n v).toArray := by
  apply Array.ext
  · simp [madeCells]
  · intro i h1 h2
    simp [madeCells, Nat.mod_one]

theorem grow_sub' {Own : Nat → Prop} {h h' : Heap} : ∀ y, Grow Own h h' y → Own y ∨ h.size ≤ y := fun y hy => by
  rcases hy with q | q
  · exact .inl q
  · exact .inr q.1

theorem tmod_range (x : Int) : -20 < x.tmod 20 ∧ x.tmod 20 < 20 := by
  have h1 := Int.tmod_lt_of_pos x (show (0 : Int) < 20 by omega)
  have h2 := Int.lt_tmod_of_pos x (show (0 : Int) < 20 by omega)
  omega

/-- what is left to tell, from a place on -/
structure Tell (s2 : St) (Q : List One) (os : List Int) (k : Nat) : Prop where
  ol : os.length = 20
  o : ∀ i : Nat, i < 20 → os[i]? = some ((look (Q.drop k ++ s2.L) i).getD 0)

theorem Mid.go {c now : Int} {s : St} {os : List Int} {P : List One} (M : Mid c now s os P) {t : Int} (h0 : 0 ≤ now) (h1 : now ≤ t) (h2 : t ≤ now + 1) (hn : now < 1000000) (hc : 1 ≤ c) :
    (stGo s t).1 = 0 ∧ ∃ Q, (stGo s t).2.1.map (·.id) = Q.map (·.id) ∧ Q.length + (stGo s t).2.2.L.length = P.length + s.L.length ∧ Tell (stGo s t).2.2 Q os 0 ∧ ((Q ++ (stGo s t).2.2.L).map (·.id)).Nodup ∧
      (∀ (k : Nat) (f : Fate) (o : One), (stGo s t).2.1[k]? = some f → Q[k]? = some o → (0 ≤ o.id ∧ o.id < 20) ∧ 0 < o.dead ∧ o.dead < 4611686018427387904 ∧ t ≤ o.dead - c ∧ (f.kind = 2 ∧ f.why = 1 → t = o.dead - c)) ∧
      (stGo s t).2.2.cost = c ∧ (stGo s t).2.2.now = t ∧ (stGo s t).2.2.F = [] ∧ (∀ x ∈ (stGo s t).2.2.L, 0 ≤ x.id ∧ x.id < 20 ∧ t + c < x.dead ∧ x.dead ≤ t + 60) := by
  have e : stGo s t = (0, s.F ++ (s.L.filter (dueBy c t)).map byTime, ⟨c, t, s.L.filter (fun x => !dueBy c t x), []⟩) := by
    unfold stGo
    rw [if_neg (by omega), if_neg (by rw [M.tm]; omega), M.cost]
  rw [e]
  have hp : (P ++ s.L.filter (dueBy c t) ++ s.L.filter (fun x => !dueBy c t x)).Perm (P ++ s.L) := by
    rw [List.append_assoc]
    exact (List.filter_append_perm _ _).append_left P
  have hnd : ((P ++ s.L.filter (dueBy c t) ++ s.L.filter (fun x => !dueBy c t x)).map (·.id)).Nodup := (hp.map (·.id)).nodup_iff.2 M.nd
  have hpl : s.F.length = P.length := by have := congrArg List.length M.fl; simpa using this
  refine ⟨rfl, P ++ s.L.filter (dueBy c t), ?_, ?_, ⟨M.ol, fun i hi => ?_⟩, hnd, ?_, rfl, rfl, rfl, ?_⟩
  · rw [List.map_append, List.map_append, M.fl, List.map_map]; rfl
  · have := hp.length_eq
    simp at this ⊢; omega
  · rw [M.o i hi, List.drop_zero, look_perm hp hnd]
  · intro k f o hf ho
    have hom : o ∈ P ++ s.L := hp.mem_iff.1 (List.mem_append_left _ (List.mem_of_getElem? ho))
    have r := M.rng o hom
    refine ⟨⟨r.1, r.2.1⟩, by omega, by omega, by omega, fun hkw => ?_⟩
    by_cases hk : k < P.length
    · exfalso
      dsimp only at hf
      rw [List.getElem?_append_left (by omega)] at hf
      exact M.kinds f (List.mem_of_getElem? hf) hkw
    · rw [List.getElem?_append_right (by omega)] at ho
      have := (List.mem_filter.1 (List.mem_of_getElem? ho)).2
      simp [dueBy] at this
      omega
  · intro x hx
    obtain ⟨hx, hd⟩ := List.mem_filter.1 hx
    have r := M.rng x (List.mem_append_right _ hx)
    simp [dueBy] at hd
    exact ⟨r.1, r.2.1, by omega, by omega⟩

theorem Tell.next {s2 : St} {Q : List One} {os : List Int} {k : Nat} (T : Tell s2 Q os k) (hn : ((Q ++ s2.L).map (·.id)).Nodup) {o : One} (ho : Q[k]? = some o) (hid : 0 ≤ o.id ∧ o.id < 20) :
    os[o.id.toNat]? = some o.dead ∧ Tell s2 Q (os.set o.id.toNat 0) (k + 1) := by
  have hk : k < Q.length := (List.getElem?_eq_some_iff.1 ho).1
  have hd : Q.drop k = o :: Q.drop (k + 1) := by
    rw [List.drop_eq_getElem_cons hk]; congr 1
    rw [List.getElem?_eq_getElem hk] at ho; exact Option.some.inj ho
  have hn' : ((Q.drop k ++ s2.L).map (·.id)).Nodup := by
    refine List.Nodup.sublist ?_ hn
    exact ((List.drop_sublist k Q).append_right s2.L).map _
  have hn2 := hn'
  rw [hd, List.cons_append, List.map_cons, List.nodup_cons] at hn2
  have hi : o.id.toNat < 20 := by omega
  have ei : ((o.id.toNat : Nat) : Int) = o.id := by omega
  refine ⟨?_, by rw [List.length_set]; exact T.ol, fun i hi' => ?_⟩
  · rw [T.o _ hi, ei]
    have : look (Q.drop k ++ s2.L) o.id = some o.dead := (look_some hn').2 (by rw [hd]; simp)
    rw [this]; rfl
  · rw [List.getElem?_set]
    by_cases hio : o.id.toNat = i
    · rw [if_pos hio, if_pos (by rw [T.ol]; exact hi)]
      have : look (Q.drop (k + 1) ++ s2.L) (i : Int) = none := by
        rw [look_none]
        intro x hx q
        exact hn2.1 (List.mem_map.2 ⟨x, hx, by rw [q]; omega⟩)
      rw [this]; rfl
    · rw [if_neg hio, T.o i hi', hd]
      have hne : ¬ o.id = (i : Int) := by omega
      unfold look
      rw [List.cons_append, List.find?_cons, decide_eq_false hne]

theorem once_spec (h : Heap) {p0 : Int} {a : Option Addr} {n cp : Nat} (h0 : 0 ≤ p0 ∧ p0 < 256) (hA : ArgD h a n) :
    CallsH PR fn_linchpinlaw19_LifeOnce #[.int .u8 p0, .slice a n cp] h (fun v h' => v = .bool true ∧ Ext h h') := by
  apply F_linchpinlaw19_LifeOnce_ok
  unfold F_linchpinlaw19_LifeOnce
  have w0 : IntKind.u64.wrap p0 = p0 := wrap_u64 (by omega) (by omega)
  have t0 : p0.tmod 20 = p0 % 20 := Int.tmod_eq_emod_of_nonneg h0.1
  have w1 : IntKind.u64.wrap (1 + p0 % 20) = 1 + p0 % 20 := wrap_u64 (by omega) (by omega)
  simp only [w0, t0, w1]
  obtain ⟨c, hc⟩ : ∃ c, c = 1 + p0 % 20 := ⟨_, rfl⟩
  rw [← hc]
  have hcb : 1 ≤ c ∧ c ≤ 1000 := by omega
  have hcb2 : c ≤ 20 := by omega
  clear hc w0 t0 w1
  refine (awake_spec h).mono ?_
  rintro _ h1' ⟨rfl, x1⟩
  refine ⟨true, rfl, fun q => (by cases q), fun _ => ?_⟩
  refine (bnew_spec h1' hcb).mono ?_
  rintro _ h6 ⟨bb, rfl, x6, B6⟩
  refine ⟨_, _, rfl, fun q => by simp at q, fun _ => ⟨⟨by omega, by omega, by omega⟩, ?_⟩⟩
  intro h12 e12
  obtain ⟨p1, p2, p3⟩ := push_get e12
  have hz1 := x1.1; have hz6 := x6.1
  have O12 : On h h12 bb h6.size ⟨c, 0, [], []⟩ (List.replicate 20 0) := by
    refine ⟨(x1.trans x6).trans p2, by omega, ?_, _, B6.ext p2, fun y hy => by have := hy.1; omega, fun hy => by have := hy.2; omega⟩
    rw [p1, show (Value.int IntKind.u64 0).cells = #[.int .u64 0] from rfl, made_one, List.map_replicate]
  have M12 : Mid c 0 ⟨c, 0, [], []⟩ (List.replicate 20 0) [] := ⟨rfl, rfl, rfl, fun f hf => (by cases hf), List.nodup_nil, fun x hx => (by simp at hx), by simp, fun i hi => by rw [List.getElem?_replicate, if_pos hi]; rfl⟩
  refine ⟨fun now m i hh => 0 ≤ i ∧ i ≤ 150 ∧ 0 ≤ now ∧ now ≤ i ∧ ∃ s os, On h hh bb h6.size s os ∧ Mid c now s os [] ∧ m = (s.L.length : Nat), fun _ _ i _ => (150 - i).toNat, ⟨by omega, by omega, by omega, by omega, _, _, O12, M12, rfl⟩, ?_⟩
  clear O12 M12
  rintro now m i hh ⟨i0, i1, n0, n1, s, os, O, M, rfl⟩
  have hlen := M.len
  simp only [List.length_nil, Nat.zero_add] at hlen
  have hF : s.F = [] := by have := M.fl; simpa using this
  refine ⟨fun hlt => ?_, fun hge => ?_⟩
  · simp only [Bool.and_eq_true, decide_eq_true_eq] at hlt
    obtain ⟨b, o, kd, id, N, sd, ea, el, hN, hid⟩ := hA i.toNat (by omega)
    refine ⟨b, o, ea, ⟨i0, hlt.1⟩, kd, id, N, sd, ld_ext O.1 el, ?_⟩
    intro h30 e30
    obtain ⟨h33, q1, q2, q3, q4⟩ := st_tmp (zs := [_, _, _, _]) e30 [.int .i64 kd, .int .i64 id, .int .u64 N, .int .i64 sd] rfl (by simp [Value.oneCell'])
    have O33 := O.ext q3
    have ck : cellH h33 hh.size 0 = some (.int .i64 kd) := cell_lst q2 rfl
    refine ⟨h33, q1, id, cell_lst q2 rfl, fun y hy => hy = h33 ∧ 0 ≤ y ∧ y < 20, ?_, ?_⟩
    · rintro y h40 ⟨rfl, y0, y1⟩
      obtain ⟨yn, rfl⟩ := Int.eq_ofNat_of_zero_le y0
      have hyn : yn < 20 := by omega
      refine ⟨fun now' m' hj => (now' = now ∨ now' = now + 1) ∧ ∃ s' os' P, On h hj bb h6.size s' os' ∧ Mid c now s' os' P ∧ m' = ((P.length + s'.L.length : Nat) : Int), ?_, kd, ck, fun hk0 => ?_, fun hkn => ?_⟩
      · -- the time goes on, and the outcomes are told
        rintro now' m' h45 ⟨hnow', s', os', P, O', M', rfl⟩
        have hlen' := M'.len
        have hF' : s'.F.length ≤ 20 := by have := congrArg List.length M'.fl; simp at this; omega
        obtain ⟨g1, Q, g2, g3, g4, g5, g6, g7, g8, g9, g10⟩ := M'.go (t := now') n0 (by omega) (by omega) (by omega) hcb.1
        have O45 := O'
        obtain ⟨o1, o2, o3, Own, B, o4, o5⟩ := O'
        refine (bgo_spec B (by omega) (t := now') (by omega)).mono ?_
        rintro _ h46 ⟨a', c', Own', rfl, B', cc, hf, sl, hb⟩
        have O46 := on_op o1 o2 o3 o4 o5 cc B' hf
        have hob := lt_of_get o3
        have hne : ∀ y, blkOf a' y → y ≠ h6.size := fun y hy e => by
          rcases (hb y hy).2 with r | r
          · exact o5 (e ▸ r)
          · omega
        have hgl : (stGo s' now').2.1.length = Q.length := by have := congrArg List.length g2; simpa using this
        refine ⟨_, _, _, _, rfl, fun q => absurd g1 q, fun _ => ?_⟩
        refine ⟨fun m k hh => 0 ≤ k ∧ k ≤ Q.length ∧ m = P.length + s'.L.length - k ∧ ∃ os, On h hh bb h6.size (stGo s' now').2.2 os ∧ Tell (stGo s' now').2.2 Q os k.toNat ∧ Sl hh ty_api_Fate 3 a' (stGo s' now').2.1.length c' (flat (stGo s' now').2.1), fun _ k _ => (Q.length - k).toNat, ⟨by omega, by omega, by omega, os', O46, g4, sl⟩, ?_⟩
        rintro m k h56 ⟨k0, k1, rfl, os2, O2, T2, sl2⟩
        refine ⟨fun hklt => ?_, fun hkge => ?_⟩
        · have hk : k.toNat < Q.length := by omega
          obtain ⟨f, hfk⟩ : ∃ f, (stGo s' now').2.1[k.toNat]? = some f := ⟨_, List.getElem?_eq_getElem (by omega)⟩
          obtain ⟨ox, hok⟩ : ∃ ox, Q[k.toNat]? = some ox := ⟨_, List.getElem?_eq_getElem hk⟩
          have hfid : f.id = ox.id := by
            have := congrArg (·[k.toNat]?) g2
            simpa [hfk, hok] using this
          obtain ⟨r1, r2, r3, r4, r5⟩ := g6 _ f ox hfk hok
          obtain ⟨u1, u2⟩ := T2.next g5 hok r1
          obtain ⟨v1, v2, v3⟩ := flat_get hfk
          obtain ⟨b1, o1', ea1, c1⟩ := sl2.get v1
          obtain ⟨b2, o2', ea2, c2⟩ := sl2.get v2
          obtain ⟨b3, o3', ea3, c3⟩ := sl2.get v3
          rw [ea1] at ea2 ea3
          cases ea2; cases ea3
          have wd : IntKind.u64.wrap (ox.dead - c) = ox.dead - c := wrap_u64 (by omega) (by omega)
          have co := O2.cell u1
          refine ⟨b1, o1', ea1, ⟨k0, hklt⟩, f.id, c1, fun _ => by omega, ox.dead, fun _ => by rw [hfid]; exact co, fun _ => by omega, ox.dead, fun _ => by rw [hfid]; exact co, fun _ => ⟨k0, hklt⟩, f.kind, fun _ => by rw [Nat.add_assoc]; exact c2, fun _ => ⟨k0, hklt⟩, f.why, fun _ => by rw [Nat.add_assoc]; exact c3, fun _ => by omega, ox.dead, fun _ => by rw [hfid]; exact co, fun hb1 => ?_, fun _ => ?_⟩
          · exfalso
            rw [wd] at hb1
            simp only [Bool.or_eq_true, Bool.and_eq_true, decide_eq_true_eq, Bool.not_eq_true', decide_eq_false_iff_not] at hb1
            rcases hb1 with (((q | q) | q) | q) | ⟨⟨q1, q2⟩, q3⟩
            · omega
            · omega
            · omega
            · omega
            · exact q3 (r5 ⟨q1, q2⟩)
          · obtain ⟨h90, z1, z2, z3⟩ := O2.set (i := ox.id.toNat) (by rw [T2.ol]; omega) 0
            have ek : (k + 1).toNat = k.toNat + 1 := by omega
            refine ⟨by omega, h90, by rw [hfid]; exact z1, ⟨by omega, by omega⟩, ⟨by omega, by omega⟩, ⟨by omega, by omega, by omega, _, z2, by rw [ek]; exact u2, sl2.keep fun y _ hy => z3 y (hne y hy)⟩, by dsimp only; omega⟩
        · have ek : k.toNat = Q.length := by omega
          rw [ek] at T2
          have hTo : ∀ i : Nat, i < 20 → os2[i]? = some ((look (stGo s' now').2.2.L i).getD 0) := fun i hi => by
            have := T2.o i hi; rw [List.drop_length, List.nil_append] at this; exact this
          have hnd2 : ((stGo s' now').2.2.L.map (·.id)).Nodup := by
            rw [List.map_append, List.nodup_append] at g5; exact g5.2.1
          refine ⟨fun w hh => hh = h56 ∧ 0 ≤ w ∧ w ≤ 20, fun w _ => (20 - w).toNat, ⟨rfl, by omega, by omega⟩, ?_⟩
          rintro w hh ⟨rfl, w0, w1⟩
          refine ⟨fun hwl => ?_, fun hwg => ?_⟩
          · have hw := hTo w.toNat (by omega)
            have co := O2.cell hw
            refine ⟨⟨w0, hwl⟩, _, co, fun _ => ⟨w0, hwl⟩, _, fun _ => co, fun q => ?_, fun _ => ⟨⟨by omega, by omega⟩, ⟨rfl, by omega, by omega⟩, by dsimp only; omega⟩⟩
            exfalso
            simp only [Bool.and_eq_true, decide_eq_true_eq, Bool.not_eq_true', decide_eq_false_iff_not] at q
            cases hl : look (stGo s' now').2.2.L (w.toNat : Int) with
            | none => rw [hl] at q; exact q.1 rfl
            | some d =>
              rw [hl] at q
              have r := (g10 _ ((look_some hnd2).1 hl)).2.2
              dsimp only at r
              simp only [Option.getD_some] at q
              rw [wrap_u64 (n := d - c) (by omega) (by omega)] at q
              omega
          · refine ⟨⟨by omega, by omega⟩, ⟨by omega, by omega, by omega, by omega, _, os2, O2, ⟨g7, g8, by rw [g9]; rfl, fun f hf => (by rw [g9] at hf; cases hf), hnd2, fun x hx => g10 x hx, T2.ol, hTo⟩, by omega⟩, by dsimp only; omega⟩
      · -- a request is opened
        have wn : IntKind.u64.wrap (now + 1) = now + 1 := wrap_u64 (by omega) (by omega)
        have hNt : N.tmod 60 = N % 60 := Int.tmod_eq_emod_of_nonneg hN.1
        have wd : IntKind.u64.wrap (now + 1 + N % 60) = now + 1 + N % 60 := wrap_u64 (by omega) (by omega)
        have wc : IntKind.u64.wrap (now + c) = now + c := wrap_u64 (by omega) (by omega)
        refine ⟨N, cell_lst q2 rfl, ?_⟩
        rw [wn, hNt, wd, wc]
        obtain ⟨m1, m2, m3⟩ := M.open_ hcb.1 n0 (by omega) hyn (dead := now + 1 + N % 60) (by omega) (by omega)
        obtain ⟨o1, o2, o3, Own, B, o4, o5⟩ := O33
        refine (open_spec B yn (now + 1 + N % 60) (by omega)).mono ?_
        rintro _ h118 ⟨rfl, c118, B118⟩
        have O118 := on_op o1 o2 o3 o4 o5 c118 B118 grow_sub'
        have co := O118.cell (M.o yn hyn)
        simp only [List.nil_append] at co
        refine ⟨_, rfl, ⟨by omega, by omega⟩, _, co, fun hne => absurd m1 hne, fun _ => ⟨fun hz => ?_, fun hz => ?_⟩⟩
        · obtain ⟨m4, m5⟩ := m2 hz
          obtain ⟨h132, z1, z2, z3⟩ := O118.set (i := yn) (by rw [M.ol]; exact hyn) (now + 1 + N % 60)
          refine ⟨⟨by omega, by omega⟩, h132, z1, ⟨by omega, by omega⟩, .inl rfl, _, _, [], z2, m4, ?_⟩
          rw [m5]; simp
        · rw [m3 hz] at O118
          exact ⟨.inl rfl, s, os, [], O118, M, by simp⟩
      · -- answered, called off, or the time goes on
        have hmid : ∀ (kind why : Int), ¬ (kind = 2 ∧ why = 1) → ∀ hj, On h hj bb h6.size (stOut s yn kind why).2 os → (now = now ∨ now = now + 1) ∧ ∃ s' os' P, On h hj bb h6.size s' os' ∧ Mid c now s' os' P ∧ ((s.L.length : Nat) : Int) = ((P.length + s'.L.length : Nat) : Int) := by
          intro kind why hkw hj Oj
          obtain ⟨P, MP, hP⟩ := M.out yn kind why hkw
          exact ⟨.inl rfl, _, _, P, Oj, MP, by rw [hP]⟩
        refine ⟨fun bo hj => hj = h40 ∧ (bo = true → kd = 1 ∨ kd = 2), ?_, fun q => ⟨rfl, fun _ => .inl q⟩, fun _ => ⟨rfl, fun q => .inr (by simpa using q)⟩⟩
        rintro bo h137 ⟨rfl, hbo⟩
        refine ⟨fun hbt => ?_, fun hbf => ⟨fun hk3 => ?_, fun _ => ?_⟩⟩
        · refine ⟨kd, ck, ?_⟩
          obtain ⟨o1, o2, o3, Own, B, o4, o5⟩ := O33
          refine (answer_spec B (by rw [hF]; simp) yn 5 (decide (kd = 2))).mono ?_
          rintro _ h141 ⟨rfl, c141, B141⟩
          have O141 := on_op o1 o2 o3 o4 o5 c141 B141 grow_sub'
          refine ⟨_, rfl, ?_⟩
          by_cases h2 : kd = 2
          · have ea : stAnswer s yn 5 (decide (kd = 2)) = stOut s yn 2 2 := by simp [stAnswer, h2]
            rw [ea] at O141
            exact hmid 2 2 (by omega) _ O141
          · have ea : stAnswer s yn 5 (decide (kd = 2)) = stOut s yn 1 5 := by simp [stAnswer, h2]
            rw [ea] at O141
            exact hmid 1 5 (by omega) _ O141
        · obtain ⟨o1, o2, o3, Own, B, o4, o5⟩ := O33
          refine (bcancel_spec B (by rw [hF]; simp) yn).mono ?_
          rintro _ h145 ⟨rfl, c145, B145⟩
          exact ⟨_, rfl, hmid 2 3 (by omega) _ (on_op o1 o2 o3 o4 o5 c145 B145 grow_sub')⟩
        · have wn : IntKind.u64.wrap (now + 1) = now + 1 := wrap_u64 (by omega) (by omega)
          rw [wn]
          exact ⟨.inr rfl, s, os, [], O33, M, by simp⟩
    · have ht := tmod_range id
      have wz : IntKind.i64.wrap (0 - id.tmod 20) = 0 - id.tmod 20 := wrap_i64 ⟨by omega, by omega⟩
      exact ⟨fun q => ⟨rfl, by omega, by omega⟩, fun q => ⟨rfl, by omega, by omega⟩⟩
  · have wt : IntKind.u64.wrap (now + 1000) = now + 1000 := wrap_u64 (by omega) (by omega)
    rw [wt]
    have e : stGo s (now + 1000) = (0, s.L.map byTime, ⟨c, now + 1000, [], []⟩) := by
      have e1 : s.L.filter (dueBy c (now + 1000)) = s.L := List.filter_eq_self.2 fun x hx => by have := M.rng x (by simpa using hx); simp [dueBy]; omega
      have e2 : s.L.filter (fun x => !dueBy c (now + 1000) x) = [] := List.filter_eq_nil_iff.2 fun x hx => by have := M.rng x (by simpa using hx); simp [dueBy]; omega
      unfold stGo
      rw [if_neg (by omega), if_neg (by rw [M.tm]; omega), M.cost, e1, e2, hF]
      rfl
    obtain ⟨o1, o2, o3, Own, B, o4, o5⟩ := O
    refine (bgo_spec B (by rw [hF]; simp) (t := now + 1000) (by omega)).mono ?_
    rw [e]
    rintro _ h153 ⟨a', c', Own', rfl, B', cc, hf, sl, hb⟩
    have O153 := on_op o1 o2 o3 o4 o5 cc B' hf
    refine ⟨_, _, _, _, rfl, ?_⟩
    have hc : ((decide ((0 : Int) = 0)) && (decide (((List.map byTime s.L).length : Int) = (s.L.length : Nat)))) = true := by simp
    rw [hc]
    refine ⟨fun y hh => y = 0 ∧ Ext h hh, ?_, fun _ => ?_, fun q => (by cases q)⟩
    · rintro y hh ⟨rfl, xx⟩
      exact ⟨rfl, xx⟩
    · refine (count_spec B').mono ?_
      rintro _ h159 ⟨rfl, rfl⟩
      exact ⟨_, rfl, rfl, O153.1⟩
end Go.Proofs.Vf
