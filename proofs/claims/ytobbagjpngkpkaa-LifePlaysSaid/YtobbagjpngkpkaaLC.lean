/- Contracts of package life, and laws that follow from them. Conditions: as stated at each. -/
import Derived.Test.YtobbagjpngkpkaaLB
namespace Go.Proofs.Vf
open Go Go.Proofs Go.VC
section
variable {Own : Nat → Prop} {h : Heap} {bb : Nat} {st : St} {x : BX} {D : Int → Prop}

theorem stOut_fst (s : St) (id kind why : Int) : (stOut s id kind why).1 = 0 ∨ (stOut s id kind why).1 = 6 := by
  unfold stOut; split
  · exact .inl rfl
  · exact .inr rfl

theorem answer_spec (B : BookS Own h bb st) (hF : st.F.length < 1000000) (id status : Int) (bad : Bool) :
    CallsH PR fn_life_Book_Answer #[.pointer (some ⟨bb, 0, none⟩), .int .i64 id, .int .i64 status, .bool bad] h
      (fun v h' => v = .int .i64 (stAnswer st id status bad).1 ∧ Ch Own h h' ∧ BookS (Grow Own h h') h' bb (stAnswer st id status bad).2) := by
  apply F_life_Book_Answer_ok
  unfold F_life_Book_Answer stAnswer
  refine ⟨fun hb => ?_, fun hb => ?_⟩
  · have hc : status < 0 ∨ status > 255 := by simpa using hb
    rw [if_pos hc]
    exact ⟨rfl, Ch.refl _ _, B.grow (Nat.le_refl _) B.bnd⟩
  · have hc : ¬ (status < 0 ∨ status > 255) := by simp at hb; omega
    rw [if_neg hc]
    refine ⟨fun hbad => ?_, fun hbad => ?_⟩
    · subst hbad
      refine (out_spec B hF id 2 2).mono ?_
      rintro _ h3 ⟨rfl, c3, B3⟩
      exact ⟨_, rfl, rfl, c3, B3⟩
    · subst hbad
      refine (out_spec B hF id 1 status).mono ?_
      rintro _ h3 ⟨rfl, c3, B3⟩
      exact ⟨_, rfl, rfl, c3, B3⟩

theorem bcancel_spec (B : BookS Own h bb st) (hF : st.F.length < 1000000) (id : Int) :
    CallsH PR fn_life_Book_Cancel #[.pointer (some ⟨bb, 0, none⟩), .int .i64 id] h
      (fun v h' => v = .int .i64 (stCancel st id).1 ∧ Ch Own h h' ∧ BookS (Grow Own h h') h' bb (stCancel st id).2) := by
  apply F_life_Book_Cancel_ok
  unfold F_life_Book_Cancel stCancel
  refine (out_spec B hF id 2 3).mono ?_
  rintro _ h3 ⟨rfl, c3, B3⟩
  exact ⟨_, rfl, rfl, c3, B3⟩

theorem count_spec (B : BookS Own h bb st) :
    CallsH PR fn_life_Book_Count #[.pointer (some ⟨bb, 0, none⟩)] h (fun v h' => v = .int .i64 (st.L.length : Nat) ∧ h' = h) := by
  obtain ⟨x, B⟩ := B
  apply F_life_Book_Count_ok
  unfold F_life_Book_Count
  refine ⟨_, _, rfl, _, cell_lst B.blk (bc_map _), x.l, x.c, B.all, ?_, rfl⟩
  rw [B.len]

theorem has_spec (B : BookS Own h bb st) (id : Int) :
    CallsH PR fn_life_Book_Has #[.pointer (some ⟨bb, 0, none⟩), .int .i64 id] h
      (fun v h' => v = .tuple #[.int .u64 ((look st.L id).getD 0), .bool (look st.L id).isSome] ∧ Ext h h') := by
  obtain ⟨x, B⟩ := B
  apply F_life_Book_Has_ok
  unfold F_life_Book_Has
  refine ⟨_, _, rfl, _, cell_lst B.blk (bc_map _), x.l, x.c, B.all, (if (look st.L id).isSome then x.tm id else 0), (look st.L id).getD 0, ?_, ?_⟩
  · rw [B.ent]; cases look st.L id <;> rfl
  intro h11 e11
  obtain ⟨h14, q1, q2, q3, q4⟩ := st_tmp (zs := [_, _]) e11 [.int .i64 (if (look st.L id).isSome then x.tm id else 0), .int .u64 ((look st.L id).getD 0)] rfl (by simp [Value.oneCell'])
  refine ⟨h14, q1, _, cell_lst q2 rfl, ?_, q3⟩
  rw [B.ent, Option.isSome_map]

/-- fewer than 64 are open: a timer is free -/
theorem BookP.some_free (B : BookP Own h bb st D x) (hl : st.L.length < 64) : ¬ ∀ i : Nat, i < 64 → x.used[i]? = some true := by
  intro hall
  have hid : ∀ (i : Nat) (hi : i < 64), ∃ d, look st.L (x.ids[i]'(by rw [B.il]; exact hi)) = some d ∧ x.tm (x.ids[i]'(by rw [B.il]; exact hi)) = i := by
    intro i hi
    obtain ⟨id, d, h1, h2⟩ := B.free i (hall i hi)
    have h3 := (B.tmr id d h1).2.2.1
    rw [h2, Int.toNat_natCast, List.getElem?_eq_getElem (by rw [B.il]; exact hi)] at h3
    have h3 := Option.some.inj h3
    rw [h3]; exact ⟨d, h1, h2⟩
  have hnd : x.ids.Nodup := by
    rw [List.nodup_iff_pairwise_ne, List.pairwise_iff_getElem]
    intro i j hi hj hij e
    rw [B.il] at hi hj
    obtain ⟨_, _, h1⟩ := hid i hi
    obtain ⟨_, _, h2⟩ := hid j hj
    rw [e, h2] at h1; omega
  have hsub : x.ids ⊆ st.L.map (·.id) := by
    intro v hv
    obtain ⟨i, hi, rfl⟩ := List.getElem_of_mem hv
    obtain ⟨d, h1, _⟩ := hid i (by rw [B.il] at hi; exact hi)
    exact List.mem_map.2 ⟨_, (look_some B.st.nd).1 h1, rfl⟩
  have := List.Nodup.length_le_of_subset hnd hsub
  rw [B.il, List.length_map] at this
  omega

theorem bc_used_ld (c : Int) (hi : x.ids.length = 64) (hu : x.used.length = 64) : ((bookCells c x).drop (0 + 67)).take 64 = x.used.map Value.bool := by
  apply List.ext_getElem?
  intro i
  rw [List.getElem?_take]
  by_cases h : i < 64
  · rw [if_pos h, List.getElem?_drop]
    have : x.used[i]? = some (x.used[i]'(by omega)) := List.getElem?_eq_getElem _
    have h2 := bc_used (x := x) c hi hu this
    rw [Nat.mul_one] at h2
    rw [h2, List.getElem?_map, this]; rfl
  · rw [if_neg h, List.getElem?_eq_none (by simp; omega)]

theorem timer_spec (B : BookP Own h bb st D x) (hl : st.L.length < 64) :
    CallsH PR fn_life_Book_timer #[.pointer (some ⟨bb, 0, none⟩)] h (fun v h' => h' = h ∧ ∃ t : Nat, v = .int .i64 (t : Nat) ∧ t < 64 ∧ x.used[t]? = some false) := by
  apply F_life_Book_timer_ok
  unfold F_life_Book_timer
  refine ⟨_, _, rfl, x.used.map Value.bool, ?_, fun i hh => hh = h ∧ 0 ≤ i ∧ i ≤ 64 ∧ ∀ j : Nat, (j : Int) < i → x.used[j]? = some true, fun i _ => (64 - i).toNat, ⟨rfl, by omega, by omega, fun j hj => by omega⟩, ?_⟩
  · rw [ld_lst B.blk _ _ (by rw [bc_len _ B.il B.ul]; omega), bc_used_ld _ B.il B.ul]
  rintro i hh ⟨rfl, i0, i1, hi⟩
  refine ⟨fun hlt => ?_, fun hge => ?_⟩
  · have hn : i.toNat < x.used.length := by rw [B.ul]; omega
    refine ⟨x.used[i.toNat], ⟨⟨by omega, by omega⟩, by rw [Nat.mul_one, List.getElem?_map, List.getElem?_eq_getElem hn]; rfl⟩, fun hf => ⟨rfl, i.toNat, by congr 1; omega, by omega, by rw [List.getElem?_eq_getElem hn, hf]⟩, fun ht => ⟨⟨by omega, by omega⟩, ⟨rfl, by omega, by omega, fun j hj => ?_⟩, by dsimp only; omega⟩⟩
    by_cases hji : (j : Int) < i
    · exact hi j hji
    · have : j = i.toNat := by omega
      subst this
      rw [List.getElem?_eq_getElem hn, ht]
  · exact absurd (fun j hj => hi j (by omega)) (B.some_free hl)

theorem wheel_now (B : BookP Own h bb st D x) {h' : Heap} (e : Ext h h') : CallsH PR fn_wheel_Wheel_Now #[.pointer (some ⟨x.wb, 0, none⟩)] h' (fun v h'' => v = .int .u64 st.now ∧ h'' = h') := now_spec (B.wheel.ext e)

theorem wrap_sub {a b : Int} (h1 : b ≤ a) (h0 : 0 ≤ b) (h2 : a < 18446744073709551616) : IntKind.u64.wrap (a - b) = a - b := wrap_u64 (by omega) (by omega)

theorem open_spec (B : BookS Own h bb st) (id dead : Int) (hd0 : 0 ≤ dead) :
    CallsH PR fn_life_Book_Open #[.pointer (some ⟨bb, 0, none⟩), .int .i64 id, .int .u64 dead] h
      (fun v h' => v = .int .i64 (stOpen st id dead).1 ∧ Ch Own h h' ∧ BookS (Grow Own h h') h' bb (stOpen st id dead).2) := by
  have BS := B
  have hbnd := B.bnd
  have hok := stOpen_ok B.sok id dead
  obtain ⟨x, B⟩ := B
  have hcost := B.st.cost
  have hnow := B.st.now
  apply F_life_Book_Open_ok
  unfold F_life_Book_Open
  unfold stOpen at hok ⊢
  refine ⟨_, _, rfl, _, cell_lst B.blk (bc_map _), x.l, x.c, B.all, (if (look st.L id).isSome then x.tm id else 0), (look st.L id).getD 0, ?_, ?_⟩
  · rw [B.ent]; cases look st.L id <;> rfl
  intro h11 e11
  obtain ⟨h14, q1, q2, q3, q4⟩ := st_tmp (zs := [_, _]) e11 [.int .i64 (if (look st.L id).isSome then x.tm id else 0), .int .u64 ((look st.L id).getD 0)] rfl (by simp [Value.oneCell'])
  have same : Ch Own h h14 ∧ BookS (Grow Own h h14) h14 bb st := ⟨q3.ch, (BS.ext q3).grow q3.1 hbnd⟩
  refine ⟨h14, q1, fun hb => ?_, fun hb => ?_⟩
  · have hc : id < 0 ∨ id > 65535 := by simpa using hb
    rw [if_pos hc]; exact ⟨rfl, same⟩
  have hc : ¬ (id < 0 ∨ id > 65535) := by simp at hb; omega
  rw [if_neg hc] at hok ⊢
  refine (may_spec dead h14).mono ?_
  rintro _ h17 ⟨rfl, rfl⟩
  refine ⟨_, rfl, fun hm => ?_, fun hm => ?_⟩
  · have hm : ¬ dead < 4611686018427387904 := by simpa using hm
    rw [if_pos hm]; exact ⟨rfl, same⟩
  have hm : dead < 4611686018427387904 := by simpa using hm
  rw [if_neg (fun q => q hm)] at hok ⊢
  have hsm : (mlook x.l id).isSome = (look st.L id).isSome := by rw [B.ent, Option.isSome_map]
  rw [hsm]
  refine ⟨fun hs => ?_, fun hs => ?_⟩
  · rw [if_pos hs]; exact ⟨rfl, same⟩
  rw [if_neg (by rw [hs]; decide)] at hok ⊢
  refine ⟨_, cell_lst (q3.get B.blk) (bc_map _), x.l, x.c, q3.get B.all, ?_⟩
  rw [B.len]
  refine ⟨fun hl => ?_, fun hl => ?_⟩
  · rw [if_pos (by omega)]; exact ⟨rfl, same⟩
  rw [if_neg (by omega)] at hok ⊢
  refine ⟨st.cost, cell_lst (q3.get B.blk) (bc_cost _), st.cost, fun _ => cell_lst (q3.get B.blk) (bc_cost _), _, fun _ => cell_lst (q3.get B.blk) (bc_wheel _), fun x36 h34 => h34 = h17 ∧ (¬ dead < st.cost → x36 = st.now), ?_, ?_, ?_⟩
  · rintro x36 h34 ⟨rfl, hx⟩
    have B34 : BookP Own h34 bb st D0 x := B.keep q3.1 fun y hy _ => q3.2 y hy
    refine ⟨fun _ => cell_lst B34.blk (bc_cost _), fun hb => ?_, fun hb => ?_⟩
    · have hden : dead ≤ st.now + st.cost := by
        by_cases hlt : dead < st.cost
        · omega
        · rw [hx hlt] at hb
          simp only [Bool.or_eq_true, decide_eq_true_eq] at hb
          rw [wrap_sub (by omega) (by omega) (by omega)] at hb
          omega
      rw [if_pos hden]; exact ⟨rfl, same⟩
    · have hlt : ¬ dead < st.cost := by
        intro q; simp [q] at hb
      rw [hx hlt, wrap_sub (by omega) (by omega) (by omega)] at hb
      have hden : ¬ dead ≤ st.now + st.cost := by simp at hb; omega
      rw [if_neg hden] at hok ⊢
      have hln : look st.L id = none := by simpa using hs
      have hnot : ∀ y ∈ st.L, y.id ≠ id := look_none.1 hln
      refine (timer_spec B34 (by omega)).mono ?_
      rintro _ h40 ⟨rfl, t, rfl, ht, hut⟩
      refine ⟨_, rfl, _, cell_lst B34.blk (bc_wheel _), _, cell_lst B34.blk (bc_cost _), ?_⟩
      rw [wrap_sub (by omega) (by omega) (by omega)]
      have hSn : x.S (t : Int) = none := by
        cases hs : x.S (t : Int) with
        | none => rfl
        | some s =>
          obtain ⟨k, d, h1, h2⟩ := B.spot _ _ hs
          have := (B.tmr k d h1).2.1
          rw [h2, Int.toNat_natCast, hut] at this; cases this
      refine (set_spec B34.wheel ⟨by omega, by omega⟩ hSn (by omega) (by omega)).mono ?_
      rintro _ h48 ⟨rfl, c48, W48⟩
      have hz48 := c48.1
      have k48 : ∀ y, y < h40.size → ¬ x.WF y → h48[y]? = h40[y]? := fun y hy hw => c48.2 y hy hw
      have b48 : h48[bb]? = some (.cells (bookCells st.cost x).toArray ty_life_Book (0, 0)) := by rw [k48 _ (lt_of_get B34.blk) B.dis.1]; exact B34.blk
      have m48 : h48[x.mo]? = some (mobj ikey x.l x.c) := by rw [k48 _ (lt_of_get B34.all) B.dis.2.1]; exact B34.all
      refine ⟨_, rfl, _, cell_lst b48 (bc_map _), ⟨by omega, by omega⟩, ?_⟩
      rw [Int.toNat_natCast]
      obtain ⟨h55, u1, u2, u3, u4⟩ := st_ex (o := 0 + 67 + t * 1) [.bool true] b48 (by rw [bc_len _ B.il B.ul]; simp; omega) (by simp [Value.oneCell'])
      rw [spl_one (by rw [bc_len _ B.il B.ul]; omega), bc_set_used _ B.il B.ul ht] at u2
      have hl2 : (x.used.set t true).length = 64 := by rw [List.length_set]; exact B.ul
      refine ⟨h55, u1, ⟨by omega, by omega⟩, ?_⟩
      obtain ⟨h58, v1, v2, v3, v4⟩ := st_ex (o := 0 + 3 + t * 1) [.int .i64 id] u2 (by rw [bc_len (x := { x with used := x.used.set t true }) _ B.il hl2]; simp; omega) (by simp [Value.oneCell'])
      rw [spl_one (by rw [bc_len (x := { x with used := x.used.set t true }) _ B.il hl2]; omega), bc_set_id (x := { x with used := x.used.set t true }) _ B.il ht] at v2
      have m58 : h58[x.mo]? = some (mobj ikey x.l x.c) := by rw [v3 _ B.bm.symm, u3 _ B.bm.symm]; exact m48
      refine ⟨h58, v1, x.mo, rfl, x.l, x.c, m58, ?_⟩
      intro h64 e64
      obtain ⟨w1, w2, w3⟩ := set_get e64 m58
      refine ⟨⟨w1, B.ok⟩, ?_⟩
      intro h66 e66
      obtain ⟨z1, z2, z3⟩ := set_get e66 w1
      have hz := q3.1
      have k66 : ∀ y, y < h40.size → y ≠ bb → y ≠ x.mo → ¬ x.WF y → h66[y]? = h40[y]? := fun y hy a b c => by rw [z2 y b, w2 y b, v3 y a, u3 y a, k48 y hy c]
      refine ⟨rfl, ⟨by omega, fun y hy hy' => ?_⟩, ?_⟩
      · rw [k66 y (by omega) (fun e => hy' (e ▸ B.own.1)) (fun e => hy' (e ▸ B.own.2.1)) (fun q => hy' (B.own.2.2.1 y q)), q3.2 y hy]
      · have hlook : ∀ k, look (ins ⟨id, dead⟩ st.L) k = if k = id then some dead else look st.L k := fun k => look_ins B.st.nd hnot k
        refine ⟨{ x with l := mput x.l id (entV t dead) x.c, c := mclk x.l id x.c, tm := fun k => if k = id then (t : Int) else x.tm k, ids := x.ids.set t id, used := x.used.set t true, S := upd x.S (t : Int) (some (spotOf (dead - st.cost) st.now)), WF := Grow x.WF h40 h48 }, ?_⟩
        have hWb : ∀ y, x.WF y → y < h40.size := B34.wheel.bnd
        exact
        { blk := by
            rw [z2 _ B.bm, w2 _ B.bm]; exact v2
          il := by show (x.ids.set t id).length = 64; rw [List.length_set]; exact B.il
          ul := hl2
          wheel := W48.keep (by omega) fun y hy hw => by
            have n1 : y ≠ bb := fun e => by
              rcases hw with q | q
              · exact B.dis.1 (e ▸ q)
              · have := lt_of_get B34.blk; omega
            have n2 : y ≠ x.mo := fun e => by
              rcases hw with q | q
              · exact B.dis.2.1 (e ▸ q)
              · have := lt_of_get B34.all; omega
            rw [z2 y n2, w2 y n2, v3 y n1, u3 y n1]
          good := fun k s hs => by
            dsimp only at hs
            unfold upd at hs
            split at hs
            · cases hs
              exact ⟨by show st.now < dead - st.cost; omega, rfl⟩
            · exact B.good k s hs
          all := z1
          ok := mput_ok B.ok
          ent := fun k => by
            show mlook (mput x.l id (entV t dead) x.c) k = (look (ins ⟨id, dead⟩ st.L) k).map fun d => entV (if k = id then (t : Int) else x.tm k) d
            rw [mlook_mput, hlook]
            by_cases hk : k = id
            · simp [hk]
            · simp only [hk, if_false]; exact B.ent k
          tmr := fun k e hk => by
            change look (ins ⟨id, dead⟩ st.L) k = some e at hk
            rw [hlook] at hk
            dsimp only
            by_cases hki : k = id
            · subst hki
              simp only [if_true, Option.some.injEq] at hk ⊢
              subst hk
              refine ⟨⟨by omega, by omega⟩, ?_, ?_, fun _ => ⟨spotOf (dead - st.cost) st.now, upd_same _ _ _, rfl⟩, fun q => q.elim⟩
              · rw [Int.toNat_natCast, List.getElem?_set_self (by rw [B.ul]; exact ht)]
              · rw [Int.toNat_natCast, List.getElem?_set_self (by rw [B.il]; exact ht)]
            · simp only [hki, if_false] at hk ⊢
              obtain ⟨r1, r2, r3, r4⟩ := B.tmr k e hk
              have hne : x.tm k ≠ (t : Int) := fun q => by rw [q, Int.toNat_natCast, hut] at r2; cases r2
              have hne2 : ¬ t = (x.tm k).toNat := by omega
              refine ⟨r1, ?_, ?_, ?_⟩
              · rw [List.getElem?_set_ne hne2]; exact r2
              · rw [List.getElem?_set_ne hne2]; exact r3
              · rw [upd_other _ _ hne]; exact r4
          free := fun i hi => by
            change (x.used.set t true)[i]? = some true at hi
            show ∃ k d, look (ins ⟨id, dead⟩ st.L) k = some d ∧ (if k = id then (t : Int) else x.tm k) = i
            rw [List.getElem?_set] at hi
            split at hi
            · rename_i e; subst e
              exact ⟨id, dead, by rw [hlook, if_pos rfl], by rw [if_pos rfl]⟩
            · obtain ⟨k, d, h1, h2⟩ := B.free i hi
              have hki : k ≠ id := fun q => by rw [q, hln] at h1; cases h1
              exact ⟨k, d, by rw [hlook, if_neg hki]; exact h1, by rw [if_neg hki]; exact h2⟩
          spot := fun k s hs => by
            dsimp only at hs
            show ∃ i d, look (ins ⟨id, dead⟩ st.L) i = some d ∧ (if i = id then (t : Int) else x.tm i) = k
            unfold upd at hs
            split at hs
            · rename_i e; subst e
              exact ⟨id, dead, by rw [hlook, if_pos rfl], by rw [if_pos rfl]⟩
            · obtain ⟨i, d, h1, h2⟩ := B.spot k s hs
              have hki : i ≠ id := fun q => by rw [q, hln] at h1; cases h1
              exact ⟨i, d, by rw [hlook, if_neg hki]; exact h1, by rw [if_neg hki]; exact h2⟩
          fates := B34.fates.keep fun y hy hb => k66 y hy (B.fb hb) (B.fm hb) (B.dis.2.2 y hb)
          fl := B.fl
          own := ⟨.inl B.own.1, .inl B.own.2.1, fun y hy => by
            rcases hy with q | q
            · exact .inl (B.own.2.2.1 y q)
            · exact .inr (by omega), fun y hy => .inl (B.own.2.2.2 y hy)⟩
          dis := ⟨fun q => by
            rcases q with q | q
            · exact B.dis.1 q
            · have := lt_of_get B34.blk; omega, fun q => by
            rcases q with q | q
            · exact B.dis.2.1 q
            · have := lt_of_get B34.all; exact absurd (show h40.size ≤ x.mo from q.1) (by omega), fun y hy q => by
            rcases q with q | q
            · exact B.dis.2.2 y hy q
            · have := B34.fates.blk_lt hy; omega⟩
          bnd := fun y => Grow.bnd (by omega) hbnd
          st := hok }
  · intro _
    refine (now_spec (B.wheel.ext q3)).mono ?_
    rintro _ h34 ⟨rfl, rfl⟩
    exact ⟨_, rfl, rfl, fun _ => rfl⟩
  · intro hlt
    exact ⟨0, rfl, fun hn => absurd hlt hn⟩
end
end Go.Proofs.Vf
