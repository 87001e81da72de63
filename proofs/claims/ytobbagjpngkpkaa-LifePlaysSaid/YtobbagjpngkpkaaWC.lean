/- Contracts of the functions of package wheel over the heap. Conditions: the wheel is one that its own functions made. -/
import Derived.Test.YtobbagjpngkpkaaWB
namespace Go.Proofs.Vf
open Go Go.Proofs Go.VC
section
variable {Own : Nat → Prop} {h : Heap} {wb : Nat} {S : Int → Option Spot} {now : Int}

theorem WheelP.newRow {h1 h2 : Heap} {rows : List (Option Nat)} {ma : Nat} {l : List (ME Int)} {c : Nat} (W : WheelP Own h wb S now rows ma l c) {i : Nat} (hi : rows[i]? = some none)
    (e1 : h1 = h.push (.map #[] 0)) (e2 : stCells wb h1 i [.map (some h.size)] = some h2) :
    WheelP (Grow Own h h2) h2 wb S now (rows.set i (some h.size)) ma l c ∧ Ch Own h h2 := by
  obtain ⟨p1, p2, p3⟩ := push_get e1
  have hlt : i < rows.length := (List.getElem?_eq_some_iff.1 hi).1
  obtain ⟨h2', q1, q2, q3, q4⟩ := st_ex (o := i) [.map (some h.size)] (p2.get W.blk) (by simp; omega) (by simp [Value.oneCell'])
  obtain rfl : h2' = h2 := by rw [q1] at e2; exact Option.some.inj e2
  have hwlt := lt_of_get W.blk
  have hk : ∀ x, x < h.size → x ≠ wb → h2'[x]? = h[x]? := fun x hx hw => by rw [q3 x hw]; exact p2.2 x hx
  refine ⟨?_, ⟨by omega, fun x hx ho => hk x hx (fun e => ho (e ▸ W.own.1))⟩⟩
  have hnew : ∀ j r, (rows.set i (some h.size))[j]? = some (some r) → (j = i ∧ r = h.size) ∨ (j ≠ i ∧ rows[j]? = some (some r)) := by
    intro j r hj
    rw [List.getElem?_set] at hj
    split at hj
    · rename_i e; subst e
      left; exact ⟨rfl, by simpa using hj.symm⟩
    · rename_i e; right; exact ⟨fun q => e q.symm, hj⟩
  exact
  { len := by rw [List.length_set]; exact W.len
    blk := by
      rw [q2, spl_one (by simp; omega)]
      rw [List.set_append_left _ _ (by simpa using hlt), List.map_set]
    all := by
      rw [hk _ (lt_of_get W.all) (fun e => ne_map_cells W.blk W.all e.symm)]; exact W.all
    ok := W.ok
    spots := W.spots
    rng := W.rng
    ids := W.ids
    row := fun j r hj => by
      rcases hnew j r hj with ⟨rfl, rfl⟩ | ⟨hne, hj⟩
      · refine ⟨[], 0, ?_, mapOk_nil _ _, fun k => Or.inr ⟨rfl, fun s hs hx => ?_⟩⟩
        · rw [q3 _ (by omega)]; exact p1
        · obtain ⟨r, hr⟩ := W.has k s hs
          rw [hx, hi] at hr; cases hr
      · obtain ⟨lr, cr, g1, g2, g3⟩ := W.row j r hj
        refine ⟨lr, cr, ?_, g2, g3⟩
        rw [hk _ (lt_of_get g1) (fun e => ne_map_cells W.blk g1 e.symm)]; exact g1
    has := fun k s hs => by
      obtain ⟨r, hr⟩ := W.has k s hs
      have hne : ¬ i = s.ix := fun e => by rw [← e, hi] at hr; cases hr
      exact ⟨r, by rw [List.getElem?_set, if_neg hne]; exact hr⟩
    inj := fun a b r ha hb => by
      rcases hnew a r ha with ⟨e1, e2⟩ | ⟨n1, g1⟩ <;> rcases hnew b r hb with ⟨e3, e4⟩ | ⟨n2, g2⟩
      · omega
      · obtain ⟨lr, cr, g1, -⟩ := W.row b r g2
        have := lt_of_get g1; omega
      · obtain ⟨lr, cr, g1, -⟩ := W.row a r g1
        have := lt_of_get g1; omega
      · exact W.inj a b r g1 g2
    nma := fun j hj => by
      rcases hnew j _ hj with ⟨e1, e2⟩ | ⟨n1, g1⟩
      · have := lt_of_get W.all; omega
      · exact W.nma j g1
    own := ⟨Or.inl W.own.1, Or.inl W.own.2.1, fun j r hj => by
      rcases hnew j r hj with ⟨e1, e2⟩ | ⟨n1, g1⟩
      · right; omega
      · exact Or.inl (W.own.2.2 j r g1)⟩
    bnd := fun x hx => by
      rcases hx with o | o
      · have := W.bnd x o; omega
      · exact o.2
    nowr := W.nowr }

theorem WheelP.put {h' : Heap} {rows : List (Option Nat)} {ma : Nat} {l : List (ME Int)} {c : Nat} (W : WheelP Own h wb S now rows ma l c) {id : Int} {s : Spot} (hid : S id = none) {r : Nat} (hr : rows[s.ix]? = some (some r)) {lr : List (ME Int)} {cr : Nat}
    (hlr : h[r]? = some (mobj ikey lr cr)) (hrng : s.lv < 16 ∧ s.pl < 16 ∧ 0 ≤ s.t ∧ s.t < 4611686018427387904)
    (e1 : h'[r]? = some (mobj ikey (mput lr id (.bool true) cr) (mclk lr id cr))) (e2 : h'[ma]? = some (mobj ikey (mput l id s.v c) (mclk l id c))) (e3 : ∀ x, x < h.size → x ≠ r → x ≠ ma → h'[x]? = h[x]?) (hz : h.size ≤ h'.size) (hir : 0 ≤ id ∧ id < 1000) :
    WheelP Own h' wb (upd S id (some s)) now rows ma (mput l id s.v c) (mclk l id c) := by
  have hwr : wb ≠ r := ne_map_cells W.blk hlr
  have hwm : wb ≠ ma := ne_map_cells W.blk W.all
  exact
  { len := W.len
    blk := by rw [e3 _ (lt_of_get W.blk) hwr hwm]; exact W.blk
    all := e2
    ok := mput_ok W.ok
    spots := fun k => by
      rw [mlook_mput]; unfold upd
      split
      · rfl
      · exact W.spots k
    rng := fun k s' h' => by
      unfold upd at h'; split at h'
      · cases h'; exact hrng
      · exact W.rng k s' h'
    ids := fun k s' h' => by
      unfold upd at h'; split at h'
      · rename_i e; rw [e]; exact hir
      · exact W.ids k s' h'
    row := fun i r' hi => by
      obtain ⟨lr', cr', g1, g2, g3⟩ := W.row i r' hi
      by_cases hrr : r' = r
      · subst hrr
        have hi' := W.inj i s.ix r' hi hr
        subst hi'
        rw [hlr] at g1
        obtain ⟨rfl, rfl⟩ : lr = lr' ∧ cr = cr' := mobj_int_inj (Option.some.inj g1)
        refine ⟨_, _, e1, mput_ok g2, fun k => ?_⟩
        rw [mlook_mput]
        by_cases hk : k = id
        · subst hk; left; simp [upd]
        · simp only [hk, if_false, upd]; exact g3 k
      · refine ⟨lr', cr', ?_, g2, fun k => ?_⟩
        · rw [e3 _ (lt_of_get g1) hrr (fun e => W.nma i (e ▸ hi))]; exact g1
        · by_cases hk : k = id
          · subst hk
            right
            refine ⟨?_, ?_⟩
            · rcases g3 k with ⟨_, s', hs', hix⟩ | ⟨hn, _⟩
              · rw [hid] at hs'; cases hs'
              · exact hn
            · intro s' hs' hx
              simp only [upd, if_true] at hs'
              cases hs'
              rw [hx, hi] at hr; cases hr; exact hrr rfl
          · simp only [hk, if_false, upd]; exact g3 k
    has := fun k s' h' => by
      unfold upd at h'; split at h'
      · cases h'; exact ⟨r, hr⟩
      · exact W.has k s' h'
    inj := W.inj
    nma := W.nma
    own := W.own
    bnd := fun x hx => Nat.lt_of_lt_of_le (W.bnd x hx) hz
    nowr := W.nowr }

theorem prt_int (t : Int) (k : Nat) : (0 : Int) ≤ (prt t k : Nat) ∧ ((prt t k : Nat) : Int) < 16 := by
  have := prt_lt t k; omega

theorem put_spec (W : WheelS Own h wb S now) {id t : Int} (hid : S id = none) (hir : 0 ≤ id ∧ id < 1000) (ht : 0 ≤ t ∧ t < 4611686018427387904) :
    CallsH PR fn_wheel_Wheel_put #[.pointer (some ⟨wb, 0, none⟩), .int .i64 id, .int .u64 t] h
      (fun v h' => v = .tuple #[] ∧ Ch Own h h' ∧ WheelS (Grow Own h h') h' wb (upd S id (some (spotOf t now))) now) := by
  obtain ⟨rows, ma, l, c, W⟩ := W
  have hnow := W.nowr
  apply F_wheel_Wheel_put_ok
  unfold F_wheel_Wheel_put
  refine ⟨fun x1 x2 h' => h' = h ∧ 0 ≤ x2 ∧ x2 ≤ 16 ∧ x1 = (lvlTo t now x2.toNat : Nat), fun _ x2 _ => (16 - x2).toNat, ⟨rfl, by omega, by omega, rfl⟩, ?_⟩
  rintro x1 x2 h' ⟨rfl, hx0, hx1, rfl⟩
  refine ⟨fun hlt => ?_, fun hge => ?_⟩
  · refine ⟨fun x8 h11 => h11 = h' ∧ x8 = (lvlTo t now (x2 + 1).toNat : Nat), ?_, ?_⟩
    · rintro x8 h11 ⟨rfl, rfl⟩
      exact ⟨⟨by omega, by omega⟩, ⟨rfl, by omega, by omega, rfl⟩, by dsimp only; omega⟩
    · refine ⟨_, _, rfl, _, W.cell_now, ?_⟩
      refine (part_spec t x2 h' ht.1 (by omega) (by omega) (by omega)).mono ?_
      rintro _ _ ⟨rfl, rfl⟩
      refine ⟨_, rfl, W.cell_now, ?_⟩
      refine (part_spec now x2 _ hnow.1 (by omega) (by omega) (by omega)).mono ?_
      rintro _ _ ⟨rfl, rfl⟩
      have e : (x2 + 1).toNat = x2.toNat + 1 := by omega
      refine ⟨_, rfl, fun hne => ⟨rfl, ?_⟩, fun heq => ⟨rfl, ?_⟩⟩
      · rw [e]; simp only [lvlTo]
        rw [if_pos (fun q => hne (by rw [q]))]; omega
      · rw [e]; simp only [lvlTo]
        rw [if_neg (fun q => q (by exact_mod_cast heq))]
  · have e16 : x2.toNat = 16 := by omega
    rw [e16]
    have hl := lvl_lt t now
    change CallsH PR fn_wheel_part #[_, .int .i64 (lvl t now : Nat)] _ _
    have el : ((lvlTo t now 16 : Nat) : Int) = ((lvl t now : Nat) : Int) := rfl
    refine (part_spec t (lvl t now : Nat) h' ht.1 (by omega) (by omega) (by omega)).mono ?_
    rintro _ h2 ⟨rfl, rfl⟩
    rw [Int.toNat_natCast]
    refine ⟨_, rfl, ?_⟩
    have hp := prt_lt t (lvl t now)
    have eix : 0 + ((lvl t now : Nat) : Int).toNat * 16 + ((prt t (lvl t now) : Nat) : Int).toNat * 1 = (spotOf t now).ix := by simp [Spot.ix, spotOf]
    rw [el]
    have hix : (spotOf t now).ix < 256 := by simp only [Spot.ix, spotOf]; omega
    refine ⟨fun h3 => ∃ rows' r, WheelP (Grow Own h2 h3) h3 wb S now rows' ma l c ∧ rows'[(spotOf t now).ix]? = some (some r) ∧ Ch Own h2 h3, ?_, ?_⟩
    · rintro h3 ⟨rows', r, W3, hr, hch⟩
      obtain ⟨lr, cr, g1, g2, g3⟩ := W3.row _ r hr
      refine ⟨_, _, rfl, ⟨by omega, by omega⟩, ⟨by omega, by omega⟩, _, ?_, r, rfl, lr, cr, g1, ?_⟩
      · rw [eix]; exact W3.cell_row hr
      intro h4 e4
      obtain ⟨t1, t2, t3⟩ := set_get e4 g1
      have hmr : ma ≠ r := fun e => W3.nma _ (e ▸ hr)
      have hwr : wb ≠ r := ne_map_cells W3.blk g1
      have hma4 : h4[ma]? = some (mobj ikey l c) := by rw [t2 _ hmr]; exact W3.all
      refine ⟨some ma, ?_, ma, rfl, l, c, hma4, ?_⟩
      · rw [cell_congr (t2 wb hwr)]; exact W3.cell_all
      intro h5 e5
      obtain ⟨u1, u2, u3⟩ := set_get e5 hma4
      have hx : ∀ x, x < h3.size → x ≠ r → x ≠ ma → h5[x]? = h3[x]? := fun x hx a b => by rw [u2 x b, t2 x a]
      have W5 := W3.put (s := spotOf t now) hid hr g1 ⟨hl, hp, ht.1, ht.2⟩ (by rw [u2 r (fun e => hmr e.symm)]; exact t1) u1 hx (by omega) hir
      have hsz : h5.size = h3.size := by omega
      refine ⟨rfl, ⟨by have := hch.1; omega, fun x hx' ho => ?_⟩, _, _, _, _, W5.mono (fun x hg => ?_) ?_⟩
      · have hsz := hch.1
        rw [hx x (by omega) ?_ ?_]
        · exact hch.2 x hx' ho
        · intro e; subst e
          rcases W3.own.2.2 _ _ hr with o | o
          · exact ho o
          · omega
        · intro e; subst e
          rcases W3.own.2.1 with o | o
          · exact ho o
          · omega
      · rcases hg with o | o
        · exact Or.inl o
        · exact Or.inr (by omega)
      · intro x hg
        rcases hg with o | o
        · have := W.bnd x o; have := hch.1; omega
        · exact o.2
    · obtain ⟨o, ho⟩ := W.row_at hix
      refine ⟨_, _, rfl, ⟨by omega, by omega⟩, ⟨by omega, by omega⟩, o, by rw [eix]; exact W.cell_row ho, ?_, ?_⟩
      · intro hn h3 e3
        obtain rfl : o = none := by simpa using hn
        obtain ⟨p1, p2, p3⟩ := push_get e3
        have hlt : (spotOf t now).ix < rows.length := by rw [W.len]; exact hix
        obtain ⟨h4, q1, -⟩ := st_ex (o := (spotOf t now).ix) [.map (some h2.size)] (p2.get W.blk) (by simp; omega) (by simp [Value.oneCell'])
        obtain ⟨W4, hch⟩ := W.newRow ho e3 q1
        refine ⟨⟨by omega, by omega⟩, ⟨by omega, by omega⟩, h4, by rw [eix]; exact q1, _, h2.size, W4, ?_, hch⟩
        rw [List.getElem?_set, if_pos rfl, if_pos hlt]
      · intro hn
        obtain ⟨r, rfl⟩ : ∃ r, o = some r := by cases o with
          | none => simp at hn
          | some r => exact ⟨r, rfl⟩
        exact ⟨rows, r, W.mono (fun x ho => Or.inl ho) (fun x hg => by rcases hg with o | o; exact W.bnd x o; exact o.2), ho, Ch.refl _ _⟩
end
end Go.Proofs.Vf
