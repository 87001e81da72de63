/- Contracts of the functions of package wheel over the heap. Conditions: the wheel is one that its own functions made. -/
import Derived.Test.YtobbagjpngkpkaaWA
namespace Go.Proofs.Vf
open Go Go.Proofs Go.VC

theorem upd_none_spots {S : Int → Option Spot} {l : List (ME Int)} {c : Nat} (ho : mapOk l c) (hs : ∀ id, mlook l id = (S id).map Spot.v) (id : Int) : ∀ k, mlook (mdel l id) k = (upd S id none k).map Spot.v := by
  intro k
  rw [mlook_mdel ho]
  unfold upd
  split
  · rfl
  · exact hs k

section
variable {Own : Nat → Prop} {h : Heap} {wb : Nat} {S : Int → Option Spot} {now : Int}

theorem WheelP.drop {h' : Heap} {rows : List (Option Nat)} {ma : Nat} {l : List (ME Int)} {c : Nat} (W : WheelP Own h wb S now rows ma l c) {id : Int} {s : Spot} (hs : S id = some s) {r : Nat} (hr : rows[s.ix]? = some (some r)) {lr : List (ME Int)} {cr : Nat}
    (hlr : h[r]? = some (mobj ikey lr cr))
    (e1 : h'[r]? = some (mobj ikey (mdel lr id) cr)) (e2 : h'[ma]? = some (mobj ikey (mdel l id) c)) (e3 : ∀ x, x < h.size → x ≠ r → x ≠ ma → h'[x]? = h[x]?) (hz : h.size ≤ h'.size) : WheelP Own h' wb (upd S id none) now rows ma (mdel l id) c := by
  have hwr : wb ≠ r := ne_map_cells W.blk hlr
  have hwm : wb ≠ ma := ne_map_cells W.blk W.all
  exact
  { len := W.len
    blk := by rw [e3 _ (lt_of_get W.blk) hwr hwm]; exact W.blk
    all := e2
    ok := mdel_ok W.ok
    spots := upd_none_spots W.ok W.spots id
    rng := fun k s' h' => by
      unfold upd at h'; split at h'
      · cases h'
      · exact W.rng k s' h'
    ids := fun k s' h' => by
      unfold upd at h'; split at h'
      · cases h'
      · exact W.ids k s' h'
    row := fun i r' hi => by
      obtain ⟨lr', cr', g1, g2, g3⟩ := W.row i r' hi
      by_cases hrr : r' = r
      · subst hrr
        have hi' := W.inj i s.ix r' hi hr
        subst hi'
        rw [hlr] at g1
        obtain ⟨rfl, rfl⟩ : lr = lr' ∧ cr = cr' := by
          exact mobj_int_inj (Option.some.inj g1)
        refine ⟨_, _, e1, mdel_ok g2, fun k => ?_⟩
        rw [mlook_mdel g2]
        by_cases hk : k = id
        · subst hk; right; simp [upd]
        · simp only [hk, if_false, upd]; exact g3 k
      · refine ⟨lr', cr', ?_, g2, fun k => ?_⟩
        · rw [e3 _ (lt_of_get g1) hrr (fun e => W.nma i (e ▸ hi))]; exact g1
        · by_cases hk : k = id
          · subst hk
            right
            refine ⟨?_, by simp [upd]⟩
            rcases g3 k with ⟨_, s', hs', hix⟩ | ⟨hn, _⟩
            · rw [hs] at hs'; cases hs'
              rw [hix, hi] at hr; cases hr; exact absurd rfl hrr
            · exact hn
          · simp only [hk, if_false, upd]; exact g3 k
    has := fun k s' h' => by
      unfold upd at h'; split at h'
      · cases h'
      · exact W.has k s' h'
    inj := W.inj
    nma := W.nma
    own := W.own
    bnd := fun x hx => Nat.lt_of_lt_of_le (W.bnd x hx) hz
    nowr := W.nowr }

theorem drop_spec (W : WheelS Own h wb S now) {id : Int} {s : Spot} (hs : S id = some s) :
    CallsH PR fn_wheel_Wheel_drop #[.pointer (some ⟨wb, 0, none⟩), .int .i64 id] h (fun v h' => v = .tuple #[] ∧ Ch Own h h' ∧ WheelS Own h' wb (upd S id none) now) := by
  obtain ⟨rows, ma, l, c, W⟩ := W
  obtain ⟨r, hr⟩ := W.has id s hs
  obtain ⟨q1, q2, q3, q4⟩ := W.rng id s hs
  obtain ⟨lr, cr, g1, g2, g3⟩ := W.row _ r hr
  apply F_wheel_Wheel_drop_ok
  unfold F_wheel_Wheel_drop
  refine ⟨_, _, rfl, _, W.cell_all, l, c, W.all, s.t, s.lv, s.pl, by rw [W.spots, hs]; rfl, ?_⟩
  intro h1 e1
  obtain ⟨h2, s1, s2, s3, s4⟩ := st_tmp (zs := [_, _, _]) e1 [.int .u64 s.t, .int .i64 s.lv, .int .i64 s.pl] rfl (by simp [Value.oneCell'])
  refine ⟨h2, s1, _, cell_lst s2 rfl, _, cell_lst s2 rfl, ⟨by omega, by omega⟩, ⟨by omega, by omega⟩, _, ?_, r, rfl, lr, cr, s3.get g1, ?_⟩
  · have := W.cell_row hr
    have e : 0 + (s.lv : Int).toNat * 16 + (s.pl : Int).toNat * 1 = s.ix := by simp [Spot.ix]
    rw [e]; exact s3.cell this
  intro h3 e3
  obtain ⟨t1, t2, t3⟩ := set_get e3 (s3.get g1)
  have hmr : ma ≠ r := fun e => W.nma _ (e ▸ hr)
  have hwr : wb ≠ r := ne_map_cells W.blk g1
  have hma3 : h3[ma]? = some (mobj ikey l c) := by rw [t2 _ hmr]; exact s3.get W.all
  refine ⟨some ma, ?_, ma, rfl, l, c, hma3, ?_⟩
  · rw [cell_congr (t2 wb hwr)]; exact s3.cell W.cell_all
  intro h4 e4
  obtain ⟨u1, u2, u3⟩ := set_get e4 hma3
  have hx : ∀ x, x < h.size → x ≠ r → x ≠ ma → h4[x]? = h[x]? := fun x hx a b => by rw [u2 x b, t2 x a, s3.2 x hx]
  refine ⟨rfl, ⟨by omega, fun x hx' ho => hx x hx' (fun e => ho (e ▸ W.own.2.2 _ _ hr)) (fun e => ho (e ▸ W.own.2.1))⟩, rows, ma, _, c, W.drop hs hr g1 ?_ u1 hx (by omega)⟩
  rw [u2 r (fun e => hmr e.symm)]; exact t1
end
end Go.Proofs.Vf
