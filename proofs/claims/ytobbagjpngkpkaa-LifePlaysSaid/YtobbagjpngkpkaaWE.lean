/- Contracts of the functions of package wheel over the heap. Conditions: the wheel is one that its own functions made. -/
import Derived.Test.YtobbagjpngkpkaaWD
import Derived.Test.YtobbagjpngkpkaaSL
namespace Go.VC
theorem Ch.grow_trans {F : Nat → Prop} {h h1 h2 : Heap} (a : Ch F h h1) (b : Ch (Grow F h h1) h1 h2) : Ch F h h2 :=
  ⟨Nat.le_trans a.1 b.1, fun x hx hf => (b.2 x (Nat.lt_of_lt_of_le hx a.1) (fun g => g.elim hf (fun q => absurd hx (by omega)))).trans (a.2 x hx hf)⟩
theorem Grow.trans {F : Nat → Prop} {h h1 h2 : Heap} (a : h.size ≤ h1.size) (b : h1.size ≤ h2.size) {x : Nat} (g : Grow (Grow F h h1) h1 h2 x) : Grow F h h2 x := by
  rcases g with (g | g) | g
  · exact .inl g
  · exact .inr (by omega)
  · exact .inr (by omega)
theorem Grow.bnd {F : Nat → Prop} {h h1 : Heap} (a : h.size ≤ h1.size) (hb : ∀ x, F x → x < h.size) {x : Nat} (g : Grow F h h1 x) : x < h1.size := by
  rcases g with g | g
  · have := hb x g; omega
  · exact g.2
end Go.VC
namespace Go.Proofs.Vf
open Go Go.Proofs Go.VC

theorem lvlTo_eq {t now : Int} {k : Nat} (h1 : t.toNat / 16 ^ (k + 1) = now.toNat / 16 ^ (k + 1)) (h2 : prt t k ≠ prt now k) : ∀ n, k < n → lvlTo t now n = k
  | 0, h => by omega
  | n + 1, h => by
    simp only [lvlTo]
    by_cases hk : n = k
    · subst hk; rw [if_pos h2]
    · have e : prt t n = prt now n := by
        unfold prt; rw [div_le_pow h1 (show k + 1 ≤ n by omega)]
      rw [if_neg (fun q => q e)]
      exact lvlTo_eq h1 h2 n (by omega)

/-- a time on the way to another one shares what is above the level -/
theorem mid_up {t was now : Int} (h0 : 0 ≤ was) (h1 : was ≤ now) (h2 : now ≤ t) (h3 : was < t) (ht : t < 4611686018427387904) :
    t.toNat / 16 ^ (lvl t was + 1) = now.toNat / 16 ^ (lvl t was + 1) := by
  have A := (after h0 h3 ht).up
  have a : now.toNat / 16 ^ (lvl t was + 1) ≤ t.toNat / 16 ^ (lvl t was + 1) := Nat.div_le_div_right (by omega)
  have b : was.toNat / 16 ^ (lvl t was + 1) ≤ now.toNat / 16 ^ (lvl t was + 1) := Nat.div_le_div_right (by omega)
  omega
theorem mid_same {t was now : Int} (h0 : 0 ≤ was) (h1 : was ≤ now) (h2 : now ≤ t) (h3 : was < t) (ht : t < 4611686018427387904) (hne : prt t (lvl t was) ≠ prt now (lvl t was)) : spotOf t now = spotOf t was := by
  have e : lvl t now = lvl t was := lvlTo_eq (mid_up h0 h1 h2 h3 ht) hne 16 (lvl_lt t was)
  unfold spotOf; rw [e]

section
variable {Own : Nat → Prop} {h : Heap} {wb : Nat} {S : Int → Option Spot} {now : Int} {rows : List (Option Nat)} {ma : Nat} {l : List (ME Int)} {c : Nat}

theorem WheelP.setNow (W : WheelP Own h wb S now rows ma l c) {t : Int} (ht : 0 ≤ t ∧ t < 4611686018427387904) :
    ∃ h', stCells wb h (0 + 257) [.int .u64 t] = some h' ∧ WheelP Own h' wb S t rows ma l c ∧ Ch Own h h' := by
  have hl := W.len
  obtain ⟨h', q1, q2, q3, q4⟩ := st_ex (o := 0 + 257) [.int .u64 t] W.blk (by simp; omega) (by simp [Value.oneCell'])
  have hk : ∀ x, x < h.size → x ≠ wb → h'[x]? = h[x]? := fun x _ hw => q3 x hw
  refine ⟨h', q1, ?_, ⟨by omega, fun x hx ho => q3 x (fun e => ho (e ▸ W.own.1))⟩⟩
  exact { W with
    blk := by
      rw [q2, spl_one (by simp; omega), List.set_append_right _ _ (by simp; omega)]
      simp [hl]
    all := by rw [q3 _ (fun e => ne_map_cells W.blk W.all e.symm)]; exact W.all
    row := fun i r hr => by
      obtain ⟨lr, cr, g1, g2⟩ := W.row i r hr
      exact ⟨lr, cr, by rw [q3 _ (fun e => ne_map_cells W.blk g1 e.symm)]; exact g1, g2⟩
    bnd := fun x hx => by have := W.bnd x hx; omega
    nowr := ht }

theorem WheelS.congr {S' : Int → Option Spot} (W : WheelS Own h wb S now) (e : ∀ k, S k = S' k) : WheelS Own h wb S' now := by
  have : S = S' := funext e
  rw [← this]; exact W

/-- how a wheel's timers lie when the time is another one -/
def moved (S : Int → Option Spot) (now : Int) (id : Int) : Option Spot := (S id).map fun s => spotOf s.t now

theorem row_nodup {lr : List (ME Int)} {cr : Nat} (ok : mapOk lr cr) {ks : List Int} (hp : ks.Perm (lr.map (·.key))) : ks.Nodup := hp.nodup_iff.2 ok.2.2

theorem move_spec (W : WheelS Own h wb S now) (hg : Good S now) {t : Int} (h1 : now ≤ t) (h2 : t < 4611686018427387904) (hmin : ∀ id s, S id = some s → t ≤ s.t) :
    CallsH PR fn_wheel_Wheel_move #[.pointer (some ⟨wb, 0, none⟩), .int .u64 t] h
      (fun v h' => v = .tuple #[] ∧ Ch Own h h' ∧ WheelS (Grow Own h h') h' wb (moved S t) t) := by
  have hbnd := W.bnd
  obtain ⟨rows, ma, l, c, W⟩ := W
  have hnow := W.nowr
  have hrng := W.rng
  have hids := W.ids
  apply F_wheel_Wheel_move_ok
  unfold F_wheel_Wheel_move
  obtain ⟨h7, q1, W7, c7⟩ := W.setNow (t := t) ⟨by omega, h2⟩
  refine ⟨_, _, rfl, _, W.cell_now, h7, q1, fun x hh => -1 ≤ x ∧ x ≤ 15 ∧ Ch Own h hh ∧ ∃ Sx, WheelS (Grow Own h hh) hh wb Sx t ∧ (∀ id, (S id = none → Sx id = none) ∧ ∀ s, S id = some s → Sx id = some (spotOf s.t t) ∨ (Sx id = some s ∧ (s.lv : Int) ≤ x)),
    fun x _ => (x + 1).toNat, ⟨by omega, by omega, c7, S, ⟨rows, ma, l, c, W7.mono (fun x => .inl) (fun x => Grow.bnd c7.1 hbnd)⟩, fun id => ⟨fun q => q, fun s hs => .inr ⟨hs, by have := (hrng id s hs).1; omega⟩⟩⟩, ?_⟩
  rintro x hh ⟨hx0, hx1, ch, Sx, Wx, hS⟩
  refine ⟨fun hlt => ?_, fun hge => ?_⟩
  · refine ⟨fun h16 => Ch Own h h16 ∧ ∃ Sx, WheelS (Grow Own h h16) h16 wb Sx t ∧ (∀ id, (S id = none → Sx id = none) ∧ ∀ s, S id = some s → Sx id = some (spotOf s.t t) ∨ (Sx id = some s ∧ (s.lv : Int) ≤ x - 1)), ?_, ?_⟩
    · rintro h16 ⟨c16, Sy, Wy, hSy⟩
      exact ⟨⟨by omega, by omega⟩, ⟨by omega, by omega, c16, Sy, Wy, hSy⟩, by dsimp only; omega⟩
    -- whose level is x, and who lies elsewhere than now's part there, lies well
    have hstay : ∀ id s, S id = some s → (s.lv : Int) = x → prt s.t s.lv ≠ prt t s.lv → spotOf s.t t = s := by
      intro id s hs hl hne
      obtain ⟨a1, a2⟩ := hg id s hs
      have r := hrng id s hs
      have e1 : lvl s.t now = s.lv := by rw [a2]; rfl
      rw [← e1] at hne
      rw [mid_same hnow.1 h1 (hmin id s hs) a1 r.2.2.2 hne]; exact a2.symm
    refine (part_spec now x hh hnow.1 (by omega) (by omega) (by omega)).mono ?_
    rintro _ hh ⟨rfl, rfl⟩
    refine ⟨_, rfl, ?_⟩
    refine (part_spec t x hh (by omega) (by omega) (by omega) (by omega)).mono ?_
    rintro _ hh ⟨rfl, rfl⟩
    refine ⟨_, rfl, fun heq => ⟨ch, Sx, Wx, fun id => ⟨(hS id).1, fun s hs => ?_⟩⟩, fun hne => ?_⟩
    · rcases (hS id).2 s hs with g | ⟨g1, g2⟩
      · exact .inl g
      · by_cases hl : (s.lv : Int) = x
        · left
          obtain ⟨a1, a2⟩ := hg id s hs
          have e1 : lvl s.t now = s.lv := by rw [a2]; rfl
          have A := (after hnow.1 a1 (hrng id s hs).2.2.2).gt
          rw [e1] at A
          have ex : x.toNat = s.lv := by omega
          rw [ex] at heq
          rw [hstay id s hs hl (by omega)]; exact g1
        · exact .inr ⟨g1, by omega⟩
    · refine ⟨⟨by omega, by omega⟩, ?_⟩
      refine (part_spec t x hh (by omega) (by omega) (by omega) (by omega)).mono ?_
      rintro _ hh ⟨rfl, rfl⟩
      have hpl := prt_lt t x.toNat
      have hix : x.toNat * 16 + prt t x.toNat < 256 := by omega
      obtain ⟨rows', ma', l', c', Wp⟩ := Wx
      obtain ⟨o, lr, cr, ho, hm, hok, hnil, hrow⟩ := Wp.rowMap hix
      refine ⟨_, rfl, ⟨by omega, by omega⟩, o, ?_, ?_⟩
      · have e : 0 + x.toNat * 16 + ((prt t x.toNat : Nat) : Int).toNat * 1 = x.toNat * 16 + prt t x.toNat := by omega
        rw [e]; exact Wp.cell_row ho
      have hrk : ∀ e ∈ lr, ∃ s, Sx e.key = some s ∧ s.ix = x.toNat * 16 + prt t x.toNat := fun e he => by
        rcases hrow e.key with ⟨_, g⟩ | ⟨g, _⟩
        · exact g
        · rw [mem_mlook hok he] at g; cases g
      apply F_maps_Keys_map_int_bool_int_bool_ok
      unfold F_maps_Keys_map_int_bool_int_bool
      intro h8 e8
      obtain ⟨p1, p2, p3⟩ := push_get e8
      have hm8 : mapAt ikey h8 o lr cr := by
        cases o with
        | none => exact hm
        | some r => exact p2.get hm
      refine (collect_spec hm8 hok (fun e he => by obtain ⟨s, hs, _⟩ := hrk e he; exact Wp.ids _ s hs) p1).mono ?_
      rintro _ h9 ⟨a, cap, ks, rfl, hperm, hkl, x9, sl, hfr⟩
      have x9' : Ext hh h9 := p2.trans x9
      have hnd := row_nodup hok hperm
      have hbk : ∀ y, blkOf a y → hh.size ≤ y := fun y hy => by have := hfr y hy; omega
      have Wb : WheelS (Grow Own h hh) h9 wb Sx t := WheelS.ext ⟨rows', ma', l', c', Wp⟩ x9'
      refine ⟨a, ks.length, cap, rfl, fun j hj => 0 ≤ j ∧ j ≤ ks.length ∧ Ch (Grow Own h hh) h9 hj ∧ WheelS (Grow (Grow Own h hh) h9 hj) hj wb (fun id => if id ∈ ks.take j.toNat then moved S t id else Sx id) t,
        fun j _ => (ks.length - j).toNat, ⟨by omega, by omega, Ch.refl _ _, ?_⟩, ?_⟩
      · have : (fun id => if id ∈ ks.take (0 : Int).toNat then moved S t id else Sx id) = Sx := by funext id; simp
        rw [this]
        exact Wb.mono (fun y => .inl) (fun y => Grow.bnd (Nat.le_refl _) Wb.bnd)
      rintro j hj ⟨hj0, hj1, cj, Wj⟩
      have slj : Sl hj ty_int 1 a ks.length cap (ks.map (Value.int .i64)) := sl.ch cj fun y hy hf => by
        have := hbk y hy; have := Wp.bnd y hf; omega
      refine ⟨fun hjl => ?_, fun hjg => ?_⟩
      · have hjn : j.toNat < ks.length := by omega
        obtain ⟨b, o', rfl, hcell⟩ := slj.get (i := j.toNat) (v := .int .i64 ks[j.toNat]) (by simp [hjn])
        obtain ⟨id, hid⟩ : ∃ id, ks[j.toNat] = id := ⟨_, rfl⟩
        rw [hid] at hcell
        have hmem : id ∈ ks := hid ▸ List.getElem_mem hjn
        have hnt : id ∉ ks.take j.toNat := by
          intro hin
          rw [List.mem_take_iff_getElem] at hin
          obtain ⟨q, hq, he⟩ := hin
          have := List.pairwise_iff_getElem.1 hnd q j.toNat (by omega) hjn (by omega)
          exact this (he.trans hid.symm)
        obtain ⟨e, he, hek⟩ := List.mem_map.1 (hperm.mem_iff.1 hmem)
        obtain ⟨s', hs', hix'⟩ := hrk e he
        rw [hek] at hs'
        have hSj : (fun id => if id ∈ ks.take j.toNat then moved S t id else Sx id) id = some s' := by
          simp only [hnt, if_false]; exact hs'
        -- its time
        obtain ⟨s, hs, hst⟩ : ∃ s, S id = some s ∧ s'.t = s.t := by
          cases hs : S id with
          | none => rw [(hS id).1 hs] at hs'; cases hs'
          | some s =>
            refine ⟨s, rfl, ?_⟩
            rcases (hS id).2 s hs with g | ⟨g, _⟩
            · rw [hs'] at g; cases g; rfl
            · rw [hs'] at g; cases g; rfl
        obtain ⟨rows2, ma2, l2, c2, Wq⟩ := Wj
        refine ⟨b, o', rfl, ⟨by omega, by omega⟩, id, by rw [Nat.mul_one]; exact hcell, some ma2, Wq.cell_all, l2, c2, Wq.all, s'.t, s'.lv, s'.pl, by rw [Wq.spots]; simp only [hnt, if_false, hs']; rfl, ?_⟩
        refine (drop_spec ⟨rows2, ma2, l2, c2, Wq⟩ hSj).mono ?_
        rintro _ h10 ⟨rfl, c10, W10⟩
        refine ⟨rfl, ?_⟩
        have r := Wq.rng id s' hSj
        refine (put_spec W10 (id := id) (t := s'.t) (upd_same _ _ _) (hids id s hs) r.2.2).mono ?_
        rintro _ h11 ⟨rfl, c11, W11⟩
        have c12 : Ch (Grow (Grow Own h hh) h9 hj) hj h11 := c10.trans c11
        refine ⟨rfl, ⟨by omega, by omega⟩, ⟨by omega, by omega, cj.grow_trans c12, ?_⟩, by dsimp only; omega⟩
        have c13 := (cj.grow_trans c12).1
        refine (W11.mono (Own' := Grow (Grow Own h hh) h9 h11) (fun y hy => ?_) (fun y => Grow.bnd c13 Wb.bnd)).congr fun k => ?_
        · rcases hy with hy | hy
          · rcases hy with hy | hy
            · exact .inl hy
            · have := c12.1; exact .inr (by omega)
          · have := c10.1; have := cj.1; exact .inr (by omega)
        · have ej : (j + 1).toNat = j.toNat + 1 := by omega
          rw [ej, List.take_add_one, List.getElem?_eq_getElem hjn, hid]
          simp only [List.mem_append, Option.toList_some, List.mem_singleton]
          by_cases hk : k = id
          · subst hk
            rw [upd_same, if_pos (.inr rfl)]
            simp only [moved, hs, Option.map_some, hst]
          · rw [upd_other _ _ hk, upd_other _ _ hk]
            by_cases hkt : k ∈ ks.take j.toNat
            · rw [if_pos hkt, if_pos (.inl hkt)]
            · rw [if_neg hkt, if_neg (by simp [hkt, hk])]
      · have ej : j.toNat = ks.length := by omega
        rw [ej, List.take_length] at Wj
        have c9 : Ch Own h h9 := ch.trans (x9'.ch)
        have c14 : Ch Own h hj := ch.grow_trans ((x9'.ch).trans cj)
        refine ⟨c14, _, Wj.mono (fun y hy => ?_) (fun y => Grow.bnd c14.1 hbnd), fun id => ⟨fun hn => ?_, fun s hs => ?_⟩⟩
        · rcases hy with (hy | hy) | hy
          · exact .inl hy
          · have := c14.1; have := cj.1; have := x9'.1; exact .inr (by omega)
          · have := ch.1; have := x9'.1; exact .inr (by omega)
        · show (if id ∈ ks then moved S t id else Sx id) = none
          split
          · simp [moved, hn]
          · exact (hS id).1 hn
        · show (if id ∈ ks then moved S t id else Sx id) = some (spotOf s.t t) ∨ ((if id ∈ ks then moved S t id else Sx id) = some s ∧ (s.lv : Int) ≤ x - 1)
          split
          · left; simp [moved, hs]
          · rename_i hnk
            rcases (hS id).2 s hs with g | ⟨g1, g2⟩
            · exact .inl g
            · by_cases hl : (s.lv : Int) = x
              · left
                rw [g1, hstay id s hs hl ?_]
                intro heq
                have a2 := (hg id s hs).2
                have e2 : s.pl = prt s.t s.lv := by
                  have e1 : lvl s.t now = s.lv := by rw [a2]; rfl
                  conv => lhs; rw [a2]
                  show prt s.t (lvl s.t now) = _
                  rw [e1]
                have ex : x.toNat = s.lv := by omega
                have hixs : s.ix = x.toNat * 16 + prt t x.toNat := by
                  simp only [Spot.ix]; rw [e2, heq, ex]
                rcases hrow id with ⟨g, _⟩ | ⟨_, g⟩
                · obtain ⟨e, he, hk, _⟩ := mlook_mem g
                  exact hnk (hperm.mem_iff.2 (List.mem_map.2 ⟨e, he, hk⟩))
                · exact g s g1 hixs
              · exact .inr ⟨g1, by omega⟩
  · refine ⟨rfl, ch, Wx.congr fun id => ?_⟩
    cases hs : S id with
    | none => rw [(hS id).1 hs]; simp [moved, hs]
    | some s =>
      rcases (hS id).2 s hs with g | ⟨g1, g2⟩
      · rw [g]; simp [moved, hs]
      · omega
end
end Go.Proofs.Vf
