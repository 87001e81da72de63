/- Contracts of the functions of package wheel over the heap. Conditions: the wheel is one that its own functions made. -/
import Derived.Test.YtobbagjpngkpkaaWF
namespace Go.Proofs.Vf
open Go Go.Proofs Go.VC

set_option maxRecDepth 8000 in
theorem new_spec (h : Heap) :
    CallsH PR fn_wheel_New #[] h (fun v h' => ∃ wb, v = .pointer (some ⟨wb, 0, none⟩) ∧ h.size ≤ wb ∧ Ext h h' ∧ WheelS (fun x => h.size ≤ x ∧ x < h'.size) h' wb (fun _ => none) 0) := by
  apply F_wheel_New_ok
  unfold F_wheel_New
  intro h1 e1 h3 e3
  obtain ⟨p1, p2, p3⟩ := push_get e1
  obtain ⟨q1, q2, q3⟩ := push_get e3
  have hr : ∀ (i r : Nat), (List.replicate 256 (none : Option Nat))[i]? ≠ some (some r) := fun i r hi => by
    rw [List.getElem?_replicate] at hi
    split at hi <;> cases hi
  refine ⟨h1.size, rfl, by omega, p2.trans q2, List.replicate 256 none, h.size, [], 0, ?_⟩
  exact
  { len := by simp
    blk := q1
    all := q2.get p1
    ok := mapOk_nil _ _
    spots := fun _ => rfl
    rng := fun _ _ h => by cases h
    ids := fun _ _ h => by cases h
    row := fun i r hi => absurd hi (hr i r)
    has := fun _ _ h => by cases h
    inj := fun i _ r hi => absurd hi (hr i r)
    nma := fun i => hr i _
    own := ⟨⟨by omega, by omega⟩, ⟨by omega, by omega⟩, fun i r hi => absurd hi (hr i r)⟩
    bnd := fun x hx => hx.2
    nowr := ⟨by omega, by omega⟩ }

section
variable {Own : Nat → Prop} {h : Heap} {wb : Nat} {S : Int → Option Spot} {now : Int}

theorem set_spec (W : WheelS Own h wb S now) {id t : Int} (hir : 0 ≤ id ∧ id < 1000) (hid : S id = none) (h1 : now < t) (h2 : t < 4611686018427387904) :
    CallsH PR fn_wheel_Wheel_Set #[.pointer (some ⟨wb, 0, none⟩), .int .i64 id, .int .u64 t] h
      (fun v h' => v = .int .i64 0 ∧ Ch Own h h' ∧ WheelS (Grow Own h h') h' wb (upd S id (some (spotOf t now))) now) := by
  have hW := W
  obtain ⟨rows, ma, l, c, W⟩ := W
  have hnow := W.nowr
  apply F_wheel_Wheel_Set_ok
  unfold F_wheel_Wheel_Set
  refine ⟨_, _, fun _ => rfl, now, fun _ => W.cell_now, fun hb => ?_, fun _ => ?_⟩
  · simp at hb; omega
  refine (may_spec t h).mono ?_
  rintro _ h ⟨rfl, rfl⟩
  refine ⟨_, rfl, fun hb => by simp at hb; omega, fun _ => ?_⟩
  refine ⟨fun h14 => Ext h h14, ?_, ?_⟩
  · intro h14 x14
    refine (put_spec (hW.ext x14) hid hir ⟨by omega, h2⟩).mono ?_
    rintro _ h15 ⟨rfl, c15, W15⟩
    refine ⟨rfl, rfl, (x14.ch).trans c15, W15.mono (fun x hx => ?_) (fun x => Grow.bnd (((x14.ch).trans c15).1) W.bnd)⟩
    rcases hx with q | q
    · exact .inl q
    · have := x14.1; exact .inr (by omega)
  · refine ⟨_, _, rfl, _, W.cell_all, l, c, W.all, 0, 0, 0, by rw [W.spots, hid]; rfl, ?_⟩
    intro h27 e27
    obtain ⟨h30, q1, q2, q3, q4⟩ := st_tmp (zs := [_, _, _]) e27 [.int .u64 0, .int .i64 0, .int .i64 0] rfl (by simp [Value.oneCell'])
    refine ⟨h30, q1, fun hs => ?_, fun _ => q3⟩
    rw [W.spots, hid] at hs; cases hs

theorem cancel_spec (W : WheelS Own h wb S now) {id : Int} {s : Spot} (hs : S id = some s) :
    CallsH PR fn_wheel_Wheel_Cancel #[.pointer (some ⟨wb, 0, none⟩), .int .i64 id] h
      (fun v h' => v = .int .i64 0 ∧ Ch Own h h' ∧ WheelS Own h' wb (upd S id none) now) := by
  have hW := W
  obtain ⟨rows, ma, l, c, W⟩ := W
  apply F_wheel_Wheel_Cancel_ok
  unfold F_wheel_Wheel_Cancel
  refine ⟨_, _, rfl, _, W.cell_all, l, c, W.all, s.t, s.lv, s.pl, by rw [W.spots, hs]; rfl, ?_⟩
  intro h11 e11
  obtain ⟨h14, q1, q2, q3, q4⟩ := st_tmp (zs := [_, _, _]) e11 [.int .u64 s.t, .int .i64 s.lv, .int .i64 s.pl] rfl (by simp [Value.oneCell'])
  refine ⟨h14, q1, fun hn => ?_, fun _ => ?_⟩
  · rw [W.spots, hs] at hn; cases hn
  refine (drop_spec (hW.ext q3) hs).mono ?_
  rintro _ h15 ⟨rfl, c15, W15⟩
  exact ⟨rfl, rfl, (q3.ch).trans c15, W15⟩
end
end Go.Proofs.Vf
