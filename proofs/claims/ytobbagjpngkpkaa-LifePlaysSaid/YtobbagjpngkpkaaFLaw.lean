/- Printed by a program of this claim: for each Go function named below a formula over the heap, and the proof that it gives the call of that function. No conditions. -/
import Derived.Test.YtobbagjpngkpkaaBase
namespace Go.Proofs.Vf
open Go Go.Proofs Go.VC
set_option maxRecDepth 100000
set_option maxHeartbeats 4000000
set_option linter.unusedVariables false

/-- linchpinlaw19.awake -/
def F_linchpinlaw19_awake (K : Bool → Heap → Prop) (h : Heap) : Prop :=
  CallsH PR fn_life_New #[.int .u64 5] h (fun v h1 => ∃ (x3 : Option Addr) (x4 : Int), v = (Value.tuple #[.pointer x3, .int .i64 x4]) ∧ ((x3.isNone || (!decide (x4 = 0))) = true → K false h1) ∧ ((x3.isNone || (!decide (x4 = 0))) = false → CallsH PR fn_life_Book_Open #[.pointer x3, .int .i64 7, .int .u64 20] h1 (fun v h7 => ∃ (x9 : Int), v = (Value.int .i64 x9) ∧ CallsH PR fn_life_Book_Open #[.pointer x3, .int .i64 8, .int .u64 30] h7 (fun v h10 => ∃ (x12 : Int), v = (Value.int .i64 x12) ∧ CallsH PR fn_life_Book_Answer #[.pointer x3, .int .i64 8, .int .i64 3, .bool false] h10 (fun v h13 => ∃ (x15 : Int), v = (Value.int .i64 x15) ∧ CallsH PR fn_life_Book_Answer #[.pointer x3, .int .i64 8, .int .i64 3, .bool false] h13 (fun v h16 => ∃ (x18 : Int), v = (Value.int .i64 x18) ∧ CallsH PR fn_life_Book_Go #[.pointer x3, .int .u64 15] h16 (fun v h19 => ∃ (x21a : Option Addr) (x21n : Nat) (x21c : Nat) (x22 : Int), v = (Value.tuple #[.slice x21a x21n x21c, .int .i64 x22]) ∧ ∃ (b30 : Nat) (o31 : Nat), ((((((((decide (x9 = 0)) && (decide (x12 = 0))) && (decide (x15 = 0))) && (decide (x18 = 6))) && (decide (x22 = 0))) && (decide ((x21n : Int) = 2))) = true) → x21a = some ⟨b30, o31, none⟩) ∧ ((((((((decide (x9 = 0)) && (decide (x12 = 0))) && (decide (x15 = 0))) && (decide (x18 = 6))) && (decide (x22 = 0))) && (decide ((x21n : Int) = 2))) = true) → 0 ≤ (0 : Int) ∧ (0 : Int) < (x21n : Int)) ∧ ∃ (x33_0 : Int) (x33_1 : Int) (x33_2 : Int), ((((((((decide (x9 = 0)) && (decide (x12 = 0))) && (decide (x15 = 0))) && (decide (x18 = 6))) && (decide (x22 = 0))) && (decide ((x21n : Int) = 2))) = true) → ldCells h19 b30 o31 3 = some [.int .i64 x33_0, .int .i64 x33_1, .int .i64 x33_2]) ∧ ∃ (b37 : Nat) (o38 : Nat), (((((((((decide (x9 = 0)) && (decide (x12 = 0))) && (decide (x15 = 0))) && (decide (x18 = 6))) && (decide (x22 = 0))) && (decide ((x21n : Int) = 2))) && ((decide (x33_0 = 8)) && ((decide (x33_1 = 1)) && ((decide (x33_2 = 3)) && true)))) = true) → x21a = some ⟨b37, o38, none⟩) ∧ (((((((((decide (x9 = 0)) && (decide (x12 = 0))) && (decide (x15 = 0))) && (decide (x18 = 6))) && (decide (x22 = 0))) && (decide ((x21n : Int) = 2))) && ((decide (x33_0 = 8)) && ((decide (x33_1 = 1)) && ((decide (x33_2 = 3)) && true)))) = true) → 0 ≤ (1 : Int) ∧ (1 : Int) < (x21n : Int)) ∧ ∃ (x40_0 : Int) (x40_1 : Int) (x40_2 : Int), (((((((((decide (x9 = 0)) && (decide (x12 = 0))) && (decide (x15 = 0))) && (decide (x18 = 6))) && (decide (x22 = 0))) && (decide ((x21n : Int) = 2))) && ((decide (x33_0 = 8)) && ((decide (x33_1 = 1)) && ((decide (x33_2 = 3)) && true)))) = true) → ldCells h19 b37 (o38 + 3) 3 = some [.int .i64 x40_0, .int .i64 x40_1, .int .i64 x40_2]) ∧ ∃ J46 : Int → Heap → Prop, (∀ (x45 : Int) (h43 : Heap), J46 x45 h43 → ∃ J51 : Int → Heap → Prop, (∀ (x50 : Int) (h48 : Heap), J51 x50 h48 → K ((((((((((decide (x9 = 0)) && (decide (x12 = 0))) && (decide (x15 = 0))) && (decide (x18 = 6))) && (decide (x22 = 0))) && (decide ((x21n : Int) = 2))) && ((decide (x33_0 = 8)) && ((decide (x33_1 = 1)) && ((decide (x33_2 = 3)) && true)))) && ((decide (x40_0 = 7)) && ((decide (x40_1 = 2)) && ((decide (x40_2 = 1)) && true)))) && (decide (x45 = 0))) && (decide (x50 = 11))) h48) ∧ (((((((((((decide (x9 = 0)) && (decide (x12 = 0))) && (decide (x15 = 0))) && (decide (x18 = 6))) && (decide (x22 = 0))) && (decide ((x21n : Int) = 2))) && ((decide (x33_0 = 8)) && ((decide (x33_1 = 1)) && ((decide (x33_2 = 3)) && true)))) && ((decide (x40_0 = 7)) && ((decide (x40_1 = 2)) && ((decide (x40_2 = 1)) && true)))) && (decide (x45 = 0))) = true) → CallsH PR fn_life_Book_Open #[.pointer x3, .int .i64 7, .int .u64 20] h43 (fun v h48 => ∃ (x50 : Int), v = (Value.int .i64 x50) ∧ J51 x50 h48)) ∧ (((((((((((decide (x9 = 0)) && (decide (x12 = 0))) && (decide (x15 = 0))) && (decide (x18 = 6))) && (decide (x22 = 0))) && (decide ((x21n : Int) = 2))) && ((decide (x33_0 = 8)) && ((decide (x33_1 = 1)) && ((decide (x33_2 = 3)) && true)))) && ((decide (x40_0 = 7)) && ((decide (x40_1 = 2)) && ((decide (x40_2 = 1)) && true)))) && (decide (x45 = 0))) = false) → ∃ (x50 : Int), J51 x50 h43)) ∧ ((((((((((decide (x9 = 0)) && (decide (x12 = 0))) && (decide (x15 = 0))) && (decide (x18 = 6))) && (decide (x22 = 0))) && (decide ((x21n : Int) = 2))) && ((decide (x33_0 = 8)) && ((decide (x33_1 = 1)) && ((decide (x33_2 = 3)) && true)))) && ((decide (x40_0 = 7)) && ((decide (x40_1 = 2)) && ((decide (x40_2 = 1)) && true)))) = true) → CallsH PR fn_life_Book_Count #[.pointer x3] h19 (fun v h43 => ∃ (x45 : Int), v = (Value.int .i64 x45) ∧ J46 x45 h43)) ∧ ((((((((((decide (x9 = 0)) && (decide (x12 = 0))) && (decide (x15 = 0))) && (decide (x18 = 6))) && (decide (x22 = 0))) && (decide ((x21n : Int) = 2))) && ((decide (x33_0 = 8)) && ((decide (x33_1 = 1)) && ((decide (x33_2 = 3)) && true)))) && ((decide (x40_0 = 7)) && ((decide (x40_1 = 2)) && ((decide (x40_2 = 1)) && true)))) = false) → ∃ (x45 : Int), J46 x45 h19))))))))
theorem F_linchpinlaw19_awake_ok (R : Value → Heap → Prop) (h : Heap) (H : F_linchpinlaw19_awake  (fun r0 h' => R (Value.bool r0) h') h) : CallsH PR fn_linchpinlaw19_awake #[] h R := by
  refine VC.callsH_of (args := []) Try.func8 rfl rfl ?_
  intro f hf
  clear hf
  unfold F_linchpinlaw19_awake at H
  refine VC.wpf_seq ?_
  refine VC.wpf_region rfl ?_
  refine VC.wpL_op (VC.op_assign (v := .bool false) rfl ?_)
  refine VC.wpL_nil ?_
  refine VC.wpf_seq ?_
  refine VC.wpf_region rfl ?_
  refine VC.wpL_op (VC.op_call (vs := [.int .u64 5]) en_9 (VC.args_cons rfl VC.args_nil) (CallsH.mono H ?_))
  clear H
  rintro _ h1 ⟨x3, x4, rfl, H⟩
  refine VC.wpL_op (VC.op_move (v := .tuple #[.pointer x3, .int .i64 x4]) rfl ?_)
  refine VC.wpL_op (VC.op_extract rfl rfl ?_)
  refine VC.wpL_op (VC.op_extract rfl rfl ?_)
  refine VC.wpL_op (VC.op_assign (v := .pointer x3) rfl ?_)
  refine VC.wpL_op (VC.op_assign (v := .int .i64 x4) rfl ?_)
  refine VC.wpL_nil ?_
  refine VC.wpf_seq ?_
  refine VC.wpf_seq ?_
  refine VC.wpf_region rfl ?_
  refine VC.wpL_op (VC.op_move (v := .pointer x3) rfl ?_)
  refine VC.wpL_op (VC.op_eq_ptr_nil rfl rfl un_25 ?_)
  refine VC.wpL_op (VC.op_move (v := .bool x3.isNone) rfl ?_)
  refine VC.wpL_gq (b := !x3.isNone) (VC.guard_slot rfl rfl) (Value.int .i64 x4) (fun hb N hN => VC.op_move (v := .int .i64 x4) rfl hN) ?_
  refine VC.wpL_gq (b := !x3.isNone) (VC.guard_slot rfl rfl) (Value.bool (!decide (x4 = 0))) (fun hb N hN => VC.op_neq (VC.gv hb) rfl hN) ?_
  refine VC.wpL_op (VC.op_pick_or rfl rfl (fun hq => (VC.gv (VC.not_of_false hq))) ?_)
  refine VC.wpL_nil ?_
  refine VC.wpf_cond (x3.isNone || (!decide (x4 = 0))) rfl ?_ ?_
  · intro hb
    replace H := H.1 hb
    refine VC.wpf_seq ?_
    refine VC.wpf_region rfl ?_
    refine VC.wpL_op (VC.op_assign (v := .bool false) rfl ?_)
    refine VC.wpL_nil ?_
    refine VC.wpf_ret ?_
    exact VC.ret_leaf (VC.resV_tmp rfl VC.resV_nil) H
  · intro hb
    replace H := H.2 hb
    refine VC.wpf_skip ?_
    refine VC.wpf_seq ?_
    refine VC.wpf_region rfl ?_
    refine VC.wpL_op (VC.op_move (v := .pointer x3) rfl ?_)
    refine VC.wpL_op (VC.op_call (vs := [.pointer x3, .int .i64 7, .int .u64 20]) en_10 (VC.args_cons rfl (VC.args_cons rfl (VC.args_cons rfl VC.args_nil))) (CallsH.mono H ?_))
    clear H
    rintro _ h7 ⟨x9, rfl, H⟩
    refine VC.wpL_op (VC.op_assign (v := .int .i64 x9) rfl ?_)
    refine VC.wpL_nil ?_
    refine VC.wpf_seq ?_
    refine VC.wpf_region rfl ?_
    refine VC.wpL_op (VC.op_move (v := .pointer x3) rfl ?_)
    refine VC.wpL_op (VC.op_call (vs := [.pointer x3, .int .i64 8, .int .u64 30]) en_10 (VC.args_cons rfl (VC.args_cons rfl (VC.args_cons rfl VC.args_nil))) (CallsH.mono H ?_))
    clear H
    rintro _ h10 ⟨x12, rfl, H⟩
    refine VC.wpL_op (VC.op_assign (v := .int .i64 x12) rfl ?_)
    refine VC.wpL_nil ?_
    refine VC.wpf_seq ?_
    refine VC.wpf_region rfl ?_
    refine VC.wpL_op (VC.op_move (v := .pointer x3) rfl ?_)
    refine VC.wpL_op (VC.op_call (vs := [.pointer x3, .int .i64 8, .int .i64 3, .bool false]) en_12 (VC.args_cons rfl (VC.args_cons rfl (VC.args_cons rfl (VC.args_cons rfl VC.args_nil)))) (CallsH.mono H ?_))
    clear H
    rintro _ h13 ⟨x15, rfl, H⟩
    refine VC.wpL_op (VC.op_assign (v := .int .i64 x15) rfl ?_)
    refine VC.wpL_nil ?_
    refine VC.wpf_seq ?_
    refine VC.wpf_region rfl ?_
    refine VC.wpL_op (VC.op_move (v := .pointer x3) rfl ?_)
    refine VC.wpL_op (VC.op_call (vs := [.pointer x3, .int .i64 8, .int .i64 3, .bool false]) en_12 (VC.args_cons rfl (VC.args_cons rfl (VC.args_cons rfl (VC.args_cons rfl VC.args_nil)))) (CallsH.mono H ?_))
    clear H
    rintro _ h16 ⟨x18, rfl, H⟩
    refine VC.wpL_op (VC.op_assign (v := .int .i64 x18) rfl ?_)
    refine VC.wpL_nil ?_
    refine VC.wpf_seq ?_
    refine VC.wpf_region rfl ?_
    refine VC.wpL_op (VC.op_move (v := .pointer x3) rfl ?_)
    refine VC.wpL_op (VC.op_call (vs := [.pointer x3, .int .u64 15]) en_11 (VC.args_cons rfl (VC.args_cons rfl VC.args_nil)) (CallsH.mono H ?_))
    clear H
    rintro _ h19 ⟨x21a, x21n, x21c, x22, rfl, H⟩
    refine VC.wpL_op (VC.op_move (v := .tuple #[.slice x21a x21n x21c, .int .i64 x22]) rfl ?_)
    refine VC.wpL_op (VC.op_extract rfl rfl ?_)
    refine VC.wpL_op (VC.op_extract rfl rfl ?_)
    refine VC.wpL_op (VC.op_assign (v := .slice x21a x21n x21c) rfl ?_)
    refine VC.wpL_op (VC.op_assign (v := .int .i64 x22) rfl ?_)
    refine VC.wpL_nil ?_
    refine VC.wpf_seq ?_
    refine VC.wpf_region rfl ?_
    refine VC.wpL_op (VC.op_move (v := .int .i64 x9) rfl ?_)
    refine VC.wpL_op (VC.op_eql rfl rfl ?_)
    refine VC.wpL_op (VC.op_move (v := .bool (decide (x9 = 0))) rfl ?_)
    refine VC.wpL_gq (b := decide (x9 = 0)) (VC.guard_slot rfl rfl) (Value.int .i64 x12) (fun hb N hN => VC.op_move (v := .int .i64 x12) rfl hN) ?_
    refine VC.wpL_gq (b := decide (x9 = 0)) (VC.guard_slot rfl rfl) (Value.bool (decide (x12 = 0))) (fun hb N hN => VC.op_eql (VC.gv hb) rfl hN) ?_
    refine VC.wpL_op (VC.op_pick_and rfl (fun hq => (VC.gv hq)) rfl ?_)
    refine VC.wpL_op (VC.op_move (v := .bool ((decide (x9 = 0)) && (decide (x12 = 0)))) rfl ?_)
    refine VC.wpL_gq (b := (decide (x9 = 0)) && (decide (x12 = 0))) (VC.guard_slot rfl rfl) (Value.int .i64 x15) (fun hb N hN => VC.op_move (v := .int .i64 x15) rfl hN) ?_
    refine VC.wpL_gq (b := (decide (x9 = 0)) && (decide (x12 = 0))) (VC.guard_slot rfl rfl) (Value.bool (decide (x15 = 0))) (fun hb N hN => VC.op_eql (VC.gv hb) rfl hN) ?_
    refine VC.wpL_op (VC.op_pick_and rfl (fun hq => (VC.gv hq)) rfl ?_)
    refine VC.wpL_op (VC.op_move (v := .bool (((decide (x9 = 0)) && (decide (x12 = 0))) && (decide (x15 = 0)))) rfl ?_)
    refine VC.wpL_gq (b := ((decide (x9 = 0)) && (decide (x12 = 0))) && (decide (x15 = 0))) (VC.guard_slot rfl rfl) (Value.int .i64 x18) (fun hb N hN => VC.op_move (v := .int .i64 x18) rfl hN) ?_
    refine VC.wpL_gq (b := ((decide (x9 = 0)) && (decide (x12 = 0))) && (decide (x15 = 0))) (VC.guard_slot rfl rfl) (Value.bool (decide (x18 = 6))) (fun hb N hN => VC.op_eql (VC.gv hb) rfl hN) ?_
    refine VC.wpL_op (VC.op_pick_and rfl (fun hq => (VC.gv hq)) rfl ?_)
    refine VC.wpL_op (VC.op_move (v := .bool ((((decide (x9 = 0)) && (decide (x12 = 0))) && (decide (x15 = 0))) && (decide (x18 = 6)))) rfl ?_)
    refine VC.wpL_gq (b := (((decide (x9 = 0)) && (decide (x12 = 0))) && (decide (x15 = 0))) && (decide (x18 = 6))) (VC.guard_slot rfl rfl) (Value.int .i64 x22) (fun hb N hN => VC.op_move (v := .int .i64 x22) rfl hN) ?_
    refine VC.wpL_gq (b := (((decide (x9 = 0)) && (decide (x12 = 0))) && (decide (x15 = 0))) && (decide (x18 = 6))) (VC.guard_slot rfl rfl) (Value.bool (decide (x22 = 0))) (fun hb N hN => VC.op_eql (VC.gv hb) rfl hN) ?_
    refine VC.wpL_op (VC.op_pick_and rfl (fun hq => (VC.gv hq)) rfl ?_)
    refine VC.wpL_op (VC.op_move (v := .bool (((((decide (x9 = 0)) && (decide (x12 = 0))) && (decide (x15 = 0))) && (decide (x18 = 6))) && (decide (x22 = 0)))) rfl ?_)
    refine VC.wpL_gq (b := ((((decide (x9 = 0)) && (decide (x12 = 0))) && (decide (x15 = 0))) && (decide (x18 = 6))) && (decide (x22 = 0))) (VC.guard_slot rfl rfl) (Value.slice x21a x21n x21c) (fun hb N hN => VC.op_move (v := .slice x21a x21n x21c) rfl hN) ?_
    refine VC.wpL_gq (b := ((((decide (x9 = 0)) && (decide (x12 = 0))) && (decide (x15 = 0))) && (decide (x18 = 6))) && (decide (x22 = 0))) (VC.guard_slot rfl rfl) (Value.int .i64 (x21n : Int)) (fun hb N hN => VC.op_len_slice (VC.gv hb) un_32 hN) ?_
    refine VC.wpL_gq (b := ((((decide (x9 = 0)) && (decide (x12 = 0))) && (decide (x15 = 0))) && (decide (x18 = 6))) && (decide (x22 = 0))) (VC.guard_slot rfl rfl) (Value.bool (decide ((x21n : Int) = 2))) (fun hb N hN => VC.op_eql (VC.gv hb) rfl hN) ?_
    refine VC.wpL_op (VC.op_pick_and rfl (fun hq => (VC.gv hq)) rfl ?_)
    refine VC.wpL_op (VC.op_move (v := .bool ((((((decide (x9 = 0)) && (decide (x12 = 0))) && (decide (x15 = 0))) && (decide (x18 = 6))) && (decide (x22 = 0))) && (decide ((x21n : Int) = 2)))) rfl ?_)
    refine VC.wpL_gq (b := (((((decide (x9 = 0)) && (decide (x12 = 0))) && (decide (x15 = 0))) && (decide (x18 = 6))) && (decide (x22 = 0))) && (decide ((x21n : Int) = 2))) (VC.guard_slot rfl rfl) (Value.slice x21a x21n x21c) (fun hb N hN => VC.op_move (v := .slice x21a x21n x21c) rfl hN) ?_
    obtain ⟨b30, o31, c32, H⟩ := H
    obtain ⟨c29, H⟩ := H
    refine VC.wpL_gq (b := (((((decide (x9 = 0)) && (decide (x12 = 0))) && (decide (x15 = 0))) && (decide (x18 = 6))) && (decide (x22 = 0))) && (decide ((x21n : Int) = 2))) (VC.guard_slot rfl rfl) (Value.pointer (some ⟨b30, o31, none⟩)) (fun hb N hN => VC.op_indexAddr_slice (Eq.trans (VC.gv hb) (congrArg (fun a => Value.slice a x21n x21c) (c32 hb))) rfl ei_32 (c29 hb) hN) ?_
    obtain ⟨x33_0, x33_1, x33_2, c34, H⟩ := H
    refine VC.wpL_gq (b := (((((decide (x9 = 0)) && (decide (x12 = 0))) && (decide (x15 = 0))) && (decide (x18 = 6))) && (decide (x22 = 0))) && (decide ((x21n : Int) = 2))) (VC.guard_slot rfl rfl) (Value.agg #[.int .i64 x33_0, .int .i64 x33_1, .int .i64 x33_2]) (fun hb N hN => VC.op_loadN (VC.gv hb) ag_36 (c34 hb) hN) ?_
    refine VC.wpL_gq (b := (((((decide (x9 = 0)) && (decide (x12 = 0))) && (decide (x15 = 0))) && (decide (x18 = 6))) && (decide (x22 = 0))) && (decide ((x21n : Int) = 2))) (VC.guard_slot rfl rfl) (Value.agg #[.int .i64 8, .int .i64 1, .int .i64 3]) (fun hb N hN => VC.op_build' (vs := [(0, .int .i64 8), (1, .int .i64 1), (2, .int .i64 3)]) (cs := #[.int .i64 8, .int .i64 1, .int .i64 3]) z_36 fs_36 (VC.parts_cons rfl (VC.parts_cons rfl (VC.parts_cons rfl VC.parts_nil))) rfl hN) ?_
    refine VC.wpL_gq (b := (((((decide (x9 = 0)) && (decide (x12 = 0))) && (decide (x15 = 0))) && (decide (x18 = 6))) && (decide (x22 = 0))) && (decide ((x21n : Int) = 2))) (VC.guard_slot rfl rfl) (Value.bool ((decide (x33_0 = 8)) && ((decide (x33_1 = 1)) && ((decide (x33_2 = 3)) && true)))) (fun hb N hN => VC.op_eqs (a := [.int .i64 x33_0, .int .i64 x33_1, .int .i64 x33_2]) (b := [.int .i64 8, .int .i64 1, .int .i64 3]) (VC.gv hb) (VC.gv hb) eg_36 (VC.eq_of_plan eqp_36 fun w => (VC.eqRun_int w un_3 ag_3 rfl rfl (VC.eqRun_int w un_3 ag_3 rfl rfl (VC.eqRun_int w un_3 ag_3 rfl rfl (VC.eqRun_nil w))))) hN) ?_
    refine VC.wpL_op (VC.op_pick_and rfl (fun hq => (VC.gv hq)) rfl ?_)
    refine VC.wpL_op (VC.op_move (v := .bool (((((((decide (x9 = 0)) && (decide (x12 = 0))) && (decide (x15 = 0))) && (decide (x18 = 6))) && (decide (x22 = 0))) && (decide ((x21n : Int) = 2))) && ((decide (x33_0 = 8)) && ((decide (x33_1 = 1)) && ((decide (x33_2 = 3)) && true))))) rfl ?_)
    refine VC.wpL_gq (b := ((((((decide (x9 = 0)) && (decide (x12 = 0))) && (decide (x15 = 0))) && (decide (x18 = 6))) && (decide (x22 = 0))) && (decide ((x21n : Int) = 2))) && ((decide (x33_0 = 8)) && ((decide (x33_1 = 1)) && ((decide (x33_2 = 3)) && true)))) (VC.guard_slot rfl rfl) (Value.slice x21a x21n x21c) (fun hb N hN => VC.op_move (v := .slice x21a x21n x21c) rfl hN) ?_
    obtain ⟨b37, o38, c39, H⟩ := H
    obtain ⟨c36, H⟩ := H
    refine VC.wpL_gq (b := ((((((decide (x9 = 0)) && (decide (x12 = 0))) && (decide (x15 = 0))) && (decide (x18 = 6))) && (decide (x22 = 0))) && (decide ((x21n : Int) = 2))) && ((decide (x33_0 = 8)) && ((decide (x33_1 = 1)) && ((decide (x33_2 = 3)) && true)))) (VC.guard_slot rfl rfl) (Value.pointer (some ⟨b37, o38 + 3, none⟩)) (fun hb N hN => VC.op_indexAddr_slice (Eq.trans (VC.gv hb) (congrArg (fun a => Value.slice a x21n x21c) (c39 hb))) rfl ei_32 (c36 hb) hN) ?_
    obtain ⟨x40_0, x40_1, x40_2, c41, H⟩ := H
    refine VC.wpL_gq (b := ((((((decide (x9 = 0)) && (decide (x12 = 0))) && (decide (x15 = 0))) && (decide (x18 = 6))) && (decide (x22 = 0))) && (decide ((x21n : Int) = 2))) && ((decide (x33_0 = 8)) && ((decide (x33_1 = 1)) && ((decide (x33_2 = 3)) && true)))) (VC.guard_slot rfl rfl) (Value.agg #[.int .i64 x40_0, .int .i64 x40_1, .int .i64 x40_2]) (fun hb N hN => VC.op_loadN (VC.gv hb) ag_36 (c41 hb) hN) ?_
    refine VC.wpL_gq (b := ((((((decide (x9 = 0)) && (decide (x12 = 0))) && (decide (x15 = 0))) && (decide (x18 = 6))) && (decide (x22 = 0))) && (decide ((x21n : Int) = 2))) && ((decide (x33_0 = 8)) && ((decide (x33_1 = 1)) && ((decide (x33_2 = 3)) && true)))) (VC.guard_slot rfl rfl) (Value.agg #[.int .i64 7, .int .i64 2, .int .i64 1]) (fun hb N hN => VC.op_build' (vs := [(0, .int .i64 7), (1, .int .i64 2), (2, .int .i64 1)]) (cs := #[.int .i64 7, .int .i64 2, .int .i64 1]) z_36 fs_36 (VC.parts_cons rfl (VC.parts_cons rfl (VC.parts_cons rfl VC.parts_nil))) rfl hN) ?_
    refine VC.wpL_gq (b := ((((((decide (x9 = 0)) && (decide (x12 = 0))) && (decide (x15 = 0))) && (decide (x18 = 6))) && (decide (x22 = 0))) && (decide ((x21n : Int) = 2))) && ((decide (x33_0 = 8)) && ((decide (x33_1 = 1)) && ((decide (x33_2 = 3)) && true)))) (VC.guard_slot rfl rfl) (Value.bool ((decide (x40_0 = 7)) && ((decide (x40_1 = 2)) && ((decide (x40_2 = 1)) && true)))) (fun hb N hN => VC.op_eqs (a := [.int .i64 x40_0, .int .i64 x40_1, .int .i64 x40_2]) (b := [.int .i64 7, .int .i64 2, .int .i64 1]) (VC.gv hb) (VC.gv hb) eg_36 (VC.eq_of_plan eqp_36 fun w => (VC.eqRun_int w un_3 ag_3 rfl rfl (VC.eqRun_int w un_3 ag_3 rfl rfl (VC.eqRun_int w un_3 ag_3 rfl rfl (VC.eqRun_nil w))))) hN) ?_
    refine VC.wpL_op (VC.op_pick_and rfl (fun hq => (VC.gv hq)) rfl ?_)
    refine VC.wpL_op (VC.op_move (v := .bool ((((((((decide (x9 = 0)) && (decide (x12 = 0))) && (decide (x15 = 0))) && (decide (x18 = 6))) && (decide (x22 = 0))) && (decide ((x21n : Int) = 2))) && ((decide (x33_0 = 8)) && ((decide (x33_1 = 1)) && ((decide (x33_2 = 3)) && true)))) && ((decide (x40_0 = 7)) && ((decide (x40_1 = 2)) && ((decide (x40_2 = 1)) && true))))) rfl ?_)
    refine VC.wpL_gq (b := (((((((decide (x9 = 0)) && (decide (x12 = 0))) && (decide (x15 = 0))) && (decide (x18 = 6))) && (decide (x22 = 0))) && (decide ((x21n : Int) = 2))) && ((decide (x33_0 = 8)) && ((decide (x33_1 = 1)) && ((decide (x33_2 = 3)) && true)))) && ((decide (x40_0 = 7)) && ((decide (x40_1 = 2)) && ((decide (x40_2 = 1)) && true)))) (VC.guard_slot rfl rfl) (Value.pointer x3) (fun hb N hN => VC.op_move (v := .pointer x3) rfl hN) ?_
    obtain ⟨J46, HR, HT, HF⟩ := H
    refine VC.wpL_gl (b := (((((((decide (x9 = 0)) && (decide (x12 = 0))) && (decide (x15 = 0))) && (decide (x18 = 6))) && (decide (x22 = 0))) && (decide ((x21n : Int) = 2))) && ((decide (x33_0 = 8)) && ((decide (x33_1 = 1)) && ((decide (x33_2 = 3)) && true)))) && ((decide (x40_0 = 7)) && ((decide (x40_1 = 2)) && ((decide (x40_2 = 1)) && true)))) (VC.guard_slot rfl rfl) (fun v h43 => ∃ (x45 : Int), v = (bif (((((((decide (x9 = 0)) && (decide (x12 = 0))) && (decide (x15 = 0))) && (decide (x18 = 6))) && (decide (x22 = 0))) && (decide ((x21n : Int) = 2))) && ((decide (x33_0 = 8)) && ((decide (x33_1 = 1)) && ((decide (x33_2 = 3)) && true)))) && ((decide (x40_0 = 7)) && ((decide (x40_1 = 2)) && ((decide (x40_2 = 1)) && true))) then (Value.int .i64 x45) else undef) ∧ J46 x45 h43) ?_ ?_ ?_
    · rintro _ h43 ⟨x45, rfl, hJ⟩
      have H := HR x45 h43 hJ
      refine VC.wpL_gq (b := (((((((decide (x9 = 0)) && (decide (x12 = 0))) && (decide (x15 = 0))) && (decide (x18 = 6))) && (decide (x22 = 0))) && (decide ((x21n : Int) = 2))) && ((decide (x33_0 = 8)) && ((decide (x33_1 = 1)) && ((decide (x33_2 = 3)) && true)))) && ((decide (x40_0 = 7)) && ((decide (x40_1 = 2)) && ((decide (x40_2 = 1)) && true)))) (VC.guard_slot rfl rfl) (Value.bool (decide (x45 = 0))) (fun hb N hN => VC.op_eql (VC.gv hb) rfl hN) ?_
      refine VC.wpL_op (VC.op_pick_and rfl (fun hq => (VC.gv hq)) rfl ?_)
      refine VC.wpL_op (VC.op_move (v := .bool (((((((((decide (x9 = 0)) && (decide (x12 = 0))) && (decide (x15 = 0))) && (decide (x18 = 6))) && (decide (x22 = 0))) && (decide ((x21n : Int) = 2))) && ((decide (x33_0 = 8)) && ((decide (x33_1 = 1)) && ((decide (x33_2 = 3)) && true)))) && ((decide (x40_0 = 7)) && ((decide (x40_1 = 2)) && ((decide (x40_2 = 1)) && true)))) && (decide (x45 = 0)))) rfl ?_)
      refine VC.wpL_gq (b := ((((((((decide (x9 = 0)) && (decide (x12 = 0))) && (decide (x15 = 0))) && (decide (x18 = 6))) && (decide (x22 = 0))) && (decide ((x21n : Int) = 2))) && ((decide (x33_0 = 8)) && ((decide (x33_1 = 1)) && ((decide (x33_2 = 3)) && true)))) && ((decide (x40_0 = 7)) && ((decide (x40_1 = 2)) && ((decide (x40_2 = 1)) && true)))) && (decide (x45 = 0))) (VC.guard_slot rfl rfl) (Value.pointer x3) (fun hb N hN => VC.op_move (v := .pointer x3) rfl hN) ?_
      obtain ⟨J51, HR, HT, HF⟩ := H
      refine VC.wpL_gl (b := ((((((((decide (x9 = 0)) && (decide (x12 = 0))) && (decide (x15 = 0))) && (decide (x18 = 6))) && (decide (x22 = 0))) && (decide ((x21n : Int) = 2))) && ((decide (x33_0 = 8)) && ((decide (x33_1 = 1)) && ((decide (x33_2 = 3)) && true)))) && ((decide (x40_0 = 7)) && ((decide (x40_1 = 2)) && ((decide (x40_2 = 1)) && true)))) && (decide (x45 = 0))) (VC.guard_slot rfl rfl) (fun v h48 => ∃ (x50 : Int), v = (bif ((((((((decide (x9 = 0)) && (decide (x12 = 0))) && (decide (x15 = 0))) && (decide (x18 = 6))) && (decide (x22 = 0))) && (decide ((x21n : Int) = 2))) && ((decide (x33_0 = 8)) && ((decide (x33_1 = 1)) && ((decide (x33_2 = 3)) && true)))) && ((decide (x40_0 = 7)) && ((decide (x40_1 = 2)) && ((decide (x40_2 = 1)) && true)))) && (decide (x45 = 0)) then (Value.int .i64 x50) else undef) ∧ J51 x50 h48) ?_ ?_ ?_
      · rintro _ h48 ⟨x50, rfl, hJ⟩
        have H := HR x50 h48 hJ
        refine VC.wpL_gq (b := ((((((((decide (x9 = 0)) && (decide (x12 = 0))) && (decide (x15 = 0))) && (decide (x18 = 6))) && (decide (x22 = 0))) && (decide ((x21n : Int) = 2))) && ((decide (x33_0 = 8)) && ((decide (x33_1 = 1)) && ((decide (x33_2 = 3)) && true)))) && ((decide (x40_0 = 7)) && ((decide (x40_1 = 2)) && ((decide (x40_2 = 1)) && true)))) && (decide (x45 = 0))) (VC.guard_slot rfl rfl) (Value.bool (decide (x50 = 11))) (fun hb N hN => VC.op_eql (VC.gv hb) rfl hN) ?_
        refine VC.wpL_op (VC.op_pick_and rfl (fun hq => (VC.gv hq)) rfl ?_)
        refine VC.wpL_op (VC.op_assign (v := .bool ((((((((((decide (x9 = 0)) && (decide (x12 = 0))) && (decide (x15 = 0))) && (decide (x18 = 6))) && (decide (x22 = 0))) && (decide ((x21n : Int) = 2))) && ((decide (x33_0 = 8)) && ((decide (x33_1 = 1)) && ((decide (x33_2 = 3)) && true)))) && ((decide (x40_0 = 7)) && ((decide (x40_1 = 2)) && ((decide (x40_2 = 1)) && true)))) && (decide (x45 = 0))) && (decide (x50 = 11)))) rfl ?_)
        refine VC.wpL_nil ?_
        refine VC.wpf_ret ?_
        exact VC.ret_leaf (VC.resV_tmp rfl VC.resV_nil) H
      · intro hb
        refine VC.op_call (vs := [.pointer x3, .int .i64 7, .int .u64 20]) en_10 (VC.args_cons (VC.gv hb) (VC.args_cons rfl (VC.args_cons rfl VC.args_nil))) (CallsH.mono (HT hb) ?_)
        rintro _ h48 ⟨x50, rfl, hJ⟩
        exact ⟨x50, VC.bif_true hb, hJ⟩
      · intro hb
        obtain ⟨x50, hJ⟩ := HF hb
        exact ⟨x50, VC.bif_false hb, hJ⟩
    · intro hb
      refine VC.op_call (vs := [.pointer x3]) en_14 (VC.args_cons (VC.gv hb) VC.args_nil) (CallsH.mono (HT hb) ?_)
      rintro _ h43 ⟨x45, rfl, hJ⟩
      exact ⟨x45, VC.bif_true hb, hJ⟩
    · intro hb
      obtain ⟨x45, hJ⟩ := HF hb
      exact ⟨x45, VC.bif_false hb, hJ⟩

def cert_linchpinlaw19_LifeSteps_30 : VC.Cert := ⟨[[], [], [0, 1], [0, 1, 2], [], [], [4, 5], [4, 5, 6], [0, 1, 2, 3, 4, 5, 6, 7]], [false, false, false, false, false, false, false, false, false]⟩
/-- linchpinlaw19.LifeSteps -/
def F_linchpinlaw19_LifeSteps (p0a : Option Addr) (p0n : Nat) (p0c : Nat) (p1a : Option Addr) (p1n : Nat) (p1c : Nat) (K : Bool → Heap → Prop) (h : Heap) : Prop :=
  CallsH PR fn_linchpinlaw19_awake #[] h (fun v h1 => ∃ (x3 : Bool), v = (Value.bool x3) ∧ (x3 = false → K false h1) ∧ (x3 = true → CallsH PR fn_life_New #[.int .u64 7] h1 (fun v h4 => ∃ (x6 : Option Addr) (x7 : Int), v = (Value.tuple #[.pointer x6, .int .i64 x7]) ∧ CallsH PR fn_life_New #[.int .u64 7] h4 (fun v h8 => ∃ (x10 : Option Addr) (x11 : Int), v = (Value.tuple #[.pointer x10, .int .i64 x11]) ∧ ((((((x6.isNone || x10.isNone) || (!decide (x7 = 0))) || (!decide (x11 = 0))) || (decide (64 < (p0n : Int)))) || (decide (60 < (p1n : Int)))) = true → K ((decide (64 < (p0n : Int))) || (decide (60 < (p1n : Int)))) h8) ∧ ((((((x6.isNone || x10.isNone) || (!decide (x7 = 0))) || (!decide (x11 = 0))) || (decide (64 < (p0n : Int)))) || (decide (60 < (p1n : Int)))) = false → ∃ (I21 : Int → Heap → Prop) (mu22 : Int → Heap → Nat), I21 0 h8 ∧ ∀ (x20 : Int) (h24 : Heap), I21 x20 h24 → (x20 < (p0n : Int) → ∃ (b27 : Nat) (o28 : Nat), p0a = some ⟨b27, o28, none⟩ ∧ (0 ≤ x20 ∧ x20 < (p0n : Int)) ∧ ∃ (x30 : Int), cellH h24 b27 (o28 + x20.toNat * 1) = some (.int .u16 x30) ∧ CallsH PR fn_life_Book_Open #[.pointer x6, .int .i64 x20, .int .u64 (IntKind.u64.wrap (8 + (IntKind.u64.wrap x30)))] h24 (fun v h33 => ∃ (x35 : Int), v = (Value.int .i64 x35) ∧ ((x35 = 0) → 0 ≤ x20 ∧ x20 < (p0n : Int)) ∧ ∃ (x38 : Int), ((x35 = 0) → cellH h33 b27 (o28 + x20.toNat * 1) = some (.int .u16 x38)) ∧ ∃ J44 : Int → Heap → Prop, (∀ (x43 : Int) (h41 : Heap), J44 x43 h41 → (((!decide (x35 = 0)) || (!decide (x43 = 0))) = true → K false h41) ∧ (((!decide (x35 = 0)) || (!decide (x43 = 0))) = false → (-9223372036854775808 ≤ x20 + 1 ∧ x20 + 1 < 9223372036854775808) ∧ (I21 (x20 + 1) h41 ∧ mu22 (x20 + 1) h41 < mu22 x20 h24))) ∧ ((x35 = 0) → CallsH PR fn_life_Book_Open #[.pointer x10, .int .i64 x20, .int .u64 (IntKind.u64.wrap (8 + (IntKind.u64.wrap x38)))] h33 (fun v h41 => ∃ (x43 : Int), v = (Value.int .i64 x43) ∧ J44 x43 h41)) ∧ ((¬ (x35 = 0)) → ∃ (x43 : Int), J44 x43 h33))) ∧ ((¬ (x20 < (p0n : Int))) → ∃ (I50 : Option Addr → Nat → Nat → Int → Int → Heap → Prop) (mu51 : Option Addr → Nat → Nat → Int → Int → Heap → Nat), I50 none 0 0 0 0 h24 ∧ ∀ (x47a : Option Addr) (x47n : Nat) (x47c : Nat) (x48 : Int) (x49 : Int) (h53 : Heap), I50 x47a x47n x47c x48 x49 h53 → (x49 < (p1n : Int) → ∃ (b56 : Nat) (o57 : Nat), p1a = some ⟨b56, o57, none⟩ ∧ (0 ≤ x49 ∧ x49 < (p1n : Int)) ∧ ∃ (x59 : Int), cellH h53 b56 (o57 + x49.toNat * 1) = some (.int .u8 x59) ∧ CallsH PR fn_life_Book_Go #[.pointer x6, .int .u64 (IntKind.u64.wrap (x48 + (IntKind.u64.wrap x59)))] h53 (fun v h62 => ∃ (x64a : Option Addr) (x64n : Nat) (x64c : Nat) (x65 : Int), v = (Value.tuple #[.slice x64a x64n x64c, .int .i64 x65]) ∧ ((¬ (x65 = 0)) → K false h62) ∧ (x65 = 0 → ∃ (m67 : Nat) (ns68 : List Value), (lenH (Value.slice x64a x64n x64c) = some m67 ∧ firstH h62 3 m67 (Value.slice x64a x64n x64c) = some ns68) ∧ VC.appH 36 3 24 (Value.agg #[.int .i64 0, .int .i64 0, .int .i64 0]) x47a x47n x47c m67 ns68 h62 (fun a71 n72 q73 h74 => (-9223372036854775808 ≤ x49 + 1 ∧ x49 + 1 < 9223372036854775808) ∧ (I50 a71 n72 q73 (IntKind.u64.wrap (x48 + (IntKind.u64.wrap x59))) (x49 + 1) h74 ∧ mu51 a71 n72 q73 (IntKind.u64.wrap (x48 + (IntKind.u64.wrap x59))) (x49 + 1) h74 < mu51 x47a x47n x47c x48 x49 h53))))) ∧ ((¬ (x49 < (p1n : Int))) → CallsH PR fn_life_Book_Go #[.pointer x6, .int .u64 100000] h53 (fun v h76 => ∃ (x78a : Option Addr) (x78n : Nat) (x78c : Nat) (x79 : Int), v = (Value.tuple #[.slice x78a x78n x78c, .int .i64 x79]) ∧ CallsH PR fn_life_Book_Go #[.pointer x10, .int .u64 100000] h76 (fun v h80 => ∃ (x82a : Option Addr) (x82n : Nat) (x82c : Nat) (x83 : Int), v = (Value.tuple #[.slice x82a x82n x82c, .int .i64 x83]) ∧ ∃ (m84 : Nat) (ns85 : List Value), (lenH (Value.slice x78a x78n x78c) = some m84 ∧ firstH h80 3 m84 (Value.slice x78a x78n x78c) = some ns85) ∧ VC.appH 36 3 24 (Value.agg #[.int .i64 0, .int .i64 0, .int .i64 0]) x47a x47n x47c m84 ns85 h80 (fun a88 n89 q90 h91 => (((((!decide (x79 = 0)) || (!decide (x83 = 0))) || (!decide ((n89 : Int) = (x82n : Int)))) || (!decide ((x82n : Int) = (p0n : Int)))) = true → K false h91) ∧ (((((!decide (x79 = 0)) || (!decide (x83 = 0))) || (!decide ((n89 : Int) = (x82n : Int)))) || (!decide ((x82n : Int) = (p0n : Int)))) = false → ∃ (I97 : Int → Heap → Prop) (mu98 : Int → Heap → Nat), I97 0 h91 ∧ ∀ (x96 : Int) (h100 : Heap), I97 x96 h100 → (x96 < (x82n : Int) → ∃ (b103 : Nat) (o104 : Nat), a88 = some ⟨b103, o104, none⟩ ∧ (0 ≤ x96 ∧ x96 < (n89 : Int)) ∧ ∃ (x106_0 : Int) (x106_1 : Int) (x106_2 : Int), ldCells h100 b103 (o104 + x96.toNat * 3) 3 = some [.int .i64 x106_0, .int .i64 x106_1, .int .i64 x106_2] ∧ ∃ (b109 : Nat) (o110 : Nat), x82a = some ⟨b109, o110, none⟩ ∧ (0 ≤ x96 ∧ x96 < (x82n : Int)) ∧ ∃ (x112_0 : Int) (x112_1 : Int) (x112_2 : Int), ldCells h100 b109 (o110 + x96.toNat * 3) 3 = some [.int .i64 x112_0, .int .i64 x112_1, .int .i64 x112_2] ∧ (((decide (x106_0 = x112_0)) && ((decide (x106_1 = x112_1)) && ((decide (x106_2 = x112_2)) && true))) = false → K false h100) ∧ (((decide (x106_0 = x112_0)) && ((decide (x106_1 = x112_1)) && ((decide (x106_2 = x112_2)) && true))) = true → (-9223372036854775808 ≤ x96 + 1 ∧ x96 + 1 < 9223372036854775808) ∧ (I97 (x96 + 1) h100 ∧ mu98 (x96 + 1) h100 < mu98 x96 h100))) ∧ ((¬ (x96 < (x82n : Int))) → K true h100))))))))))))
theorem F_linchpinlaw19_LifeSteps_ok (p0a : Option Addr) (p0n : Nat) (p0c : Nat) (p1a : Option Addr) (p1n : Nat) (p1c : Nat) (R : Value → Heap → Prop) (h : Heap) (H : F_linchpinlaw19_LifeSteps p0a p0n p0c p1a p1n p1c (fun r0 h' => R (Value.bool r0) h') h) : CallsH PR fn_linchpinlaw19_LifeSteps #[.slice p0a p0n p0c, .slice p1a p1n p1c] h R := by
  refine VC.callsH_of (args := [.slice p0a p0n p0c, .slice p1a p1n p1c]) Try.func3 rfl rfl ?_
  intro f hf
  have e0 := hf 0 _ rfl
  have e1 := hf 1 _ rfl
  clear hf
  unfold F_linchpinlaw19_LifeSteps at H
  refine VC.wpf_seq ?_
  refine VC.wpf_region rfl ?_
  refine VC.wpL_op (VC.op_assign (v := .bool false) rfl ?_)
  refine VC.wpL_nil ?_
  refine VC.wpf_seq ?_
  refine VC.wpf_seq ?_
  refine VC.wpf_region rfl ?_
  refine VC.wpL_op (VC.op_call (vs := []) en_8 VC.args_nil (CallsH.mono H ?_))
  clear H
  rintro _ h1 ⟨x3, rfl, H⟩
  refine VC.wpL_op (VC.op_not rfl ?_)
  refine VC.wpL_nil ?_
  refine VC.wpf_cond (!x3) rfl ?_ ?_
  · intro hb
    replace H := H.1 (VC.of_not_true hb)
    refine VC.wpf_seq ?_
    refine VC.wpf_region rfl ?_
    refine VC.wpL_op (VC.op_assign (v := .bool false) rfl ?_)
    refine VC.wpL_nil ?_
    refine VC.wpf_ret ?_
    exact VC.ret_leaf (VC.resV_tmp rfl VC.resV_nil) H
  · intro hb
    replace H := H.2 (VC.of_not_false hb)
    refine VC.wpf_skip ?_
    refine VC.wpf_seq ?_
    refine VC.wpf_region rfl ?_
    refine VC.wpL_op (VC.op_call (vs := [.int .u64 7]) en_9 (VC.args_cons rfl VC.args_nil) (CallsH.mono H ?_))
    clear H
    rintro _ h4 ⟨x6, x7, rfl, H⟩
    refine VC.wpL_op (VC.op_move (v := .tuple #[.pointer x6, .int .i64 x7]) rfl ?_)
    refine VC.wpL_op (VC.op_extract rfl rfl ?_)
    refine VC.wpL_op (VC.op_extract rfl rfl ?_)
    refine VC.wpL_op (VC.op_assign (v := .pointer x6) rfl ?_)
    refine VC.wpL_op (VC.op_assign (v := .int .i64 x7) rfl ?_)
    refine VC.wpL_nil ?_
    refine VC.wpf_seq ?_
    refine VC.wpf_region rfl ?_
    refine VC.wpL_op (VC.op_call (vs := [.int .u64 7]) en_9 (VC.args_cons rfl VC.args_nil) (CallsH.mono H ?_))
    clear H
    rintro _ h8 ⟨x10, x11, rfl, H⟩
    refine VC.wpL_op (VC.op_move (v := .tuple #[.pointer x10, .int .i64 x11]) rfl ?_)
    refine VC.wpL_op (VC.op_extract rfl rfl ?_)
    refine VC.wpL_op (VC.op_extract rfl rfl ?_)
    refine VC.wpL_op (VC.op_assign (v := .pointer x10) rfl ?_)
    refine VC.wpL_op (VC.op_assign (v := .int .i64 x11) rfl ?_)
    refine VC.wpL_nil ?_
    refine VC.wpf_seq ?_
    refine VC.wpf_seq ?_
    refine VC.wpf_region rfl ?_
    refine VC.wpL_op (VC.op_move (v := .pointer x6) rfl ?_)
    refine VC.wpL_op (VC.op_eq_ptr_nil rfl rfl un_25 ?_)
    refine VC.wpL_op (VC.op_move (v := .bool x6.isNone) rfl ?_)
    refine VC.wpL_gq (b := !x6.isNone) (VC.guard_slot rfl rfl) (Value.pointer x10) (fun hb N hN => VC.op_move (v := .pointer x10) rfl hN) ?_
    refine VC.wpL_gq (b := !x6.isNone) (VC.guard_slot rfl rfl) (Value.bool x10.isNone) (fun hb N hN => VC.op_eq_ptr_nil (VC.gv hb) rfl un_25 hN) ?_
    refine VC.wpL_op (VC.op_pick_or rfl rfl (fun hq => (VC.gv (VC.not_of_false hq))) ?_)
    refine VC.wpL_op (VC.op_move (v := .bool (x6.isNone || x10.isNone)) rfl ?_)
    refine VC.wpL_gq (b := !(x6.isNone || x10.isNone)) (VC.guard_slot rfl rfl) (Value.int .i64 x7) (fun hb N hN => VC.op_move (v := .int .i64 x7) rfl hN) ?_
    refine VC.wpL_gq (b := !(x6.isNone || x10.isNone)) (VC.guard_slot rfl rfl) (Value.bool (!decide (x7 = 0))) (fun hb N hN => VC.op_neq (VC.gv hb) rfl hN) ?_
    refine VC.wpL_op (VC.op_pick_or rfl rfl (fun hq => (VC.gv (VC.not_of_false hq))) ?_)
    refine VC.wpL_op (VC.op_move (v := .bool ((x6.isNone || x10.isNone) || (!decide (x7 = 0)))) rfl ?_)
    refine VC.wpL_gq (b := !((x6.isNone || x10.isNone) || (!decide (x7 = 0)))) (VC.guard_slot rfl rfl) (Value.int .i64 x11) (fun hb N hN => VC.op_move (v := .int .i64 x11) rfl hN) ?_
    refine VC.wpL_gq (b := !((x6.isNone || x10.isNone) || (!decide (x7 = 0)))) (VC.guard_slot rfl rfl) (Value.bool (!decide (x11 = 0))) (fun hb N hN => VC.op_neq (VC.gv hb) rfl hN) ?_
    refine VC.wpL_op (VC.op_pick_or rfl rfl (fun hq => (VC.gv (VC.not_of_false hq))) ?_)
    refine VC.wpL_op (VC.op_move (v := .bool (((x6.isNone || x10.isNone) || (!decide (x7 = 0))) || (!decide (x11 = 0)))) rfl ?_)
    refine VC.wpL_gq (b := !(((x6.isNone || x10.isNone) || (!decide (x7 = 0))) || (!decide (x11 = 0)))) (VC.guard_slot rfl rfl) (Value.slice p0a p0n p0c) (fun hb N hN => VC.op_move (v := .slice p0a p0n p0c) e0 hN) ?_
    refine VC.wpL_gq (b := !(((x6.isNone || x10.isNone) || (!decide (x7 = 0))) || (!decide (x11 = 0)))) (VC.guard_slot rfl rfl) (Value.int .i64 (p0n : Int)) (fun hb N hN => VC.op_len_slice (VC.gv hb) un_22 hN) ?_
    refine VC.wpL_gq (b := !(((x6.isNone || x10.isNone) || (!decide (x7 = 0))) || (!decide (x11 = 0)))) (VC.guard_slot rfl rfl) (Value.bool (decide (64 < (p0n : Int)))) (fun hb N hN => VC.op_gtr (VC.gv hb) rfl hN) ?_
    refine VC.wpL_op (VC.op_pick_or rfl rfl (fun hq => (VC.gv (VC.not_of_false hq))) ?_)
    refine VC.wpL_op (VC.op_move (v := .bool ((((x6.isNone || x10.isNone) || (!decide (x7 = 0))) || (!decide (x11 = 0))) || (decide (64 < (p0n : Int))))) rfl ?_)
    refine VC.wpL_gq (b := !((((x6.isNone || x10.isNone) || (!decide (x7 = 0))) || (!decide (x11 = 0))) || (decide (64 < (p0n : Int))))) (VC.guard_slot rfl rfl) (Value.slice p1a p1n p1c) (fun hb N hN => VC.op_move (v := .slice p1a p1n p1c) e1 hN) ?_
    refine VC.wpL_gq (b := !((((x6.isNone || x10.isNone) || (!decide (x7 = 0))) || (!decide (x11 = 0))) || (decide (64 < (p0n : Int))))) (VC.guard_slot rfl rfl) (Value.int .i64 (p1n : Int)) (fun hb N hN => VC.op_len_slice (VC.gv hb) un_23 hN) ?_
    refine VC.wpL_gq (b := !((((x6.isNone || x10.isNone) || (!decide (x7 = 0))) || (!decide (x11 = 0))) || (decide (64 < (p0n : Int))))) (VC.guard_slot rfl rfl) (Value.bool (decide (60 < (p1n : Int)))) (fun hb N hN => VC.op_gtr (VC.gv hb) rfl hN) ?_
    refine VC.wpL_op (VC.op_pick_or rfl rfl (fun hq => (VC.gv (VC.not_of_false hq))) ?_)
    refine VC.wpL_nil ?_
    refine VC.wpf_cond (((((x6.isNone || x10.isNone) || (!decide (x7 = 0))) || (!decide (x11 = 0))) || (decide (64 < (p0n : Int)))) || (decide (60 < (p1n : Int)))) rfl ?_ ?_
    · intro hb
      replace H := H.1 hb
      refine VC.wpf_seq ?_
      refine VC.wpf_region rfl ?_
      refine VC.wpL_op (VC.op_move (v := .slice p0a p0n p0c) e0 ?_)
      refine VC.wpL_op (VC.op_len_slice rfl un_22 ?_)
      refine VC.wpL_op (VC.op_gtr rfl rfl ?_)
      refine VC.wpL_op (VC.op_move (v := .bool (decide (64 < (p0n : Int)))) rfl ?_)
      refine VC.wpL_gq (b := !(decide (64 < (p0n : Int)))) (VC.guard_slot rfl rfl) (Value.slice p1a p1n p1c) (fun hb N hN => VC.op_move (v := .slice p1a p1n p1c) e1 hN) ?_
      refine VC.wpL_gq (b := !(decide (64 < (p0n : Int)))) (VC.guard_slot rfl rfl) (Value.int .i64 (p1n : Int)) (fun hb N hN => VC.op_len_slice (VC.gv hb) un_23 hN) ?_
      refine VC.wpL_gq (b := !(decide (64 < (p0n : Int)))) (VC.guard_slot rfl rfl) (Value.bool (decide (60 < (p1n : Int)))) (fun hb N hN => VC.op_gtr (VC.gv hb) rfl hN) ?_
      refine VC.wpL_op (VC.op_pick_or rfl rfl (fun hq => (VC.gv (VC.not_of_false hq))) ?_)
      refine VC.wpL_op (VC.op_assign (v := .bool ((decide (64 < (p0n : Int))) || (decide (60 < (p1n : Int))))) rfl ?_)
      refine VC.wpL_nil ?_
      refine VC.wpf_ret ?_
      exact VC.ret_leaf (VC.resV_tmp rfl VC.resV_nil) H
    · intro hb
      replace H := H.2 hb
      refine VC.wpf_skip ?_
      refine VC.wpf_seq ?_
      refine VC.wpf_seq ?_
      refine VC.wpf_region rfl ?_
      refine VC.wpL_op (VC.op_assign (v := .int .i64 0) rfl ?_)
      refine VC.wpL_nil ?_
      refine VC.wpf_block ?_
      obtain ⟨I21, mu22, hI, H⟩ := H
      obtain ⟨I23, mu23, hin23, hout23, hmu23⟩ : ∃ (J23 : VC.Fr → Heap → Prop) (m : VC.Fr → Heap → Nat), (∀ f hz (x20 : Int), f 9 = .int .i64 x20 → f 0 = .slice p0a p0n p0c → f 1 = .slice p1a p1n p1c → f 5 = .pointer x6 → f 7 = .pointer x10 → I21 x20 hz → J23 f hz) ∧ (∀ f hz, J23 f hz → ∃ (x20 : Int), f 9 = .int .i64 x20 ∧ f 0 = .slice p0a p0n p0c ∧ f 1 = .slice p1a p1n p1c ∧ f 5 = .pointer x6 ∧ f 7 = .pointer x10 ∧ I21 x20 hz) ∧ (∀ f hz (x20 : Int), f 9 = .int .i64 x20 → m f hz = mu22 x20 hz) := ⟨fun f hz => ∃ (x20 : Int), f 9 = .int .i64 x20 ∧ f 0 = .slice p0a p0n p0c ∧ f 1 = .slice p1a p1n p1c ∧ f 5 = .pointer x6 ∧ f 7 = .pointer x10 ∧ I21 x20 hz, fun f hz => mu22 (VC.dInt (f 9)) hz, fun _ _ x20 a0 a1 a2 a3 a4 z => ⟨x20, a0, a1, a2, a3, a4, z⟩, fun _ _ hz => hz, fun f hz x20 a0 => by simp only [a0]; rfl⟩
      refine VC.wpf_loop I23 mu23 (hin23 _ _ _ rfl e0 e1 rfl rfl hI) ?_
      clear hI
      intro f h24 hf
      obtain ⟨x20, a23_0, a23_1, a23_2, a23_3, a23_4, hJ⟩ := hout23 _ _ hf
      replace H := H x20 h24 hJ
      refine VC.wpf_seq ?_
      refine VC.wpf_seq ?_
      refine VC.wpf_region rfl ?_
      refine VC.wpL_op (VC.op_move (v := .int .i64 x20) a23_0 ?_)
      refine VC.wpL_op (VC.op_move (v := .slice p0a p0n p0c) a23_1 ?_)
      refine VC.wpL_op (VC.op_len_slice rfl un_22 ?_)
      refine VC.wpL_op (VC.op_lss rfl rfl ?_)
      refine VC.wpL_nil ?_
      refine VC.wpf_cond (decide (x20 < (p0n : Int))) rfl ?_ ?_
      · intro hb
        replace H := H.1 (of_decide_eq_true hb)
        refine VC.wpf_skip ?_
        refine VC.wpf_seq ?_
        refine VC.wpf_block ?_
        refine VC.wpf_seq ?_
        refine VC.wpf_region rfl ?_
        refine VC.wpL_op (VC.op_move (v := .pointer x6) a23_3 ?_)
        refine VC.wpL_op (VC.op_move (v := .int .i64 x20) a23_0 ?_)
        refine VC.wpL_op (VC.op_move (v := .slice p0a p0n p0c) a23_1 ?_)
        refine VC.wpL_op (VC.op_move (v := .int .i64 x20) a23_0 ?_)
        obtain ⟨b27, o28, rfl, H⟩ := H
        obtain ⟨c26, H⟩ := H
        refine VC.wpL_op (VC.op_indexAddr_slice rfl rfl ei_22 c26 ?_)
        obtain ⟨x30, c31, H⟩ := H
        refine VC.wpL_op (VC.op_load1 rfl ag_31 c31 ?_)
        refine VC.wpL_op (VC.op_conv rfl (congrArg (Option.map fun _ => ()) un_31) un_29 rfl ?_)
        refine VC.wpL_op (VC.op_add rfl rfl rfl ?_)
        refine VC.wpL_op (VC.op_call (vs := [.pointer x6, .int .i64 x20, .int .u64 (IntKind.u64.wrap (8 + (IntKind.u64.wrap x30)))]) en_10 (VC.args_cons rfl (VC.args_cons rfl (VC.args_cons rfl VC.args_nil))) (CallsH.mono H ?_))
        clear H
        rintro _ h33 ⟨x35, rfl, H⟩
        refine VC.wpL_op (VC.op_neq rfl rfl ?_)
        refine VC.wpL_op (VC.op_move (v := .bool (!decide (x35 = 0))) rfl ?_)
        refine VC.wpL_gq (b := !(!decide (x35 = 0))) (VC.guard_slot rfl rfl) (Value.pointer x10) (fun hb N hN => VC.op_move (v := .pointer x10) a23_4 hN) ?_
        refine VC.wpL_gq (b := !(!decide (x35 = 0))) (VC.guard_slot rfl rfl) (Value.int .i64 x20) (fun hb N hN => VC.op_move (v := .int .i64 x20) a23_0 hN) ?_
        refine VC.wpL_gq (b := !(!decide (x35 = 0))) (VC.guard_slot rfl rfl) (Value.slice (some ⟨b27, o28, none⟩) p0n p0c) (fun hb N hN => VC.op_move (v := .slice (some ⟨b27, o28, none⟩) p0n p0c) a23_1 hN) ?_
        refine VC.wpL_gq (b := !(!decide (x35 = 0))) (VC.guard_slot rfl rfl) (Value.int .i64 x20) (fun hb N hN => VC.op_move (v := .int .i64 x20) a23_0 hN) ?_
        obtain ⟨c37, H⟩ := H
        refine VC.wpL_gq (b := !(!decide (x35 = 0))) (VC.guard_slot rfl rfl) (Value.pointer (some ⟨b27, o28 + x20.toNat * 1, none⟩)) (fun hb N hN => VC.op_indexAddr_slice (VC.gv hb) (VC.gv hb) ei_22 (c37 (of_decide_eq_true (VC.of_not_false (VC.of_not_true hb)))) hN) ?_
        obtain ⟨x38, c39, H⟩ := H
        refine VC.wpL_gq (b := !(!decide (x35 = 0))) (VC.guard_slot rfl rfl) (Value.int .u16 x38) (fun hb N hN => VC.op_load1 (VC.gv hb) ag_31 (c39 (of_decide_eq_true (VC.of_not_false (VC.of_not_true hb)))) hN) ?_
        refine VC.wpL_gq (b := !(!decide (x35 = 0))) (VC.guard_slot rfl rfl) (Value.int .u64 (IntKind.u64.wrap x38)) (fun hb N hN => VC.op_conv (VC.gv hb) (congrArg (Option.map fun _ => ()) un_31) un_29 rfl hN) ?_
        refine VC.wpL_gq (b := !(!decide (x35 = 0))) (VC.guard_slot rfl rfl) (Value.int .u64 (IntKind.u64.wrap (8 + (IntKind.u64.wrap x38)))) (fun hb N hN => VC.op_add rfl (VC.gv hb) rfl hN) ?_
        obtain ⟨J44, HR, HT, HF⟩ := H
        refine VC.wpL_gl (b := !(!decide (x35 = 0))) (VC.guard_slot rfl rfl) (fun v h41 => ∃ (x43 : Int), v = (bif !(!decide (x35 = 0)) then (Value.int .i64 x43) else undef) ∧ J44 x43 h41) ?_ ?_ ?_
        · rintro _ h41 ⟨x43, rfl, hJ⟩
          have H := HR x43 h41 hJ
          refine VC.wpL_gq (b := !(!decide (x35 = 0))) (VC.guard_slot rfl rfl) (Value.bool (!decide (x43 = 0))) (fun hb N hN => VC.op_neq (VC.gv hb) rfl hN) ?_
          refine VC.wpL_op (VC.op_pick_or rfl rfl (fun hq => (VC.gv (VC.not_of_false hq))) ?_)
          refine VC.wpL_nil ?_
          refine VC.wpf_cond ((!decide (x35 = 0)) || (!decide (x43 = 0))) rfl ?_ ?_
          · intro hb
            replace H := H.1 hb
            refine VC.wpf_seq ?_
            refine VC.wpf_region rfl ?_
            refine VC.wpL_op (VC.op_assign (v := .bool false) rfl ?_)
            refine VC.wpL_nil ?_
            refine VC.wpf_ret ?_
            exact VC.ret_leaf (VC.resV_tmp rfl VC.resV_nil) H
          · intro hb
            replace H := H.2 hb
            refine VC.wpf_skip ?_
            refine VC.wpf_region rfl ?_
            refine VC.wpL_op (VC.op_move (v := .int .i64 x20) a23_0 ?_)
            obtain ⟨c46, H⟩ := H
            refine VC.wpL_op (VC.op_add rfl rfl (VC.wrap_i64 c46) ?_)
            refine VC.wpL_op (VC.op_assign (v := .int .i64 (x20 + 1)) rfl ?_)
            refine VC.wpL_nil ?_
            exact And.intro (hin23 _ _ _ rfl a23_1 a23_2 a23_3 a23_4 H.1) (lt_of (hmu23 _ _ _ rfl) (hmu23 _ _ _ a23_0) H.2)
        · intro hb
          refine VC.op_call (vs := [.pointer x10, .int .i64 x20, .int .u64 (IntKind.u64.wrap (8 + (IntKind.u64.wrap x38)))]) en_10 (VC.args_cons (VC.gv hb) (VC.args_cons (VC.gv hb) (VC.args_cons (VC.gv hb) VC.args_nil))) (CallsH.mono (HT (of_decide_eq_true (VC.of_not_false (VC.of_not_true hb)))) ?_)
          rintro _ h41 ⟨x43, rfl, hJ⟩
          exact ⟨x43, VC.bif_true hb, hJ⟩
        · intro hb
          obtain ⟨x43, hJ⟩ := HF (of_decide_eq_false (VC.of_not_true (VC.of_not_false hb)))
          exact ⟨x43, VC.bif_false hb, hJ⟩
      · intro hb
        replace H := H.2 (of_decide_eq_false hb)
        refine VC.wpf_exit ?_
        refine VC.wpf_seq ?_
        refine VC.wpf_region rfl ?_
        refine VC.wpL_op (VC.op_assign (v := .slice none 0 0) rfl ?_)
        refine VC.wpL_nil ?_
        refine VC.wpf_seq ?_
        refine VC.wpf_region rfl ?_
        refine VC.wpL_op (VC.op_assign (v := .int .u64 0) rfl ?_)
        refine VC.wpL_nil ?_
        refine VC.wpf_seq ?_
        refine VC.wpf_seq ?_
        refine VC.wpf_region rfl ?_
        refine VC.wpL_op (VC.op_assign (v := .int .i64 0) rfl ?_)
        refine VC.wpL_nil ?_
        refine VC.wpf_block ?_
        obtain ⟨I50, mu51, hI, H⟩ := H
        obtain ⟨I52, mu52, hin52, hout52, hmu52⟩ : ∃ (J52 : VC.Fr → Heap → Prop) (m : VC.Fr → Heap → Nat), (∀ f hz (x47a : Option Addr) (x47n : Nat) (x47c : Nat) (x48 : Int) (x49 : Int), f 10 = .slice x47a x47n x47c → f 11 = .int .u64 x48 → f 12 = .int .i64 x49 → f 0 = .slice p0a p0n p0c → f 1 = .slice p1a p1n p1c → f 5 = .pointer x6 → f 7 = .pointer x10 → I50 x47a x47n x47c x48 x49 hz → J52 f hz) ∧ (∀ f hz, J52 f hz → ∃ (x47a : Option Addr) (x47n : Nat) (x47c : Nat) (x48 : Int) (x49 : Int), f 10 = .slice x47a x47n x47c ∧ f 11 = .int .u64 x48 ∧ f 12 = .int .i64 x49 ∧ f 0 = .slice p0a p0n p0c ∧ f 1 = .slice p1a p1n p1c ∧ f 5 = .pointer x6 ∧ f 7 = .pointer x10 ∧ I50 x47a x47n x47c x48 x49 hz) ∧ (∀ f hz (x47a : Option Addr) (x47n : Nat) (x47c : Nat) (x48 : Int) (x49 : Int), f 10 = .slice x47a x47n x47c → f 11 = .int .u64 x48 → f 12 = .int .i64 x49 → m f hz = mu51 x47a x47n x47c x48 x49 hz) := ⟨fun f hz => ∃ (x47a : Option Addr) (x47n : Nat) (x47c : Nat) (x48 : Int) (x49 : Int), f 10 = .slice x47a x47n x47c ∧ f 11 = .int .u64 x48 ∧ f 12 = .int .i64 x49 ∧ f 0 = .slice p0a p0n p0c ∧ f 1 = .slice p1a p1n p1c ∧ f 5 = .pointer x6 ∧ f 7 = .pointer x10 ∧ I50 x47a x47n x47c x48 x49 hz, fun f hz => mu51 (VC.dSlA (f 10)) (VC.dSlN (f 10)) (VC.dSlC (f 10)) (VC.dInt (f 11)) (VC.dInt (f 12)) hz, fun _ _ x47a x47n x47c x48 x49 a0 a1 a2 a3 a4 a5 a6 z => ⟨x47a, x47n, x47c, x48, x49, a0, a1, a2, a3, a4, a5, a6, z⟩, fun _ _ hz => hz, fun f hz x47a x47n x47c x48 x49 a0 a1 a2 => by simp only [a0, a1, a2]; rfl⟩
        refine VC.wpf_loop I52 mu52 (hin52 _ _ _ _ _ _ _ rfl rfl rfl a23_1 a23_2 a23_3 a23_4 hI) ?_
        clear hI
        intro f h53 hf
        obtain ⟨x47a, x47n, x47c, x48, x49, a52_0, a52_1, a52_2, a52_3, a52_4, a52_5, a52_6, hJ⟩ := hout52 _ _ hf
        replace H := H x47a x47n x47c x48 x49 h53 hJ
        refine VC.wpf_seq ?_
        refine VC.wpf_seq ?_
        refine VC.wpf_region rfl ?_
        refine VC.wpL_op (VC.op_move (v := .int .i64 x49) a52_2 ?_)
        refine VC.wpL_op (VC.op_move (v := .slice p1a p1n p1c) a52_4 ?_)
        refine VC.wpL_op (VC.op_len_slice rfl un_23 ?_)
        refine VC.wpL_op (VC.op_lss rfl rfl ?_)
        refine VC.wpL_nil ?_
        refine VC.wpf_cond (decide (x49 < (p1n : Int))) rfl ?_ ?_
        · intro hb
          replace H := H.1 (of_decide_eq_true hb)
          refine VC.wpf_skip ?_
          refine VC.wpf_seq ?_
          refine VC.wpf_block ?_
          refine VC.wpf_seq ?_
          refine VC.wpf_region rfl ?_
          refine VC.wpL_op (VC.op_move (v := .int .u64 x48) a52_1 ?_)
          refine VC.wpL_op (VC.op_move (v := .slice p1a p1n p1c) a52_4 ?_)
          refine VC.wpL_op (VC.op_move (v := .int .i64 x49) a52_2 ?_)
          obtain ⟨b56, o57, rfl, H⟩ := H
          obtain ⟨c55, H⟩ := H
          refine VC.wpL_op (VC.op_indexAddr_slice rfl rfl ei_23 c55 ?_)
          obtain ⟨x59, c60, H⟩ := H
          refine VC.wpL_op (VC.op_load1 rfl ag_5 c60 ?_)
          refine VC.wpL_op (VC.op_conv rfl (congrArg (Option.map fun _ => ()) un_5) un_29 rfl ?_)
          refine VC.wpL_op (VC.op_add rfl rfl rfl ?_)
          refine VC.wpL_op (VC.op_assign (v := .int .u64 (IntKind.u64.wrap (x48 + (IntKind.u64.wrap x59)))) rfl ?_)
          refine VC.wpL_nil ?_
          refine VC.wpf_seq ?_
          refine VC.wpf_region rfl ?_
          refine VC.wpL_op (VC.op_move (v := .pointer x6) a52_5 ?_)
          refine VC.wpL_op (VC.op_move (v := .int .u64 (IntKind.u64.wrap (x48 + (IntKind.u64.wrap x59)))) rfl ?_)
          refine VC.wpL_op (VC.op_call (vs := [.pointer x6, .int .u64 (IntKind.u64.wrap (x48 + (IntKind.u64.wrap x59)))]) en_11 (VC.args_cons rfl (VC.args_cons rfl VC.args_nil)) (CallsH.mono H ?_))
          clear H
          rintro _ h62 ⟨x64a, x64n, x64c, x65, rfl, H⟩
          refine VC.wpL_op (VC.op_move (v := .tuple #[.slice x64a x64n x64c, .int .i64 x65]) rfl ?_)
          refine VC.wpL_op (VC.op_extract rfl rfl ?_)
          refine VC.wpL_op (VC.op_extract rfl rfl ?_)
          refine VC.wpL_op (VC.op_assign (v := .slice x64a x64n x64c) rfl ?_)
          refine VC.wpL_op (VC.op_assign (v := .int .i64 x65) rfl ?_)
          refine VC.wpL_nil ?_
          refine VC.wpf_seq ?_
          refine VC.wpf_seq ?_
          refine VC.wpf_region rfl ?_
          refine VC.wpL_op (VC.op_move (v := .int .i64 x65) rfl ?_)
          refine VC.wpL_op (VC.op_neq rfl rfl ?_)
          refine VC.wpL_nil ?_
          refine VC.wpf_cond (!decide (x65 = 0)) rfl ?_ ?_
          · intro hb
            replace H := H.1 (of_decide_eq_false (VC.of_not_true hb))
            refine VC.wpf_seq ?_
            refine VC.wpf_region rfl ?_
            refine VC.wpL_op (VC.op_assign (v := .bool false) rfl ?_)
            refine VC.wpL_nil ?_
            refine VC.wpf_ret ?_
            exact VC.ret_leaf (VC.resV_tmp rfl VC.resV_nil) H
          · intro hb
            replace H := H.2 (of_decide_eq_true (VC.of_not_false hb))
            refine VC.wpf_skip ?_
            refine VC.wpf_region rfl ?_
            refine VC.wpL_op (VC.op_move (v := .slice x47a x47n x47c) a52_0 ?_)
            refine VC.wpL_op (VC.op_move (v := .slice x64a x64n x64c) rfl ?_)
            obtain ⟨m67, ns68, c69, H⟩ := H
            refine VC.wpL_op (VC.op_append' (src := (Value.slice x64a x64n x64c)) (news := ns68) ri_32 (.inl ⟨_, un_32⟩) rfl rfl c69.1 c69.2 (VC.appH.mono H ?_))
            clear H
            intro a71 n72 q73 h74 H
            refine VC.wpL_op (VC.op_assign (v := .slice a71 n72 q73) rfl ?_)
            refine VC.wpL_nil ?_
            refine VC.wpf_region rfl ?_
            refine VC.wpL_op (VC.op_move (v := .int .i64 x49) a52_2 ?_)
            obtain ⟨c75, H⟩ := H
            refine VC.wpL_op (VC.op_add rfl rfl (VC.wrap_i64 c75) ?_)
            refine VC.wpL_op (VC.op_assign (v := .int .i64 (x49 + 1)) rfl ?_)
            refine VC.wpL_nil ?_
            exact And.intro (hin52 _ _ _ _ _ _ _ rfl rfl rfl a52_3 a52_4 a52_5 a52_6 H.1) (lt_of (hmu52 _ _ _ _ _ _ _ rfl rfl rfl) (hmu52 _ _ _ _ _ _ _ a52_0 a52_1 a52_2) H.2)
        · intro hb
          replace H := H.2 (of_decide_eq_false hb)
          refine VC.wpf_exit ?_
          refine VC.wpf_seq ?_
          refine VC.wpf_region rfl ?_
          refine VC.wpL_op (VC.op_move (v := .pointer x6) a52_5 ?_)
          refine VC.wpL_op (VC.op_call (vs := [.pointer x6, .int .u64 100000]) en_11 (VC.args_cons rfl (VC.args_cons rfl VC.args_nil)) (CallsH.mono H ?_))
          clear H
          rintro _ h76 ⟨x78a, x78n, x78c, x79, rfl, H⟩
          refine VC.wpL_op (VC.op_move (v := .tuple #[.slice x78a x78n x78c, .int .i64 x79]) rfl ?_)
          refine VC.wpL_op (VC.op_extract rfl rfl ?_)
          refine VC.wpL_op (VC.op_extract rfl rfl ?_)
          refine VC.wpL_op (VC.op_assign (v := .slice x78a x78n x78c) rfl ?_)
          refine VC.wpL_op (VC.op_assign (v := .int .i64 x79) rfl ?_)
          refine VC.wpL_nil ?_
          refine VC.wpf_seq ?_
          refine VC.wpf_region rfl ?_
          refine VC.wpL_op (VC.op_move (v := .pointer x10) a52_6 ?_)
          refine VC.wpL_op (VC.op_call (vs := [.pointer x10, .int .u64 100000]) en_11 (VC.args_cons rfl (VC.args_cons rfl VC.args_nil)) (CallsH.mono H ?_))
          clear H
          rintro _ h80 ⟨x82a, x82n, x82c, x83, rfl, H⟩
          refine VC.wpL_op (VC.op_move (v := .tuple #[.slice x82a x82n x82c, .int .i64 x83]) rfl ?_)
          refine VC.wpL_op (VC.op_extract rfl rfl ?_)
          refine VC.wpL_op (VC.op_extract rfl rfl ?_)
          refine VC.wpL_op (VC.op_assign (v := .slice x82a x82n x82c) rfl ?_)
          refine VC.wpL_op (VC.op_assign (v := .int .i64 x83) rfl ?_)
          refine VC.wpL_nil ?_
          refine VC.wpf_seq ?_
          refine VC.wpf_region rfl ?_
          refine VC.wpL_op (VC.op_move (v := .slice x47a x47n x47c) a52_0 ?_)
          refine VC.wpL_op (VC.op_move (v := .slice x78a x78n x78c) rfl ?_)
          obtain ⟨m84, ns85, c86, H⟩ := H
          refine VC.wpL_op (VC.op_append' (src := (Value.slice x78a x78n x78c)) (news := ns85) ri_32 (.inl ⟨_, un_32⟩) rfl rfl c86.1 c86.2 (VC.appH.mono H ?_))
          clear H
          intro a88 n89 q90 h91 H
          refine VC.wpL_op (VC.op_assign (v := .slice a88 n89 q90) rfl ?_)
          refine VC.wpL_nil ?_
          refine VC.wpf_seq ?_
          refine VC.wpf_seq ?_
          refine VC.wpf_region rfl ?_
          refine VC.wpL_op (VC.op_move (v := .int .i64 x79) rfl ?_)
          refine VC.wpL_op (VC.op_neq rfl rfl ?_)
          refine VC.wpL_op (VC.op_move (v := .bool (!decide (x79 = 0))) rfl ?_)
          refine VC.wpL_gq (b := !(!decide (x79 = 0))) (VC.guard_slot rfl rfl) (Value.int .i64 x83) (fun hb N hN => VC.op_move (v := .int .i64 x83) rfl hN) ?_
          refine VC.wpL_gq (b := !(!decide (x79 = 0))) (VC.guard_slot rfl rfl) (Value.bool (!decide (x83 = 0))) (fun hb N hN => VC.op_neq (VC.gv hb) rfl hN) ?_
          refine VC.wpL_op (VC.op_pick_or rfl rfl (fun hq => (VC.gv (VC.not_of_false hq))) ?_)
          refine VC.wpL_op (VC.op_move (v := .bool ((!decide (x79 = 0)) || (!decide (x83 = 0)))) rfl ?_)
          refine VC.wpL_gq (b := !((!decide (x79 = 0)) || (!decide (x83 = 0)))) (VC.guard_slot rfl rfl) (Value.slice a88 n89 q90) (fun hb N hN => VC.op_move (v := .slice a88 n89 q90) rfl hN) ?_
          refine VC.wpL_gq (b := !((!decide (x79 = 0)) || (!decide (x83 = 0)))) (VC.guard_slot rfl rfl) (Value.int .i64 (n89 : Int)) (fun hb N hN => VC.op_len_slice (VC.gv hb) un_32 hN) ?_
          refine VC.wpL_gq (b := !((!decide (x79 = 0)) || (!decide (x83 = 0)))) (VC.guard_slot rfl rfl) (Value.slice x82a x82n x82c) (fun hb N hN => VC.op_move (v := .slice x82a x82n x82c) rfl hN) ?_
          refine VC.wpL_gq (b := !((!decide (x79 = 0)) || (!decide (x83 = 0)))) (VC.guard_slot rfl rfl) (Value.int .i64 (x82n : Int)) (fun hb N hN => VC.op_len_slice (VC.gv hb) un_32 hN) ?_
          refine VC.wpL_gq (b := !((!decide (x79 = 0)) || (!decide (x83 = 0)))) (VC.guard_slot rfl rfl) (Value.bool (!decide ((n89 : Int) = (x82n : Int)))) (fun hb N hN => VC.op_neq (VC.gv hb) (VC.gv hb) hN) ?_
          refine VC.wpL_op (VC.op_pick_or rfl rfl (fun hq => (VC.gv (VC.not_of_false hq))) ?_)
          refine VC.wpL_op (VC.op_move (v := .bool (((!decide (x79 = 0)) || (!decide (x83 = 0))) || (!decide ((n89 : Int) = (x82n : Int))))) rfl ?_)
          refine VC.wpL_gq (b := !(((!decide (x79 = 0)) || (!decide (x83 = 0))) || (!decide ((n89 : Int) = (x82n : Int))))) (VC.guard_slot rfl rfl) (Value.slice x82a x82n x82c) (fun hb N hN => VC.op_move (v := .slice x82a x82n x82c) rfl hN) ?_
          refine VC.wpL_gq (b := !(((!decide (x79 = 0)) || (!decide (x83 = 0))) || (!decide ((n89 : Int) = (x82n : Int))))) (VC.guard_slot rfl rfl) (Value.int .i64 (x82n : Int)) (fun hb N hN => VC.op_len_slice (VC.gv hb) un_32 hN) ?_
          refine VC.wpL_gq (b := !(((!decide (x79 = 0)) || (!decide (x83 = 0))) || (!decide ((n89 : Int) = (x82n : Int))))) (VC.guard_slot rfl rfl) (Value.slice p0a p0n p0c) (fun hb N hN => VC.op_move (v := .slice p0a p0n p0c) a52_3 hN) ?_
          refine VC.wpL_gq (b := !(((!decide (x79 = 0)) || (!decide (x83 = 0))) || (!decide ((n89 : Int) = (x82n : Int))))) (VC.guard_slot rfl rfl) (Value.int .i64 (p0n : Int)) (fun hb N hN => VC.op_len_slice (VC.gv hb) un_22 hN) ?_
          refine VC.wpL_gq (b := !(((!decide (x79 = 0)) || (!decide (x83 = 0))) || (!decide ((n89 : Int) = (x82n : Int))))) (VC.guard_slot rfl rfl) (Value.bool (!decide ((x82n : Int) = (p0n : Int)))) (fun hb N hN => VC.op_neq (VC.gv hb) (VC.gv hb) hN) ?_
          refine VC.wpL_op (VC.op_pick_or rfl rfl (fun hq => (VC.gv (VC.not_of_false hq))) ?_)
          refine VC.wpL_nil ?_
          refine VC.wpf_cond ((((!decide (x79 = 0)) || (!decide (x83 = 0))) || (!decide ((n89 : Int) = (x82n : Int)))) || (!decide ((x82n : Int) = (p0n : Int)))) rfl ?_ ?_
          · intro hb
            replace H := H.1 hb
            refine VC.wpf_seq ?_
            refine VC.wpf_region rfl ?_
            refine VC.wpL_op (VC.op_assign (v := .bool false) rfl ?_)
            refine VC.wpL_nil ?_
            refine VC.wpf_ret ?_
            exact VC.ret_leaf (VC.resV_tmp rfl VC.resV_nil) H
          · intro hb
            replace H := H.2 hb
            refine VC.wpf_skip ?_
            refine VC.wpf_seq ?_
            refine VC.wpf_seq ?_
            refine VC.wpf_region rfl ?_
            refine VC.wpL_op (VC.op_assign (v := .int .i64 0) rfl ?_)
            refine VC.wpL_nil ?_
            refine VC.wpf_block ?_
            obtain ⟨I97, mu98, hI, H⟩ := H
            obtain ⟨I99, mu99, hin99, hout99, hmu99⟩ : ∃ (J99 : VC.Fr → Heap → Prop) (m : VC.Fr → Heap → Nat), (∀ f hz (x96 : Int), f 19 = .int .i64 x96 → f 10 = .slice a88 n89 q90 → f 17 = .slice x82a x82n x82c → I97 x96 hz → J99 f hz) ∧ (∀ f hz, J99 f hz → ∃ (x96 : Int), f 19 = .int .i64 x96 ∧ f 10 = .slice a88 n89 q90 ∧ f 17 = .slice x82a x82n x82c ∧ I97 x96 hz) ∧ (∀ f hz (x96 : Int), f 19 = .int .i64 x96 → m f hz = mu98 x96 hz) := ⟨fun f hz => ∃ (x96 : Int), f 19 = .int .i64 x96 ∧ f 10 = .slice a88 n89 q90 ∧ f 17 = .slice x82a x82n x82c ∧ I97 x96 hz, fun f hz => mu98 (VC.dInt (f 19)) hz, fun _ _ x96 a0 a1 a2 z => ⟨x96, a0, a1, a2, z⟩, fun _ _ hz => hz, fun f hz x96 a0 => by simp only [a0]; rfl⟩
            refine VC.wpf_loop I99 mu99 (hin99 _ _ _ rfl rfl rfl hI) ?_
            clear hI
            intro f h100 hf
            obtain ⟨x96, a99_0, a99_1, a99_2, hJ⟩ := hout99 _ _ hf
            replace H := H x96 h100 hJ
            refine VC.wpf_seq ?_
            refine VC.wpf_seq ?_
            refine VC.wpf_region rfl ?_
            refine VC.wpL_op (VC.op_move (v := .int .i64 x96) a99_0 ?_)
            refine VC.wpL_op (VC.op_move (v := .slice x82a x82n x82c) a99_2 ?_)
            refine VC.wpL_op (VC.op_len_slice rfl un_32 ?_)
            refine VC.wpL_op (VC.op_lss rfl rfl ?_)
            refine VC.wpL_nil ?_
            refine VC.wpf_cond (decide (x96 < (x82n : Int))) rfl ?_ ?_
            · intro hb
              replace H := H.1 (of_decide_eq_true hb)
              refine VC.wpf_skip ?_
              refine VC.wpf_seq ?_
              refine VC.wpf_block ?_
              refine VC.wpf_seq ?_
              obtain ⟨b103, o104, rfl, H⟩ := H
              obtain ⟨c102, H⟩ := H
              obtain ⟨x106_0, x106_1, x106_2, c107, H⟩ := H
              obtain ⟨b109, o110, rfl, H⟩ := H
              obtain ⟨c108, H⟩ := H
              obtain ⟨x112_0, x112_1, x112_2, c113, H⟩ := H
              refine VC.wpf_draw cert_linchpinlaw19_LifeSteps_30 0 [(Value.slice (some ⟨b103, o104, none⟩) n89 q90), (Value.int .i64 x96), (Value.pointer (some ⟨b103, o104 + x96.toNat * 3, none⟩)), (Value.agg #[.int .i64 x106_0, .int .i64 x106_1, .int .i64 x106_2]), (Value.slice (some ⟨b109, o110, none⟩) x82n x82c), (Value.int .i64 x96), (Value.pointer (some ⟨b109, o110 + x96.toNat * 3, none⟩)), (Value.agg #[.int .i64 x112_0, .int .i64 x112_1, .int .i64 x112_2]), (Value.bool (!((decide (x106_0 = x112_0)) && ((decide (x106_1 = x112_1)) && ((decide (x106_2 = x112_2)) && true)))))] (by kernel_rfl) rfl mixed_PR ?_
              refine VC.plan_done rfl (VC.quiet_of [0, 1, 2, 3, 4, 5, 6, 7, 8] rfl ⟨VC.stepAt_of rfl rfl (VC.op_move (v := .slice (some ⟨b103, o104, none⟩) n89 q90) a99_1 ⟨rfl, rfl⟩), VC.stepAt_of rfl rfl (VC.op_move (v := .int .i64 x96) a99_0 ⟨rfl, rfl⟩), VC.stepAt_of rfl rfl (VC.op_indexAddr_slice rfl rfl ei_32 c102 ⟨rfl, rfl⟩), VC.stepAt_of rfl rfl (VC.op_loadN rfl ag_36 c107 ⟨rfl, rfl⟩), VC.stepAt_of rfl rfl (VC.op_move (v := .slice (some ⟨b109, o110, none⟩) x82n x82c) a99_2 ⟨rfl, rfl⟩), VC.stepAt_of rfl rfl (VC.op_move (v := .int .i64 x96) a99_0 ⟨rfl, rfl⟩), VC.stepAt_of rfl rfl (VC.op_indexAddr_slice rfl rfl ei_32 c108 ⟨rfl, rfl⟩), VC.stepAt_of rfl rfl (VC.op_loadN rfl ag_36 c113 ⟨rfl, rfl⟩), VC.stepAt_of rfl rfl (VC.op_nes (a := [.int .i64 x106_0, .int .i64 x106_1, .int .i64 x106_2]) (b := [.int .i64 x112_0, .int .i64 x112_1, .int .i64 x112_2]) rfl rfl eg_36 (VC.eq_of_plan eqp_36 fun w => (VC.eqRun_int w un_3 ag_3 rfl rfl (VC.eqRun_int w un_3 ag_3 rfl rfl (VC.eqRun_int w un_3 ag_3 rfl rfl (VC.eqRun_nil w))))) ⟨rfl, rfl⟩), trivial⟩) rfl ?_
              refine VC.wpf_cond (!((decide (x106_0 = x112_0)) && ((decide (x106_1 = x112_1)) && ((decide (x106_2 = x112_2)) && true)))) rfl ?_ ?_
              · intro hb
                replace H := H.1 (VC.of_not_true hb)
                refine VC.wpf_seq ?_
                refine VC.wpf_region rfl ?_
                refine VC.wpL_op (VC.op_assign (v := .bool false) rfl ?_)
                refine VC.wpL_nil ?_
                refine VC.wpf_ret ?_
                exact VC.ret_leaf (VC.resV_tmp rfl VC.resV_nil) H
              · intro hb
                replace H := H.2 (VC.of_not_false hb)
                refine VC.wpf_skip ?_
                refine VC.wpf_region rfl ?_
                refine VC.wpL_op (VC.op_move (v := .int .i64 x96) a99_0 ?_)
                obtain ⟨c115, H⟩ := H
                refine VC.wpL_op (VC.op_add rfl rfl (VC.wrap_i64 c115) ?_)
                refine VC.wpL_op (VC.op_assign (v := .int .i64 (x96 + 1)) rfl ?_)
                refine VC.wpL_nil ?_
                exact And.intro (hin99 _ _ _ rfl a99_1 a99_2 H.1) (lt_of (hmu99 _ _ _ rfl) (hmu99 _ _ _ a99_0) H.2)
            · intro hb
              replace H := H.2 (of_decide_eq_false hb)
              refine VC.wpf_exit ?_
              refine VC.wpf_seq ?_
              refine VC.wpf_region rfl ?_
              refine VC.wpL_op (VC.op_assign (v := .bool true) rfl ?_)
              refine VC.wpL_nil ?_
              refine VC.wpf_ret ?_
              exact VC.ret_leaf (VC.resV_tmp rfl VC.resV_nil) H

/-- linchpinlaw19.LifeOnce -/
def F_linchpinlaw19_LifeOnce (p0 : Int) (p1a : Option Addr) (p1n : Nat) (p1c : Nat) (K : Bool → Heap → Prop) (h : Heap) : Prop :=
  CallsH PR fn_linchpinlaw19_awake #[] h (fun v h1 => ∃ (x3 : Bool), v = (Value.bool x3) ∧ (x3 = false → K false h1) ∧ (x3 = true → CallsH PR fn_life_New #[.int .u64 (IntKind.u64.wrap (1 + ((IntKind.u64.wrap p0).tmod 20)))] h1 (fun v h6 => ∃ (x8 : Option Addr) (x9 : Int), v = (Value.tuple #[.pointer x8, .int .i64 x9]) ∧ ((x8.isNone || (!decide (x9 = 0))) = true → K false h6) ∧ ((x8.isNone || (!decide (x9 = 0))) = false → (20 ≤ 20 ∧ 8 * 20 ≤ 281474976710656 ∧ 20 ≤ 9223372036854775807) ∧ ∀ (h12 : Heap), h12 = h6.push (.cells (madeCells ((Value.int .u64 0)).cells (20 * 1)) 29 (0, 0)) → ∃ (I18 : Int → Int → Int → Heap → Prop) (mu19 : Int → Int → Int → Heap → Nat), I18 0 0 0 h12 ∧ ∀ (x15 : Int) (x16 : Int) (x17 : Int) (h21 : Heap), I18 x15 x16 x17 h21 → (((decide (x17 < (p1n : Int))) && (decide (x17 < 150))) = true → ∃ (b25 : Nat) (o26 : Nat), p1a = some ⟨b25, o26, none⟩ ∧ (0 ≤ x17 ∧ x17 < (p1n : Int)) ∧ ∃ (x28_0 : Int) (x28_1 : Int) (x28_2 : Int) (x28_3 : Int), ldCells h21 b25 (o26 + x17.toNat * 4) 4 = some [.int .i64 x28_0, .int .i64 x28_1, .int .u64 x28_2, .int .i64 x28_3] ∧ ∀ (h30 : Heap), h30 = h21.push (.cells #[.int .i64 0, .int .i64 0, .int .u64 0, .int .i64 0] 41 (0, 0)) → ∃ (h33 : Heap), stCells h21.size h30 0 [.int .i64 x28_0, .int .i64 x28_1, .int .u64 x28_2, .int .i64 x28_3] = some h33 ∧ ∃ (x34 : Int), cellH h33 h21.size 1 = some (.int .i64 x34) ∧ ∃ J38 : Int → Heap → Prop, (∀ (x37 : Int) (h40 : Heap), J38 x37 h40 → ∃ J43 : Int → Int → Heap → Prop, (∀ (x41 : Int) (x42 : Int) (h45 : Heap), J43 x41 x42 h45 → CallsH PR fn_life_Book_Go #[.pointer x8, .int .u64 x41] h45 (fun v h46 => ∃ (x48a : Option Addr) (x48n : Nat) (x48c : Nat) (x49 : Int), v = (Value.tuple #[.slice x48a x48n x48c, .int .i64 x49]) ∧ ((¬ (x49 = 0)) → K false h46) ∧ (x49 = 0 → ∃ (I53 : Int → Int → Heap → Prop) (mu54 : Int → Int → Heap → Nat), I53 x42 0 h46 ∧ ∀ (x51 : Int) (x52 : Int) (h56 : Heap), I53 x51 x52 h56 → (x52 < (x48n : Int) → ∃ (b59 : Nat) (o60 : Nat), x48a = some ⟨b59, o60, none⟩ ∧ (0 ≤ x52 ∧ x52 < (x48n : Int)) ∧ ∃ (x62 : Int), cellH h56 b59 (o60 + x52.toNat * 3) = some (.int .i64 x62) ∧ ((((decide (x62 < 0)) || (decide (20 ≤ x62))) = false) → 0 ≤ x62 ∧ x62 < 20) ∧ ∃ (x67 : Int), ((((decide (x62 < 0)) || (decide (20 ≤ x62))) = false) → cellH h56 h6.size (0 + x62.toNat * 1) = some (.int .u64 x67)) ∧ (((((decide (x62 < 0)) || (decide (20 ≤ x62))) || (decide (x67 = 0))) = false) → 0 ≤ x62 ∧ x62 < 20) ∧ ∃ (x71 : Int), (((((decide (x62 < 0)) || (decide (20 ≤ x62))) || (decide (x67 = 0))) = false) → cellH h56 h6.size (0 + x62.toNat * 1) = some (.int .u64 x71)) ∧ ((((((decide (x62 < 0)) || (decide (20 ≤ x62))) || (decide (x67 = 0))) || (decide ((IntKind.u64.wrap (x71 - (IntKind.u64.wrap (1 + ((IntKind.u64.wrap p0).tmod 20))))) < x41))) = false) → 0 ≤ x52 ∧ x52 < (x48n : Int)) ∧ ∃ (x76 : Int), ((((((decide (x62 < 0)) || (decide (20 ≤ x62))) || (decide (x67 = 0))) || (decide ((IntKind.u64.wrap (x71 - (IntKind.u64.wrap (1 + ((IntKind.u64.wrap p0).tmod 20))))) < x41))) = false) → cellH h56 b59 (o60 + x52.toNat * 3 + 1) = some (.int .i64 x76)) ∧ ((((!((((decide (x62 < 0)) || (decide (20 ≤ x62))) || (decide (x67 = 0))) || (decide ((IntKind.u64.wrap (x71 - (IntKind.u64.wrap (1 + ((IntKind.u64.wrap p0).tmod 20))))) < x41)))) && (decide (x76 = 2))) = true) → 0 ≤ x52 ∧ x52 < (x48n : Int)) ∧ ∃ (x80 : Int), ((((!((((decide (x62 < 0)) || (decide (20 ≤ x62))) || (decide (x67 = 0))) || (decide ((IntKind.u64.wrap (x71 - (IntKind.u64.wrap (1 + ((IntKind.u64.wrap p0).tmod 20))))) < x41)))) && (decide (x76 = 2))) = true) → cellH h56 b59 (o60 + x52.toNat * 3 + 2) = some (.int .i64 x80)) ∧ ((((!((((decide (x62 < 0)) || (decide (20 ≤ x62))) || (decide (x67 = 0))) || (decide ((IntKind.u64.wrap (x71 - (IntKind.u64.wrap (1 + ((IntKind.u64.wrap p0).tmod 20))))) < x41)))) && ((decide (x76 = 2)) && (decide (x80 = 1)))) = true) → 0 ≤ x62 ∧ x62 < 20) ∧ ∃ (x84 : Int), ((((!((((decide (x62 < 0)) || (decide (20 ≤ x62))) || (decide (x67 = 0))) || (decide ((IntKind.u64.wrap (x71 - (IntKind.u64.wrap (1 + ((IntKind.u64.wrap p0).tmod 20))))) < x41)))) && ((decide (x76 = 2)) && (decide (x80 = 1)))) = true) → cellH h56 h6.size (0 + x62.toNat * 1) = some (.int .u64 x84)) ∧ ((((((decide (x62 < 0)) || (decide (20 ≤ x62))) || (decide (x67 = 0))) || (decide ((IntKind.u64.wrap (x71 - (IntKind.u64.wrap (1 + ((IntKind.u64.wrap p0).tmod 20))))) < x41))) || (((decide (x76 = 2)) && (decide (x80 = 1))) && (!decide (x41 = (IntKind.u64.wrap (x84 - (IntKind.u64.wrap (1 + ((IntKind.u64.wrap p0).tmod 20))))))))) = true → K false h56) ∧ ((((((decide (x62 < 0)) || (decide (20 ≤ x62))) || (decide (x67 = 0))) || (decide ((IntKind.u64.wrap (x71 - (IntKind.u64.wrap (1 + ((IntKind.u64.wrap p0).tmod 20))))) < x41))) || (((decide (x76 = 2)) && (decide (x80 = 1))) && (!decide (x41 = (IntKind.u64.wrap (x84 - (IntKind.u64.wrap (1 + ((IntKind.u64.wrap p0).tmod 20))))))))) = false → (0 ≤ x62 ∧ x62 < 20) ∧ ∃ (h90 : Heap), stCells h6.size h56 (0 + x62.toNat * 1) [.int .u64 0] = some h90 ∧ (-9223372036854775808 ≤ x51 - 1 ∧ x51 - 1 < 9223372036854775808) ∧ (-9223372036854775808 ≤ x52 + 1 ∧ x52 + 1 < 9223372036854775808) ∧ (I53 (x51 - 1) (x52 + 1) h90 ∧ mu54 (x51 - 1) (x52 + 1) h90 < mu54 x51 x52 h56))) ∧ ((¬ (x52 < (x48n : Int))) → ∃ (I94 : Int → Heap → Prop) (mu95 : Int → Heap → Nat), I94 0 h56 ∧ ∀ (x93 : Int) (h97 : Heap), I94 x93 h97 → (x93 < 20 → (0 ≤ x93 ∧ x93 < 20) ∧ ∃ (x100 : Int), cellH h97 h6.size (0 + x93.toNat * 1) = some (.int .u64 x100) ∧ ((¬ (x100 = 0)) → 0 ≤ x93 ∧ x93 < 20) ∧ ∃ (x104 : Int), ((¬ (x100 = 0)) → cellH h97 h6.size (0 + x93.toNat * 1) = some (.int .u64 x104)) ∧ (((!decide (x100 = 0)) && (decide ((IntKind.u64.wrap (x104 - (IntKind.u64.wrap (1 + ((IntKind.u64.wrap p0).tmod 20))))) ≤ x41))) = true → K false h97) ∧ (((!decide (x100 = 0)) && (decide ((IntKind.u64.wrap (x104 - (IntKind.u64.wrap (1 + ((IntKind.u64.wrap p0).tmod 20))))) ≤ x41))) = false → (-9223372036854775808 ≤ x93 + 1 ∧ x93 + 1 < 9223372036854775808) ∧ (I94 (x93 + 1) h97 ∧ mu95 (x93 + 1) h97 < mu95 x93 h97))) ∧ ((¬ (x93 < 20)) → (-9223372036854775808 ≤ x17 + 1 ∧ x17 + 1 < 9223372036854775808) ∧ (I18 x41 x51 (x17 + 1) h97 ∧ mu19 x41 x51 (x17 + 1) h97 < mu19 x15 x16 x17 h21)))))) ∧ ∃ (x110 : Int), cellH h40 h21.size 0 = some (.int .i64 x110) ∧ (x110 = 0 → ∃ (x114 : Int), cellH h40 h21.size 2 = some (.int .u64 x114) ∧ CallsH PR fn_life_Book_Open #[.pointer x8, .int .i64 x37, .int .u64 (IntKind.u64.wrap ((IntKind.u64.wrap (x15 + 1)) + (x114.tmod 60)))] h40 (fun v h118 => ∃ (x120 : Int), v = (Value.int .i64 x120) ∧ (0 ≤ x37 ∧ x37 < 20) ∧ ∃ (x123 : Int), cellH h118 h6.size (0 + x37.toNat * 1) = some (.int .u64 x123) ∧ ((¬ ((decide (x120 = 0)) = ((decide (x123 = 0)) && (decide ((IntKind.u64.wrap (x15 + (IntKind.u64.wrap (1 + ((IntKind.u64.wrap p0).tmod 20))))) < (IntKind.u64.wrap ((IntKind.u64.wrap (x15 + 1)) + (x114.tmod 60)))))))) → K false h118) ∧ ((decide (x120 = 0)) = ((decide (x123 = 0)) && (decide ((IntKind.u64.wrap (x15 + (IntKind.u64.wrap (1 + ((IntKind.u64.wrap p0).tmod 20))))) < (IntKind.u64.wrap ((IntKind.u64.wrap (x15 + 1)) + (x114.tmod 60)))))) → (x120 = 0 → (0 ≤ x37 ∧ x37 < 20) ∧ ∃ (h132 : Heap), stCells h6.size h118 (0 + x37.toNat * 1) [.int .u64 (IntKind.u64.wrap ((IntKind.u64.wrap (x15 + 1)) + (x114.tmod 60)))] = some h132 ∧ (-9223372036854775808 ≤ x16 + 1 ∧ x16 + 1 < 9223372036854775808) ∧ J43 x15 (x16 + 1) h132) ∧ ((¬ (x120 = 0)) → J43 x15 x16 h118)))) ∧ ((¬ (x110 = 0)) → ∃ J135 : Bool → Heap → Prop, (∀ (x134 : Bool) (h137 : Heap), J135 x134 h137 → (x134 = true → ∃ (x138 : Int), cellH h137 h21.size 0 = some (.int .i64 x138) ∧ CallsH PR fn_life_Book_Answer #[.pointer x8, .int .i64 x37, .int .i64 5, .bool (decide (x138 = 2))] h137 (fun v h141 => ∃ (x143 : Int), v = (Value.int .i64 x143) ∧ J43 x15 x16 h141)) ∧ (x134 = false → (x110 = 3 → CallsH PR fn_life_Book_Cancel #[.pointer x8, .int .i64 x37] h137 (fun v h145 => ∃ (x147 : Int), v = (Value.int .i64 x147) ∧ J43 x15 x16 h145)) ∧ ((¬ (x110 = 3)) → J43 (IntKind.u64.wrap (x15 + 1)) x16 h137))) ∧ (x110 = 1 → J135 (decide (x110 = 1)) h40) ∧ ((¬ (x110 = 1)) → J135 (decide (x110 = 2)) h40))) ∧ ((x34.tmod 20) < 0 → J38 (IntKind.i64.wrap (0 - (x34.tmod 20))) h33) ∧ ((¬ ((x34.tmod 20) < 0)) → J38 (x34.tmod 20) h33)) ∧ (((decide (x17 < (p1n : Int))) && (decide (x17 < 150))) = false → CallsH PR fn_life_Book_Go #[.pointer x8, .int .u64 (IntKind.u64.wrap (x15 + 1000))] h21 (fun v h153 => ∃ (x155a : Option Addr) (x155n : Nat) (x155c : Nat) (x156 : Int), v = (Value.tuple #[.slice x155a x155n x155c, .int .i64 x156]) ∧ ∃ J162 : Int → Heap → Prop, (∀ (x161 : Int) (h159 : Heap), J162 x161 h159 → K (((decide (x156 = 0)) && (decide ((x155n : Int) = x16))) && (decide (x161 = 0))) h159) ∧ ((((decide (x156 = 0)) && (decide ((x155n : Int) = x16))) = true) → CallsH PR fn_life_Book_Count #[.pointer x8] h153 (fun v h159 => ∃ (x161 : Int), v = (Value.int .i64 x161) ∧ J162 x161 h159)) ∧ ((((decide (x156 = 0)) && (decide ((x155n : Int) = x16))) = false) → ∃ (x161 : Int), J162 x161 h153)))))))
theorem F_linchpinlaw19_LifeOnce_ok (p0 : Int) (p1a : Option Addr) (p1n : Nat) (p1c : Nat) (R : Value → Heap → Prop) (h : Heap) (H : F_linchpinlaw19_LifeOnce p0 p1a p1n p1c (fun r0 h' => R (Value.bool r0) h') h) : CallsH PR fn_linchpinlaw19_LifeOnce #[.int .u8 p0, .slice p1a p1n p1c] h R := by
  refine VC.callsH_of (args := [.int .u8 p0, .slice p1a p1n p1c]) Try.func4 rfl rfl ?_
  intro f hf
  have e0 := hf 0 _ rfl
  have e1 := hf 1 _ rfl
  clear hf
  unfold F_linchpinlaw19_LifeOnce at H
  refine VC.wpf_seq ?_
  refine VC.wpf_region rfl ?_
  refine VC.wpL_op (VC.op_assign (v := .bool false) rfl ?_)
  refine VC.wpL_nil ?_
  refine VC.wpf_seq ?_
  refine VC.wpf_seq ?_
  refine VC.wpf_region rfl ?_
  refine VC.wpL_op (VC.op_call (vs := []) en_8 VC.args_nil (CallsH.mono H ?_))
  clear H
  rintro _ h1 ⟨x3, rfl, H⟩
  refine VC.wpL_op (VC.op_not rfl ?_)
  refine VC.wpL_nil ?_
  refine VC.wpf_cond (!x3) rfl ?_ ?_
  · intro hb
    replace H := H.1 (VC.of_not_true hb)
    refine VC.wpf_seq ?_
    refine VC.wpf_region rfl ?_
    refine VC.wpL_op (VC.op_assign (v := .bool false) rfl ?_)
    refine VC.wpL_nil ?_
    refine VC.wpf_ret ?_
    exact VC.ret_leaf (VC.resV_tmp rfl VC.resV_nil) H
  · intro hb
    replace H := H.2 (VC.of_not_false hb)
    refine VC.wpf_skip ?_
    refine VC.wpf_seq ?_
    refine VC.wpf_region rfl ?_
    refine VC.wpL_op (VC.op_move (v := .int .u8 p0) e0 ?_)
    refine VC.wpL_op (VC.op_conv rfl (congrArg (Option.map fun _ => ()) un_5) un_29 rfl ?_)
    refine VC.wpL_op (VC.op_rem rfl rfl (by decide) rfl ?_)
    refine VC.wpL_op (VC.op_add rfl rfl rfl ?_)
    refine VC.wpL_op (VC.op_assign (v := .int .u64 (IntKind.u64.wrap (1 + ((IntKind.u64.wrap p0).tmod 20)))) rfl ?_)
    refine VC.wpL_nil ?_
    refine VC.wpf_seq ?_
    refine VC.wpf_region rfl ?_
    refine VC.wpL_op (VC.op_move (v := .int .u64 (IntKind.u64.wrap (1 + ((IntKind.u64.wrap p0).tmod 20)))) rfl ?_)
    refine VC.wpL_op (VC.op_call (vs := [.int .u64 (IntKind.u64.wrap (1 + ((IntKind.u64.wrap p0).tmod 20)))]) en_9 (VC.args_cons rfl VC.args_nil) (CallsH.mono H ?_))
    clear H
    rintro _ h6 ⟨x8, x9, rfl, H⟩
    refine VC.wpL_op (VC.op_move (v := .tuple #[.pointer x8, .int .i64 x9]) rfl ?_)
    refine VC.wpL_op (VC.op_extract rfl rfl ?_)
    refine VC.wpL_op (VC.op_extract rfl rfl ?_)
    refine VC.wpL_op (VC.op_assign (v := .pointer x8) rfl ?_)
    refine VC.wpL_op (VC.op_assign (v := .int .i64 x9) rfl ?_)
    refine VC.wpL_nil ?_
    refine VC.wpf_seq ?_
    refine VC.wpf_seq ?_
    refine VC.wpf_region rfl ?_
    refine VC.wpL_op (VC.op_move (v := .pointer x8) rfl ?_)
    refine VC.wpL_op (VC.op_eq_ptr_nil rfl rfl un_25 ?_)
    refine VC.wpL_op (VC.op_move (v := .bool x8.isNone) rfl ?_)
    refine VC.wpL_gq (b := !x8.isNone) (VC.guard_slot rfl rfl) (Value.int .i64 x9) (fun hb N hN => VC.op_move (v := .int .i64 x9) rfl hN) ?_
    refine VC.wpL_gq (b := !x8.isNone) (VC.guard_slot rfl rfl) (Value.bool (!decide (x9 = 0))) (fun hb N hN => VC.op_neq (VC.gv hb) rfl hN) ?_
    refine VC.wpL_op (VC.op_pick_or rfl rfl (fun hq => (VC.gv (VC.not_of_false hq))) ?_)
    refine VC.wpL_nil ?_
    refine VC.wpf_cond (x8.isNone || (!decide (x9 = 0))) rfl ?_ ?_
    · intro hb
      replace H := H.1 hb
      refine VC.wpf_seq ?_
      refine VC.wpf_region rfl ?_
      refine VC.wpL_op (VC.op_assign (v := .bool false) rfl ?_)
      refine VC.wpL_nil ?_
      refine VC.wpf_ret ?_
      exact VC.ret_leaf (VC.resV_tmp rfl VC.resV_nil) H
    · intro hb
      replace H := H.2 hb
      refine VC.wpf_skip ?_
      refine VC.wpf_seq ?_
      refine VC.wpf_region rfl ?_
      refine VC.wpL_op (VC.op_assign (v := .int .u64 0) rfl ?_)
      refine VC.wpL_nil ?_
      refine VC.wpf_seq ?_
      refine VC.wpf_region rfl ?_
      obtain ⟨c14, H⟩ := H
      obtain ⟨h12, c13⟩ : ∃ h12, h12 = h6.push (.cells (madeCells ((Value.int .u64 0)).cells (20 * 1)) 29 (0, 0)) := ⟨_, rfl⟩
      replace H := H h12 c13
      refine VC.wpL_op (VC.op_makeSlice ri_39 rfl rfl c14.1 c14.2.1 c14.2.2 c13 ?_)
      refine VC.wpL_op (VC.op_assign (v := .slice (some ⟨h6.size, 0, none⟩) 20 20) rfl ?_)
      refine VC.wpL_nil ?_
      refine VC.wpf_seq ?_
      refine VC.wpf_region rfl ?_
      refine VC.wpL_op (VC.op_assign (v := .int .i64 0) rfl ?_)
      refine VC.wpL_nil ?_
      refine VC.wpf_seq ?_
      refine VC.wpf_seq ?_
      refine VC.wpf_region rfl ?_
      refine VC.wpL_op (VC.op_assign (v := .int .i64 0) rfl ?_)
      refine VC.wpL_nil ?_
      refine VC.wpf_block ?_
      obtain ⟨I18, mu19, hI, H⟩ := H
      obtain ⟨I20, mu20, hin20, hout20, hmu20⟩ : ∃ (J20 : VC.Fr → Heap → Prop) (m : VC.Fr → Heap → Nat), (∀ f hz (x15 : Int) (x16 : Int) (x17 : Int), f 8 = .int .u64 x15 → f 10 = .int .i64 x16 → f 11 = .int .i64 x17 → f 1 = .slice p1a p1n p1c → f 5 = .int .u64 (IntKind.u64.wrap (1 + ((IntKind.u64.wrap p0).tmod 20))) → f 6 = .pointer x8 → f 9 = .slice (some ⟨h6.size, 0, none⟩) 20 20 → I18 x15 x16 x17 hz → J20 f hz) ∧ (∀ f hz, J20 f hz → ∃ (x15 : Int) (x16 : Int) (x17 : Int), f 8 = .int .u64 x15 ∧ f 10 = .int .i64 x16 ∧ f 11 = .int .i64 x17 ∧ f 1 = .slice p1a p1n p1c ∧ f 5 = .int .u64 (IntKind.u64.wrap (1 + ((IntKind.u64.wrap p0).tmod 20))) ∧ f 6 = .pointer x8 ∧ f 9 = .slice (some ⟨h6.size, 0, none⟩) 20 20 ∧ I18 x15 x16 x17 hz) ∧ (∀ f hz (x15 : Int) (x16 : Int) (x17 : Int), f 8 = .int .u64 x15 → f 10 = .int .i64 x16 → f 11 = .int .i64 x17 → m f hz = mu19 x15 x16 x17 hz) := ⟨fun f hz => ∃ (x15 : Int) (x16 : Int) (x17 : Int), f 8 = .int .u64 x15 ∧ f 10 = .int .i64 x16 ∧ f 11 = .int .i64 x17 ∧ f 1 = .slice p1a p1n p1c ∧ f 5 = .int .u64 (IntKind.u64.wrap (1 + ((IntKind.u64.wrap p0).tmod 20))) ∧ f 6 = .pointer x8 ∧ f 9 = .slice (some ⟨h6.size, 0, none⟩) 20 20 ∧ I18 x15 x16 x17 hz, fun f hz => mu19 (VC.dInt (f 8)) (VC.dInt (f 10)) (VC.dInt (f 11)) hz, fun _ _ x15 x16 x17 a0 a1 a2 a3 a4 a5 a6 z => ⟨x15, x16, x17, a0, a1, a2, a3, a4, a5, a6, z⟩, fun _ _ hz => hz, fun f hz x15 x16 x17 a0 a1 a2 => by simp only [a0, a1, a2]; rfl⟩
      refine VC.wpf_loop I20 mu20 (hin20 _ _ _ _ _ rfl rfl rfl e1 rfl rfl rfl hI) ?_
      clear hI
      intro f h21 hf
      obtain ⟨x15, x16, x17, a20_0, a20_1, a20_2, a20_3, a20_4, a20_5, a20_6, hJ⟩ := hout20 _ _ hf
      replace H := H x15 x16 x17 h21 hJ
      refine VC.wpf_seq ?_
      refine VC.wpf_seq ?_
      refine VC.wpf_region rfl ?_
      refine VC.wpL_op (VC.op_move (v := .int .i64 x17) a20_2 ?_)
      refine VC.wpL_op (VC.op_move (v := .slice p1a p1n p1c) a20_3 ?_)
      refine VC.wpL_op (VC.op_len_slice rfl un_38 ?_)
      refine VC.wpL_op (VC.op_lss rfl rfl ?_)
      refine VC.wpL_op (VC.op_move (v := .bool (decide (x17 < (p1n : Int)))) rfl ?_)
      refine VC.wpL_gq (b := decide (x17 < (p1n : Int))) (VC.guard_slot rfl rfl) (Value.int .i64 x17) (fun hb N hN => VC.op_move (v := .int .i64 x17) a20_2 hN) ?_
      refine VC.wpL_gq (b := decide (x17 < (p1n : Int))) (VC.guard_slot rfl rfl) (Value.bool (decide (x17 < 150))) (fun hb N hN => VC.op_lss (VC.gv hb) rfl hN) ?_
      refine VC.wpL_op (VC.op_pick_and rfl (fun hq => (VC.gv hq)) rfl ?_)
      refine VC.wpL_nil ?_
      refine VC.wpf_cond ((decide (x17 < (p1n : Int))) && (decide (x17 < 150))) rfl ?_ ?_
      · intro hb
        replace H := H.1 hb
        refine VC.wpf_skip ?_
        refine VC.wpf_seq ?_
        refine VC.wpf_block ?_
        refine VC.wpf_seq ?_
        refine VC.wpf_region rfl ?_
        refine VC.wpL_op (VC.op_move (v := .slice p1a p1n p1c) a20_3 ?_)
        refine VC.wpL_op (VC.op_move (v := .int .i64 x17) a20_2 ?_)
        obtain ⟨b25, o26, rfl, H⟩ := H
        obtain ⟨c24, H⟩ := H
        refine VC.wpL_op (VC.op_indexAddr_slice rfl rfl ei_38 c24 ?_)
        obtain ⟨x28_0, x28_1, x28_2, x28_3, c29, H⟩ := H
        refine VC.wpL_op (VC.op_loadN rfl ag_41 c29 ?_)
        obtain ⟨h30, c31⟩ : ∃ h30, h30 = h21.push (.cells #[.int .i64 0, .int .i64 0, .int .u64 0, .int .i64 0] 41 (0, 0)) := ⟨_, rfl⟩
        replace H := H h30 c31
        refine VC.wpL_op (VC.op_alloc z_41 c31 ?_)
        obtain ⟨h33, c32, H⟩ := H
        refine VC.wpL_op (VC.op_store (v := .agg #[.int .i64 x28_0, .int .i64 x28_1, .int .u64 x28_2, .int .i64 x28_3]) rfl rfl sz_41 rfl c32 ?_)
        refine VC.wpL_nil ?_
        refine VC.wpf_seq ?_
        refine VC.wpf_region rfl ?_
        refine VC.wpL_op (VC.op_fieldAddr rfl fo_41_1 ?_)
        obtain ⟨x34, c35, H⟩ := H
        refine VC.wpL_op (VC.op_load1 rfl ag_3 c35 ?_)
        refine VC.wpL_op (VC.op_rem rfl rfl (by decide) rfl ?_)
        refine VC.wpL_op (VC.op_assign (v := .int .i64 (x34.tmod 20)) rfl ?_)
        refine VC.wpL_nil ?_
        obtain ⟨J38, HR, H⟩ := H
        obtain ⟨J39, hin39, hout39⟩ : ∃ J39 : VC.Fr → Heap → Prop, (∀ f hz (x37 : Int), f 13 = .int .i64 x37 → f 1 = .slice (some ⟨b25, o26, none⟩) p1n p1c → f 5 = .int .u64 (IntKind.u64.wrap (1 + ((IntKind.u64.wrap p0).tmod 20))) → f 6 = .pointer x8 → f 8 = .int .u64 x15 → f 9 = .slice (some ⟨h6.size, 0, none⟩) 20 20 → f 10 = .int .i64 x16 → f 11 = .int .i64 x17 → f 12 = .pointer (some ⟨h21.size, 0, none⟩) → J38 x37 hz → J39 f hz) ∧ (∀ f hz, J39 f hz → ∃ (x37 : Int), f 13 = .int .i64 x37 ∧ f 1 = .slice (some ⟨b25, o26, none⟩) p1n p1c ∧ f 5 = .int .u64 (IntKind.u64.wrap (1 + ((IntKind.u64.wrap p0).tmod 20))) ∧ f 6 = .pointer x8 ∧ f 8 = .int .u64 x15 ∧ f 9 = .slice (some ⟨h6.size, 0, none⟩) 20 20 ∧ f 10 = .int .i64 x16 ∧ f 11 = .int .i64 x17 ∧ f 12 = .pointer (some ⟨h21.size, 0, none⟩) ∧ J38 x37 hz) := ⟨fun f hz => ∃ (x37 : Int), f 13 = .int .i64 x37 ∧ f 1 = .slice (some ⟨b25, o26, none⟩) p1n p1c ∧ f 5 = .int .u64 (IntKind.u64.wrap (1 + ((IntKind.u64.wrap p0).tmod 20))) ∧ f 6 = .pointer x8 ∧ f 8 = .int .u64 x15 ∧ f 9 = .slice (some ⟨h6.size, 0, none⟩) 20 20 ∧ f 10 = .int .i64 x16 ∧ f 11 = .int .i64 x17 ∧ f 12 = .pointer (some ⟨h21.size, 0, none⟩) ∧ J38 x37 hz, fun _ _ x37 a0 a1 a2 a3 a4 a5 a6 a7 a8 z => ⟨x37, a0, a1, a2, a3, a4, a5, a6, a7, a8, z⟩, fun _ _ hz => hz⟩
        refine VC.wpf_seq_cut J39 ?_ ?_
        · skip
          refine VC.wpf_seq ?_
          refine VC.wpf_region rfl ?_
          refine VC.wpL_op (VC.op_move (v := .int .i64 (x34.tmod 20)) rfl ?_)
          refine VC.wpL_op (VC.op_lss rfl rfl ?_)
          refine VC.wpL_nil ?_
          refine VC.wpf_cond (decide ((x34.tmod 20) < 0)) rfl ?_ ?_
          · intro hb
            replace H := H.1 (of_decide_eq_true hb)
            refine VC.wpf_region rfl ?_
            refine VC.wpL_op (VC.op_move (v := .int .i64 (x34.tmod 20)) rfl ?_)
            refine VC.wpL_op (VC.op_neg rfl rfl ?_)
            refine VC.wpL_op (VC.op_assign (v := .int .i64 (IntKind.i64.wrap (0 - (x34.tmod 20)))) rfl ?_)
            refine VC.wpL_nil ?_
            exact hin39 _ _ _ rfl a20_3 a20_4 a20_5 a20_0 a20_6 a20_1 a20_2 rfl H
          · intro hb
            replace H := H.2 (of_decide_eq_false hb)
            refine VC.wpf_skip ?_
            exact hin39 _ _ _ rfl a20_3 a20_4 a20_5 a20_0 a20_6 a20_1 a20_2 rfl H
        · clear H
          intro f h40 hf
          obtain ⟨x37, a39_0, a39_1, a39_2, a39_3, a39_4, a39_5, a39_6, a39_7, a39_8, hJ⟩ := hout39 _ _ hf
          have H := HR x37 h40 hJ
          obtain ⟨J43, HR, H⟩ := H
          obtain ⟨J44, hin44, hout44⟩ : ∃ J44 : VC.Fr → Heap → Prop, (∀ f hz (x41 : Int) (x42 : Int), f 8 = .int .u64 x41 → f 10 = .int .i64 x42 → f 1 = .slice (some ⟨b25, o26, none⟩) p1n p1c → f 5 = .int .u64 (IntKind.u64.wrap (1 + ((IntKind.u64.wrap p0).tmod 20))) → f 6 = .pointer x8 → f 9 = .slice (some ⟨h6.size, 0, none⟩) 20 20 → f 11 = .int .i64 x17 → J43 x41 x42 hz → J44 f hz) ∧ (∀ f hz, J44 f hz → ∃ (x41 : Int) (x42 : Int), f 8 = .int .u64 x41 ∧ f 10 = .int .i64 x42 ∧ f 1 = .slice (some ⟨b25, o26, none⟩) p1n p1c ∧ f 5 = .int .u64 (IntKind.u64.wrap (1 + ((IntKind.u64.wrap p0).tmod 20))) ∧ f 6 = .pointer x8 ∧ f 9 = .slice (some ⟨h6.size, 0, none⟩) 20 20 ∧ f 11 = .int .i64 x17 ∧ J43 x41 x42 hz) := ⟨fun f hz => ∃ (x41 : Int) (x42 : Int), f 8 = .int .u64 x41 ∧ f 10 = .int .i64 x42 ∧ f 1 = .slice (some ⟨b25, o26, none⟩) p1n p1c ∧ f 5 = .int .u64 (IntKind.u64.wrap (1 + ((IntKind.u64.wrap p0).tmod 20))) ∧ f 6 = .pointer x8 ∧ f 9 = .slice (some ⟨h6.size, 0, none⟩) 20 20 ∧ f 11 = .int .i64 x17 ∧ J43 x41 x42 hz, fun _ _ x41 x42 a0 a1 a2 a3 a4 a5 a6 z => ⟨x41, x42, a0, a1, a2, a3, a4, a5, a6, z⟩, fun _ _ hz => hz⟩
          refine VC.wpf_seq_cut J44 ?_ ?_
          · skip
            refine VC.wpf_seq ?_
            refine VC.wpf_region rfl ?_
            refine VC.wpL_op (VC.op_fieldAddr a39_8 fo_41_0 ?_)
            obtain ⟨x110, c111, H⟩ := H
            refine VC.wpL_op (VC.op_load1 rfl ag_3 c111 ?_)
            refine VC.wpL_nil ?_
            refine VC.wpf_block ?_
            refine VC.wpf_seq ?_
            refine VC.wpf_region rfl ?_
            refine VC.wpL_op (VC.op_eql rfl rfl ?_)
            refine VC.wpL_op (VC.op_assign (v := .bool (decide (x110 = 0))) rfl ?_)
            refine VC.wpL_nil ?_
            refine VC.wpf_cond (decide (x110 = 0)) rfl ?_ ?_
            · intro hb
              replace H := H.1 (of_decide_eq_true hb)
              refine VC.wpf_seq ?_
              refine VC.wpf_region rfl ?_
              refine VC.wpL_op (VC.op_move (v := .int .u64 x15) a39_4 ?_)
              refine VC.wpL_op (VC.op_add rfl rfl rfl ?_)
              refine VC.wpL_op (VC.op_fieldAddr a39_8 fo_41_2 ?_)
              obtain ⟨x114, c115, H⟩ := H
              refine VC.wpL_op (VC.op_load1 rfl ag_29 c115 ?_)
              refine VC.wpL_op (VC.op_rem rfl rfl (by decide) rfl ?_)
              refine VC.wpL_op (VC.op_add rfl rfl rfl ?_)
              refine VC.wpL_op (VC.op_assign (v := .int .u64 (IntKind.u64.wrap ((IntKind.u64.wrap (x15 + 1)) + (x114.tmod 60)))) rfl ?_)
              refine VC.wpL_nil ?_
              refine VC.wpf_seq ?_
              refine VC.wpf_region rfl ?_
              refine VC.wpL_op (VC.op_move (v := .pointer x8) a39_3 ?_)
              refine VC.wpL_op (VC.op_move (v := .int .i64 x37) a39_0 ?_)
              refine VC.wpL_op (VC.op_move (v := .int .u64 (IntKind.u64.wrap ((IntKind.u64.wrap (x15 + 1)) + (x114.tmod 60)))) rfl ?_)
              refine VC.wpL_op (VC.op_call (vs := [.pointer x8, .int .i64 x37, .int .u64 (IntKind.u64.wrap ((IntKind.u64.wrap (x15 + 1)) + (x114.tmod 60)))]) en_10 (VC.args_cons rfl (VC.args_cons rfl (VC.args_cons rfl VC.args_nil))) (CallsH.mono H ?_))
              clear H
              rintro _ h118 ⟨x120, rfl, H⟩
              refine VC.wpL_op (VC.op_assign (v := .int .i64 x120) rfl ?_)
              refine VC.wpL_nil ?_
              refine VC.wpf_seq ?_
              refine VC.wpf_seq ?_
              refine VC.wpf_region rfl ?_
              refine VC.wpL_op (VC.op_move (v := .int .i64 x120) rfl ?_)
              refine VC.wpL_op (VC.op_eql rfl rfl ?_)
              refine VC.wpL_op (VC.op_move (v := .slice (some ⟨h6.size, 0, none⟩) 20 20) a39_5 ?_)
              refine VC.wpL_op (VC.op_move (v := .int .i64 x37) a39_0 ?_)
              obtain ⟨c122, H⟩ := H
              refine VC.wpL_op (VC.op_indexAddr_slice rfl rfl ei_39 c122 ?_)
              obtain ⟨x123, c124, H⟩ := H
              refine VC.wpL_op (VC.op_load1 rfl ag_29 c124 ?_)
              refine VC.wpL_op (VC.op_eql rfl rfl ?_)
              refine VC.wpL_op (VC.op_move (v := .bool (decide (x123 = 0))) rfl ?_)
              refine VC.wpL_gq (b := decide (x123 = 0)) (VC.guard_slot rfl rfl) (Value.int .u64 (IntKind.u64.wrap ((IntKind.u64.wrap (x15 + 1)) + (x114.tmod 60)))) (fun hb N hN => VC.op_move (v := .int .u64 (IntKind.u64.wrap ((IntKind.u64.wrap (x15 + 1)) + (x114.tmod 60)))) rfl hN) ?_
              refine VC.wpL_gq (b := decide (x123 = 0)) (VC.guard_slot rfl rfl) (Value.int .u64 x15) (fun hb N hN => VC.op_move (v := .int .u64 x15) a39_4 hN) ?_
              refine VC.wpL_gq (b := decide (x123 = 0)) (VC.guard_slot rfl rfl) (Value.int .u64 (IntKind.u64.wrap (1 + ((IntKind.u64.wrap p0).tmod 20)))) (fun hb N hN => VC.op_move (v := .int .u64 (IntKind.u64.wrap (1 + ((IntKind.u64.wrap p0).tmod 20)))) a39_2 hN) ?_
              refine VC.wpL_gq (b := decide (x123 = 0)) (VC.guard_slot rfl rfl) (Value.int .u64 (IntKind.u64.wrap (x15 + (IntKind.u64.wrap (1 + ((IntKind.u64.wrap p0).tmod 20)))))) (fun hb N hN => VC.op_add (VC.gv hb) (VC.gv hb) rfl hN) ?_
              refine VC.wpL_gq (b := decide (x123 = 0)) (VC.guard_slot rfl rfl) (Value.bool (decide ((IntKind.u64.wrap (x15 + (IntKind.u64.wrap (1 + ((IntKind.u64.wrap p0).tmod 20))))) < (IntKind.u64.wrap ((IntKind.u64.wrap (x15 + 1)) + (x114.tmod 60)))))) (fun hb N hN => VC.op_gtr (VC.gv hb) (VC.gv hb) hN) ?_
              refine VC.wpL_op (VC.op_pick_and rfl (fun hq => (VC.gv hq)) rfl ?_)
              refine VC.wpL_op (VC.op_neb un_4 rfl rfl ?_)
              refine VC.wpL_nil ?_
              refine VC.wpf_cond (!decide ((decide (x120 = 0)) = ((decide (x123 = 0)) && (decide ((IntKind.u64.wrap (x15 + (IntKind.u64.wrap (1 + ((IntKind.u64.wrap p0).tmod 20))))) < (IntKind.u64.wrap ((IntKind.u64.wrap (x15 + 1)) + (x114.tmod 60)))))))) rfl ?_ ?_
              · intro hb
                replace H := H.1 (of_decide_eq_false (VC.of_not_true hb))
                refine VC.wpf_seq ?_
                refine VC.wpf_region rfl ?_
                refine VC.wpL_op (VC.op_assign (v := .bool false) rfl ?_)
                refine VC.wpL_nil ?_
                refine VC.wpf_ret ?_
                exact VC.ret_leaf (VC.resV_tmp rfl VC.resV_nil) H
              · intro hb
                replace H := H.2 (of_decide_eq_true (VC.of_not_false hb))
                refine VC.wpf_skip ?_
                refine VC.wpf_seq ?_
                refine VC.wpf_region rfl ?_
                refine VC.wpL_op (VC.op_move (v := .int .i64 x120) rfl ?_)
                refine VC.wpL_op (VC.op_eql rfl rfl ?_)
                refine VC.wpL_nil ?_
                refine VC.wpf_cond (decide (x120 = 0)) rfl ?_ ?_
                · intro hb
                  replace H := H.1 (of_decide_eq_true hb)
                  refine VC.wpf_seq ?_
                  refine VC.wpf_region rfl ?_
                  refine VC.wpL_op (VC.op_move (v := .slice (some ⟨h6.size, 0, none⟩) 20 20) a39_5 ?_)
                  refine VC.wpL_op (VC.op_move (v := .int .i64 x37) a39_0 ?_)
                  refine VC.wpL_op (VC.op_move (v := .int .u64 (IntKind.u64.wrap ((IntKind.u64.wrap (x15 + 1)) + (x114.tmod 60)))) rfl ?_)
                  obtain ⟨c130, H⟩ := H
                  refine VC.wpL_op (VC.op_indexAddr_slice rfl rfl ei_39 c130 ?_)
                  obtain ⟨h132, c131, H⟩ := H
                  refine VC.wpL_op (VC.op_store (v := .int .u64 (IntKind.u64.wrap ((IntKind.u64.wrap (x15 + 1)) + (x114.tmod 60)))) rfl rfl sz_29 rfl c131 ?_)
                  refine VC.wpL_nil ?_
                  refine VC.wpf_region rfl ?_
                  refine VC.wpL_op (VC.op_move (v := .int .i64 x16) a39_6 ?_)
                  obtain ⟨c133, H⟩ := H
                  refine VC.wpL_op (VC.op_add rfl rfl (VC.wrap_i64 c133) ?_)
                  refine VC.wpL_op (VC.op_assign (v := .int .i64 (x16 + 1)) rfl ?_)
                  refine VC.wpL_nil ?_
                  exact hin44 _ _ _ _ a39_4 rfl a39_1 a39_2 a39_3 a39_5 a39_7 H
                · intro hb
                  replace H := H.2 (of_decide_eq_false hb)
                  refine VC.wpf_skip ?_
                  exact hin44 _ _ _ _ a39_4 a39_6 a39_1 a39_2 a39_3 a39_5 a39_7 H
            · intro hb
              replace H := H.2 (of_decide_eq_false hb)
              obtain ⟨J135, HR, H⟩ := H
              obtain ⟨J136, hin136, hout136⟩ : ∃ J136 : VC.Fr → Heap → Prop, (∀ f hz (x134 : Bool), f 101 = .bool x134 → f 1 = .slice (some ⟨b25, o26, none⟩) p1n p1c → f 5 = .int .u64 (IntKind.u64.wrap (1 + ((IntKind.u64.wrap p0).tmod 20))) → f 6 = .pointer x8 → f 8 = .int .u64 x15 → f 9 = .slice (some ⟨h6.size, 0, none⟩) 20 20 → f 10 = .int .i64 x16 → f 11 = .int .i64 x17 → f 12 = .pointer (some ⟨h21.size, 0, none⟩) → f 13 = .int .i64 x37 → f 63 = .int .i64 x110 → J135 x134 hz → J136 f hz) ∧ (∀ f hz, J136 f hz → ∃ (x134 : Bool), f 101 = .bool x134 ∧ f 1 = .slice (some ⟨b25, o26, none⟩) p1n p1c ∧ f 5 = .int .u64 (IntKind.u64.wrap (1 + ((IntKind.u64.wrap p0).tmod 20))) ∧ f 6 = .pointer x8 ∧ f 8 = .int .u64 x15 ∧ f 9 = .slice (some ⟨h6.size, 0, none⟩) 20 20 ∧ f 10 = .int .i64 x16 ∧ f 11 = .int .i64 x17 ∧ f 12 = .pointer (some ⟨h21.size, 0, none⟩) ∧ f 13 = .int .i64 x37 ∧ f 63 = .int .i64 x110 ∧ J135 x134 hz) := ⟨fun f hz => ∃ (x134 : Bool), f 101 = .bool x134 ∧ f 1 = .slice (some ⟨b25, o26, none⟩) p1n p1c ∧ f 5 = .int .u64 (IntKind.u64.wrap (1 + ((IntKind.u64.wrap p0).tmod 20))) ∧ f 6 = .pointer x8 ∧ f 8 = .int .u64 x15 ∧ f 9 = .slice (some ⟨h6.size, 0, none⟩) 20 20 ∧ f 10 = .int .i64 x16 ∧ f 11 = .int .i64 x17 ∧ f 12 = .pointer (some ⟨h21.size, 0, none⟩) ∧ f 13 = .int .i64 x37 ∧ f 63 = .int .i64 x110 ∧ J135 x134 hz, fun _ _ x134 a0 a1 a2 a3 a4 a5 a6 a7 a8 a9 a10 z => ⟨x134, a0, a1, a2, a3, a4, a5, a6, a7, a8, a9, a10, z⟩, fun _ _ hz => hz⟩
              refine VC.wpf_seq_cut J136 ?_ ?_
              · skip
                refine VC.wpf_seq ?_
                refine VC.wpf_region rfl ?_
                refine VC.wpL_op (VC.op_eql rfl rfl ?_)
                refine VC.wpL_op (VC.op_assign (v := .bool (decide (x110 = 1))) rfl ?_)
                refine VC.wpL_nil ?_
                refine VC.wpf_cond (decide (x110 = 1)) rfl ?_ ?_
                · intro hb
                  replace H := H.1 (of_decide_eq_true hb)
                  refine VC.wpf_skip ?_
                  exact hin136 _ _ _ rfl a39_1 a39_2 a39_3 a39_4 a39_5 a39_6 a39_7 a39_8 a39_0 rfl H
                · intro hb
                  replace H := H.2 (of_decide_eq_false hb)
                  refine VC.wpf_region rfl ?_
                  refine VC.wpL_op (VC.op_eql rfl rfl ?_)
                  refine VC.wpL_op (VC.op_assign (v := .bool (decide (x110 = 2))) rfl ?_)
                  refine VC.wpL_nil ?_
                  exact hin136 _ _ _ rfl a39_1 a39_2 a39_3 a39_4 a39_5 a39_6 a39_7 a39_8 a39_0 rfl H
              · clear H
                intro f h137 hf
                obtain ⟨x134, a136_0, a136_1, a136_2, a136_3, a136_4, a136_5, a136_6, a136_7, a136_8, a136_9, a136_10, hJ⟩ := hout136 _ _ hf
                have H := HR x134 h137 hJ
                refine VC.wpf_cond (x134) a136_0 ?_ ?_
                · intro hb
                  replace H := H.1 hb
                  refine VC.wpf_region rfl ?_
                  refine VC.wpL_op (VC.op_move (v := .pointer x8) a136_3 ?_)
                  refine VC.wpL_op (VC.op_move (v := .int .i64 x37) a136_9 ?_)
                  refine VC.wpL_op (VC.op_fieldAddr a136_8 fo_41_0 ?_)
                  obtain ⟨x138, c139, H⟩ := H
                  refine VC.wpL_op (VC.op_load1 rfl ag_3 c139 ?_)
                  refine VC.wpL_op (VC.op_eql rfl rfl ?_)
                  refine VC.wpL_op (VC.op_call (vs := [.pointer x8, .int .i64 x37, .int .i64 5, .bool (decide (x138 = 2))]) en_12 (VC.args_cons rfl (VC.args_cons rfl (VC.args_cons rfl (VC.args_cons rfl VC.args_nil)))) (CallsH.mono H ?_))
                  clear H
                  rintro _ h141 ⟨x143, rfl, H⟩
                  refine VC.wpL_nil ?_
                  exact hin44 _ _ _ _ a136_4 a136_6 a136_1 a136_2 a136_3 a136_5 a136_7 H
                · intro hb
                  replace H := H.2 hb
                  refine VC.wpf_seq ?_
                  refine VC.wpf_region rfl ?_
                  refine VC.wpL_op (VC.op_eql a136_10 rfl ?_)
                  refine VC.wpL_op (VC.op_assign (v := .bool (decide (x110 = 3))) rfl ?_)
                  refine VC.wpL_nil ?_
                  refine VC.wpf_cond (decide (x110 = 3)) rfl ?_ ?_
                  · intro hb
                    replace H := H.1 (of_decide_eq_true hb)
                    refine VC.wpf_region rfl ?_
                    refine VC.wpL_op (VC.op_move (v := .pointer x8) a136_3 ?_)
                    refine VC.wpL_op (VC.op_move (v := .int .i64 x37) a136_9 ?_)
                    refine VC.wpL_op (VC.op_call (vs := [.pointer x8, .int .i64 x37]) en_13 (VC.args_cons rfl (VC.args_cons rfl VC.args_nil)) (CallsH.mono H ?_))
                    clear H
                    rintro _ h145 ⟨x147, rfl, H⟩
                    refine VC.wpL_nil ?_
                    exact hin44 _ _ _ _ a136_4 a136_6 a136_1 a136_2 a136_3 a136_5 a136_7 H
                  · intro hb
                    replace H := H.2 (of_decide_eq_false hb)
                    refine VC.wpf_region rfl ?_
                    refine VC.wpL_op (VC.op_move (v := .int .u64 x15) a136_4 ?_)
                    refine VC.wpL_op (VC.op_add rfl rfl rfl ?_)
                    refine VC.wpL_op (VC.op_assign (v := .int .u64 (IntKind.u64.wrap (x15 + 1))) rfl ?_)
                    refine VC.wpL_nil ?_
                    exact hin44 _ _ _ _ rfl a136_6 a136_1 a136_2 a136_3 a136_5 a136_7 H
          · clear H
            intro f h45 hf
            obtain ⟨x41, x42, a44_0, a44_1, a44_2, a44_3, a44_4, a44_5, a44_6, hJ⟩ := hout44 _ _ hf
            have H := HR x41 x42 h45 hJ
            refine VC.wpf_seq ?_
            refine VC.wpf_region rfl ?_
            refine VC.wpL_op (VC.op_move (v := .pointer x8) a44_4 ?_)
            refine VC.wpL_op (VC.op_move (v := .int .u64 x41) a44_0 ?_)
            refine VC.wpL_op (VC.op_call (vs := [.pointer x8, .int .u64 x41]) en_11 (VC.args_cons rfl (VC.args_cons rfl VC.args_nil)) (CallsH.mono H ?_))
            clear H
            rintro _ h46 ⟨x48a, x48n, x48c, x49, rfl, H⟩
            refine VC.wpL_op (VC.op_move (v := .tuple #[.slice x48a x48n x48c, .int .i64 x49]) rfl ?_)
            refine VC.wpL_op (VC.op_extract rfl rfl ?_)
            refine VC.wpL_op (VC.op_extract rfl rfl ?_)
            refine VC.wpL_op (VC.op_assign (v := .slice x48a x48n x48c) rfl ?_)
            refine VC.wpL_op (VC.op_assign (v := .int .i64 x49) rfl ?_)
            refine VC.wpL_nil ?_
            refine VC.wpf_seq ?_
            refine VC.wpf_seq ?_
            refine VC.wpf_region rfl ?_
            refine VC.wpL_op (VC.op_move (v := .int .i64 x49) rfl ?_)
            refine VC.wpL_op (VC.op_neq rfl rfl ?_)
            refine VC.wpL_nil ?_
            refine VC.wpf_cond (!decide (x49 = 0)) rfl ?_ ?_
            · intro hb
              replace H := H.1 (of_decide_eq_false (VC.of_not_true hb))
              refine VC.wpf_seq ?_
              refine VC.wpf_region rfl ?_
              refine VC.wpL_op (VC.op_assign (v := .bool false) rfl ?_)
              refine VC.wpL_nil ?_
              refine VC.wpf_ret ?_
              exact VC.ret_leaf (VC.resV_tmp rfl VC.resV_nil) H
            · intro hb
              replace H := H.2 (of_decide_eq_true (VC.of_not_false hb))
              refine VC.wpf_skip ?_
              refine VC.wpf_seq ?_
              refine VC.wpf_seq ?_
              refine VC.wpf_region rfl ?_
              refine VC.wpL_op (VC.op_assign (v := .int .i64 0) rfl ?_)
              refine VC.wpL_nil ?_
              refine VC.wpf_block ?_
              obtain ⟨I53, mu54, hI, H⟩ := H
              obtain ⟨I55, mu55, hin55, hout55, hmu55⟩ : ∃ (J55 : VC.Fr → Heap → Prop) (m : VC.Fr → Heap → Nat), (∀ f hz (x51 : Int) (x52 : Int), f 10 = .int .i64 x51 → f 18 = .int .i64 x52 → f 1 = .slice (some ⟨b25, o26, none⟩) p1n p1c → f 5 = .int .u64 (IntKind.u64.wrap (1 + ((IntKind.u64.wrap p0).tmod 20))) → f 6 = .pointer x8 → f 8 = .int .u64 x41 → f 9 = .slice (some ⟨h6.size, 0, none⟩) 20 20 → f 11 = .int .i64 x17 → f 16 = .slice x48a x48n x48c → I53 x51 x52 hz → J55 f hz) ∧ (∀ f hz, J55 f hz → ∃ (x51 : Int) (x52 : Int), f 10 = .int .i64 x51 ∧ f 18 = .int .i64 x52 ∧ f 1 = .slice (some ⟨b25, o26, none⟩) p1n p1c ∧ f 5 = .int .u64 (IntKind.u64.wrap (1 + ((IntKind.u64.wrap p0).tmod 20))) ∧ f 6 = .pointer x8 ∧ f 8 = .int .u64 x41 ∧ f 9 = .slice (some ⟨h6.size, 0, none⟩) 20 20 ∧ f 11 = .int .i64 x17 ∧ f 16 = .slice x48a x48n x48c ∧ I53 x51 x52 hz) ∧ (∀ f hz (x51 : Int) (x52 : Int), f 10 = .int .i64 x51 → f 18 = .int .i64 x52 → m f hz = mu54 x51 x52 hz) := ⟨fun f hz => ∃ (x51 : Int) (x52 : Int), f 10 = .int .i64 x51 ∧ f 18 = .int .i64 x52 ∧ f 1 = .slice (some ⟨b25, o26, none⟩) p1n p1c ∧ f 5 = .int .u64 (IntKind.u64.wrap (1 + ((IntKind.u64.wrap p0).tmod 20))) ∧ f 6 = .pointer x8 ∧ f 8 = .int .u64 x41 ∧ f 9 = .slice (some ⟨h6.size, 0, none⟩) 20 20 ∧ f 11 = .int .i64 x17 ∧ f 16 = .slice x48a x48n x48c ∧ I53 x51 x52 hz, fun f hz => mu54 (VC.dInt (f 10)) (VC.dInt (f 18)) hz, fun _ _ x51 x52 a0 a1 a2 a3 a4 a5 a6 a7 a8 z => ⟨x51, x52, a0, a1, a2, a3, a4, a5, a6, a7, a8, z⟩, fun _ _ hz => hz, fun f hz x51 x52 a0 a1 => by simp only [a0, a1]; rfl⟩
              refine VC.wpf_loop I55 mu55 (hin55 _ _ _ _ a44_1 rfl a44_2 a44_3 a44_4 a44_0 a44_5 a44_6 rfl hI) ?_
              clear hI
              intro f h56 hf
              obtain ⟨x51, x52, a55_0, a55_1, a55_2, a55_3, a55_4, a55_5, a55_6, a55_7, a55_8, hJ⟩ := hout55 _ _ hf
              replace H := H x51 x52 h56 hJ
              refine VC.wpf_seq ?_
              refine VC.wpf_seq ?_
              refine VC.wpf_region rfl ?_
              refine VC.wpL_op (VC.op_move (v := .int .i64 x52) a55_1 ?_)
              refine VC.wpL_op (VC.op_move (v := .slice x48a x48n x48c) a55_8 ?_)
              refine VC.wpL_op (VC.op_len_slice rfl un_32 ?_)
              refine VC.wpL_op (VC.op_lss rfl rfl ?_)
              refine VC.wpL_nil ?_
              refine VC.wpf_cond (decide (x52 < (x48n : Int))) rfl ?_ ?_
              · intro hb
                replace H := H.1 (of_decide_eq_true hb)
                refine VC.wpf_skip ?_
                refine VC.wpf_seq ?_
                refine VC.wpf_block ?_
                refine VC.wpf_seq ?_
                refine VC.wpf_region rfl ?_
                refine VC.wpL_op (VC.op_move (v := .slice x48a x48n x48c) a55_8 ?_)
                refine VC.wpL_op (VC.op_move (v := .int .i64 x52) a55_1 ?_)
                obtain ⟨b59, o60, rfl, H⟩ := H
                obtain ⟨c58, H⟩ := H
                refine VC.wpL_op (VC.op_indexAddr_slice rfl rfl ei_32 c58 ?_)
                refine VC.wpL_op (VC.op_fieldAddr rfl fo_36_0 ?_)
                obtain ⟨x62, c63, H⟩ := H
                refine VC.wpL_op (VC.op_load1 rfl ag_3 c63 ?_)
                refine VC.wpL_op (VC.op_assign (v := .int .i64 x62) rfl ?_)
                refine VC.wpL_nil ?_
                refine VC.wpf_seq ?_
                refine VC.wpf_seq ?_
                refine VC.wpf_region rfl ?_
                refine VC.wpL_op (VC.op_move (v := .int .i64 x62) rfl ?_)
                refine VC.wpL_op (VC.op_lss rfl rfl ?_)
                refine VC.wpL_op (VC.op_move (v := .bool (decide (x62 < 0))) rfl ?_)
                refine VC.wpL_gq (b := !(decide (x62 < 0))) (VC.guard_slot rfl rfl) (Value.int .i64 x62) (fun hb N hN => VC.op_move (v := .int .i64 x62) rfl hN) ?_
                refine VC.wpL_gq (b := !(decide (x62 < 0))) (VC.guard_slot rfl rfl) (Value.bool (decide (20 ≤ x62))) (fun hb N hN => VC.op_geq (VC.gv hb) rfl hN) ?_
                refine VC.wpL_op (VC.op_pick_or rfl rfl (fun hq => (VC.gv (VC.not_of_false hq))) ?_)
                refine VC.wpL_op (VC.op_move (v := .bool ((decide (x62 < 0)) || (decide (20 ≤ x62)))) rfl ?_)
                refine VC.wpL_gq (b := !((decide (x62 < 0)) || (decide (20 ≤ x62)))) (VC.guard_slot rfl rfl) (Value.slice (some ⟨h6.size, 0, none⟩) 20 20) (fun hb N hN => VC.op_move (v := .slice (some ⟨h6.size, 0, none⟩) 20 20) a55_6 hN) ?_
                refine VC.wpL_gq (b := !((decide (x62 < 0)) || (decide (20 ≤ x62)))) (VC.guard_slot rfl rfl) (Value.int .i64 x62) (fun hb N hN => VC.op_move (v := .int .i64 x62) rfl hN) ?_
                obtain ⟨c66, H⟩ := H
                refine VC.wpL_gq (b := !((decide (x62 < 0)) || (decide (20 ≤ x62)))) (VC.guard_slot rfl rfl) (Value.pointer (some ⟨h6.size, 0 + x62.toNat * 1, none⟩)) (fun hb N hN => VC.op_indexAddr_slice (VC.gv hb) (VC.gv hb) ei_39 (c66 (VC.of_not_true hb)) hN) ?_
                obtain ⟨x67, c68, H⟩ := H
                refine VC.wpL_gq (b := !((decide (x62 < 0)) || (decide (20 ≤ x62)))) (VC.guard_slot rfl rfl) (Value.int .u64 x67) (fun hb N hN => VC.op_load1 (VC.gv hb) ag_29 (c68 (VC.of_not_true hb)) hN) ?_
                refine VC.wpL_gq (b := !((decide (x62 < 0)) || (decide (20 ≤ x62)))) (VC.guard_slot rfl rfl) (Value.bool (decide (x67 = 0))) (fun hb N hN => VC.op_eql (VC.gv hb) rfl hN) ?_
                refine VC.wpL_op (VC.op_pick_or rfl rfl (fun hq => (VC.gv (VC.not_of_false hq))) ?_)
                refine VC.wpL_op (VC.op_move (v := .bool (((decide (x62 < 0)) || (decide (20 ≤ x62))) || (decide (x67 = 0)))) rfl ?_)
                refine VC.wpL_gq (b := !(((decide (x62 < 0)) || (decide (20 ≤ x62))) || (decide (x67 = 0)))) (VC.guard_slot rfl rfl) (Value.int .u64 x41) (fun hb N hN => VC.op_move (v := .int .u64 x41) a55_5 hN) ?_
                refine VC.wpL_gq (b := !(((decide (x62 < 0)) || (decide (20 ≤ x62))) || (decide (x67 = 0)))) (VC.guard_slot rfl rfl) (Value.slice (some ⟨h6.size, 0, none⟩) 20 20) (fun hb N hN => VC.op_move (v := .slice (some ⟨h6.size, 0, none⟩) 20 20) a55_6 hN) ?_
                refine VC.wpL_gq (b := !(((decide (x62 < 0)) || (decide (20 ≤ x62))) || (decide (x67 = 0)))) (VC.guard_slot rfl rfl) (Value.int .i64 x62) (fun hb N hN => VC.op_move (v := .int .i64 x62) rfl hN) ?_
                obtain ⟨c70, H⟩ := H
                refine VC.wpL_gq (b := !(((decide (x62 < 0)) || (decide (20 ≤ x62))) || (decide (x67 = 0)))) (VC.guard_slot rfl rfl) (Value.pointer (some ⟨h6.size, 0 + x62.toNat * 1, none⟩)) (fun hb N hN => VC.op_indexAddr_slice (VC.gv hb) (VC.gv hb) ei_39 (c70 (VC.of_not_true hb)) hN) ?_
                obtain ⟨x71, c72, H⟩ := H
                refine VC.wpL_gq (b := !(((decide (x62 < 0)) || (decide (20 ≤ x62))) || (decide (x67 = 0)))) (VC.guard_slot rfl rfl) (Value.int .u64 x71) (fun hb N hN => VC.op_load1 (VC.gv hb) ag_29 (c72 (VC.of_not_true hb)) hN) ?_
                refine VC.wpL_gq (b := !(((decide (x62 < 0)) || (decide (20 ≤ x62))) || (decide (x67 = 0)))) (VC.guard_slot rfl rfl) (Value.int .u64 (IntKind.u64.wrap (1 + ((IntKind.u64.wrap p0).tmod 20)))) (fun hb N hN => VC.op_move (v := .int .u64 (IntKind.u64.wrap (1 + ((IntKind.u64.wrap p0).tmod 20)))) a55_3 hN) ?_
                refine VC.wpL_gq (b := !(((decide (x62 < 0)) || (decide (20 ≤ x62))) || (decide (x67 = 0)))) (VC.guard_slot rfl rfl) (Value.int .u64 (IntKind.u64.wrap (x71 - (IntKind.u64.wrap (1 + ((IntKind.u64.wrap p0).tmod 20)))))) (fun hb N hN => VC.op_sub (VC.gv hb) (VC.gv hb) rfl hN) ?_
                refine VC.wpL_gq (b := !(((decide (x62 < 0)) || (decide (20 ≤ x62))) || (decide (x67 = 0)))) (VC.guard_slot rfl rfl) (Value.bool (decide ((IntKind.u64.wrap (x71 - (IntKind.u64.wrap (1 + ((IntKind.u64.wrap p0).tmod 20))))) < x41))) (fun hb N hN => VC.op_gtr (VC.gv hb) (VC.gv hb) hN) ?_
                refine VC.wpL_op (VC.op_pick_or rfl rfl (fun hq => (VC.gv (VC.not_of_false hq))) ?_)
                refine VC.wpL_op (VC.op_move (v := .bool ((((decide (x62 < 0)) || (decide (20 ≤ x62))) || (decide (x67 = 0))) || (decide ((IntKind.u64.wrap (x71 - (IntKind.u64.wrap (1 + ((IntKind.u64.wrap p0).tmod 20))))) < x41)))) rfl ?_)
                refine VC.wpL_gq (b := !((((decide (x62 < 0)) || (decide (20 ≤ x62))) || (decide (x67 = 0))) || (decide ((IntKind.u64.wrap (x71 - (IntKind.u64.wrap (1 + ((IntKind.u64.wrap p0).tmod 20))))) < x41)))) (VC.guard_slot rfl rfl) (Value.slice (some ⟨b59, o60, none⟩) x48n x48c) (fun hb N hN => VC.op_move (v := .slice (some ⟨b59, o60, none⟩) x48n x48c) a55_8 hN) ?_
                refine VC.wpL_gq (b := !((((decide (x62 < 0)) || (decide (20 ≤ x62))) || (decide (x67 = 0))) || (decide ((IntKind.u64.wrap (x71 - (IntKind.u64.wrap (1 + ((IntKind.u64.wrap p0).tmod 20))))) < x41)))) (VC.guard_slot rfl rfl) (Value.int .i64 x52) (fun hb N hN => VC.op_move (v := .int .i64 x52) a55_1 hN) ?_
                obtain ⟨c75, H⟩ := H
                refine VC.wpL_gq (b := !((((decide (x62 < 0)) || (decide (20 ≤ x62))) || (decide (x67 = 0))) || (decide ((IntKind.u64.wrap (x71 - (IntKind.u64.wrap (1 + ((IntKind.u64.wrap p0).tmod 20))))) < x41)))) (VC.guard_slot rfl rfl) (Value.pointer (some ⟨b59, o60 + x52.toNat * 3, none⟩)) (fun hb N hN => VC.op_indexAddr_slice (VC.gv hb) (VC.gv hb) ei_32 (c75 (VC.of_not_true hb)) hN) ?_
                refine VC.wpL_gq (b := !((((decide (x62 < 0)) || (decide (20 ≤ x62))) || (decide (x67 = 0))) || (decide ((IntKind.u64.wrap (x71 - (IntKind.u64.wrap (1 + ((IntKind.u64.wrap p0).tmod 20))))) < x41)))) (VC.guard_slot rfl rfl) (Value.pointer (some ⟨b59, o60 + x52.toNat * 3 + 1, none⟩)) (fun hb N hN => VC.op_fieldAddr (VC.gv hb) fo_36_1 hN) ?_
                obtain ⟨x76, c77, H⟩ := H
                refine VC.wpL_gq (b := !((((decide (x62 < 0)) || (decide (20 ≤ x62))) || (decide (x67 = 0))) || (decide ((IntKind.u64.wrap (x71 - (IntKind.u64.wrap (1 + ((IntKind.u64.wrap p0).tmod 20))))) < x41)))) (VC.guard_slot rfl rfl) (Value.int .i64 x76) (fun hb N hN => VC.op_load1 (VC.gv hb) ag_3 (c77 (VC.of_not_true hb)) hN) ?_
                refine VC.wpL_gq (b := !((((decide (x62 < 0)) || (decide (20 ≤ x62))) || (decide (x67 = 0))) || (decide ((IntKind.u64.wrap (x71 - (IntKind.u64.wrap (1 + ((IntKind.u64.wrap p0).tmod 20))))) < x41)))) (VC.guard_slot rfl rfl) (Value.bool (decide (x76 = 2))) (fun hb N hN => VC.op_eql (VC.gv hb) rfl hN) ?_
                refine VC.wpL_gq (b := !((((decide (x62 < 0)) || (decide (20 ≤ x62))) || (decide (x67 = 0))) || (decide ((IntKind.u64.wrap (x71 - (IntKind.u64.wrap (1 + ((IntKind.u64.wrap p0).tmod 20))))) < x41)))) (VC.guard_slot rfl rfl) (Value.bool (decide (x76 = 2))) (fun hb N hN => VC.op_move (v := .bool (decide (x76 = 2))) (VC.gv hb) hN) ?_
                refine VC.wpL_gq (b := (!((((decide (x62 < 0)) || (decide (20 ≤ x62))) || (decide (x67 = 0))) || (decide ((IntKind.u64.wrap (x71 - (IntKind.u64.wrap (1 + ((IntKind.u64.wrap p0).tmod 20))))) < x41)))) && (decide (x76 = 2))) (VC.guard_cond rfl rfl) (Value.slice (some ⟨b59, o60, none⟩) x48n x48c) (fun hb N hN => VC.op_move (v := .slice (some ⟨b59, o60, none⟩) x48n x48c) a55_8 hN) ?_
                refine VC.wpL_gq (b := (!((((decide (x62 < 0)) || (decide (20 ≤ x62))) || (decide (x67 = 0))) || (decide ((IntKind.u64.wrap (x71 - (IntKind.u64.wrap (1 + ((IntKind.u64.wrap p0).tmod 20))))) < x41)))) && (decide (x76 = 2))) (VC.guard_cond rfl rfl) (Value.int .i64 x52) (fun hb N hN => VC.op_move (v := .int .i64 x52) a55_1 hN) ?_
                obtain ⟨c79, H⟩ := H
                refine VC.wpL_gq (b := (!((((decide (x62 < 0)) || (decide (20 ≤ x62))) || (decide (x67 = 0))) || (decide ((IntKind.u64.wrap (x71 - (IntKind.u64.wrap (1 + ((IntKind.u64.wrap p0).tmod 20))))) < x41)))) && (decide (x76 = 2))) (VC.guard_cond rfl rfl) (Value.pointer (some ⟨b59, o60 + x52.toNat * 3, none⟩)) (fun hb N hN => VC.op_indexAddr_slice (VC.gv hb) (VC.gv hb) ei_32 (c79 hb) hN) ?_
                refine VC.wpL_gq (b := (!((((decide (x62 < 0)) || (decide (20 ≤ x62))) || (decide (x67 = 0))) || (decide ((IntKind.u64.wrap (x71 - (IntKind.u64.wrap (1 + ((IntKind.u64.wrap p0).tmod 20))))) < x41)))) && (decide (x76 = 2))) (VC.guard_cond rfl rfl) (Value.pointer (some ⟨b59, o60 + x52.toNat * 3 + 2, none⟩)) (fun hb N hN => VC.op_fieldAddr (VC.gv hb) fo_36_2 hN) ?_
                obtain ⟨x80, c81, H⟩ := H
                refine VC.wpL_gq (b := (!((((decide (x62 < 0)) || (decide (20 ≤ x62))) || (decide (x67 = 0))) || (decide ((IntKind.u64.wrap (x71 - (IntKind.u64.wrap (1 + ((IntKind.u64.wrap p0).tmod 20))))) < x41)))) && (decide (x76 = 2))) (VC.guard_cond rfl rfl) (Value.int .i64 x80) (fun hb N hN => VC.op_load1 (VC.gv hb) ag_3 (c81 hb) hN) ?_
                refine VC.wpL_gq (b := (!((((decide (x62 < 0)) || (decide (20 ≤ x62))) || (decide (x67 = 0))) || (decide ((IntKind.u64.wrap (x71 - (IntKind.u64.wrap (1 + ((IntKind.u64.wrap p0).tmod 20))))) < x41)))) && (decide (x76 = 2))) (VC.guard_cond rfl rfl) (Value.bool (decide (x80 = 1))) (fun hb N hN => VC.op_eql (VC.gv hb) rfl hN) ?_
                refine VC.wpL_gq (b := !((((decide (x62 < 0)) || (decide (20 ≤ x62))) || (decide (x67 = 0))) || (decide ((IntKind.u64.wrap (x71 - (IntKind.u64.wrap (1 + ((IntKind.u64.wrap p0).tmod 20))))) < x41)))) (VC.guard_slot rfl rfl) (Value.bool ((decide (x76 = 2)) && (decide (x80 = 1)))) (fun hb N hN => VC.op_pick_and (VC.gv hb) (fun hq => (VC.gv (VC.and_i hb hq))) rfl hN) ?_
                refine VC.wpL_gq (b := !((((decide (x62 < 0)) || (decide (20 ≤ x62))) || (decide (x67 = 0))) || (decide ((IntKind.u64.wrap (x71 - (IntKind.u64.wrap (1 + ((IntKind.u64.wrap p0).tmod 20))))) < x41)))) (VC.guard_slot rfl rfl) (Value.bool ((decide (x76 = 2)) && (decide (x80 = 1)))) (fun hb N hN => VC.op_move (v := .bool ((decide (x76 = 2)) && (decide (x80 = 1)))) (VC.gv hb) hN) ?_
                refine VC.wpL_gq (b := (!((((decide (x62 < 0)) || (decide (20 ≤ x62))) || (decide (x67 = 0))) || (decide ((IntKind.u64.wrap (x71 - (IntKind.u64.wrap (1 + ((IntKind.u64.wrap p0).tmod 20))))) < x41)))) && ((decide (x76 = 2)) && (decide (x80 = 1)))) (VC.guard_cond rfl rfl) (Value.int .u64 x41) (fun hb N hN => VC.op_move (v := .int .u64 x41) a55_5 hN) ?_
                refine VC.wpL_gq (b := (!((((decide (x62 < 0)) || (decide (20 ≤ x62))) || (decide (x67 = 0))) || (decide ((IntKind.u64.wrap (x71 - (IntKind.u64.wrap (1 + ((IntKind.u64.wrap p0).tmod 20))))) < x41)))) && ((decide (x76 = 2)) && (decide (x80 = 1)))) (VC.guard_cond rfl rfl) (Value.slice (some ⟨h6.size, 0, none⟩) 20 20) (fun hb N hN => VC.op_move (v := .slice (some ⟨h6.size, 0, none⟩) 20 20) a55_6 hN) ?_
                refine VC.wpL_gq (b := (!((((decide (x62 < 0)) || (decide (20 ≤ x62))) || (decide (x67 = 0))) || (decide ((IntKind.u64.wrap (x71 - (IntKind.u64.wrap (1 + ((IntKind.u64.wrap p0).tmod 20))))) < x41)))) && ((decide (x76 = 2)) && (decide (x80 = 1)))) (VC.guard_cond rfl rfl) (Value.int .i64 x62) (fun hb N hN => VC.op_move (v := .int .i64 x62) rfl hN) ?_
                obtain ⟨c83, H⟩ := H
                refine VC.wpL_gq (b := (!((((decide (x62 < 0)) || (decide (20 ≤ x62))) || (decide (x67 = 0))) || (decide ((IntKind.u64.wrap (x71 - (IntKind.u64.wrap (1 + ((IntKind.u64.wrap p0).tmod 20))))) < x41)))) && ((decide (x76 = 2)) && (decide (x80 = 1)))) (VC.guard_cond rfl rfl) (Value.pointer (some ⟨h6.size, 0 + x62.toNat * 1, none⟩)) (fun hb N hN => VC.op_indexAddr_slice (VC.gv hb) (VC.gv hb) ei_39 (c83 hb) hN) ?_
                obtain ⟨x84, c85, H⟩ := H
                refine VC.wpL_gq (b := (!((((decide (x62 < 0)) || (decide (20 ≤ x62))) || (decide (x67 = 0))) || (decide ((IntKind.u64.wrap (x71 - (IntKind.u64.wrap (1 + ((IntKind.u64.wrap p0).tmod 20))))) < x41)))) && ((decide (x76 = 2)) && (decide (x80 = 1)))) (VC.guard_cond rfl rfl) (Value.int .u64 x84) (fun hb N hN => VC.op_load1 (VC.gv hb) ag_29 (c85 hb) hN) ?_
                refine VC.wpL_gq (b := (!((((decide (x62 < 0)) || (decide (20 ≤ x62))) || (decide (x67 = 0))) || (decide ((IntKind.u64.wrap (x71 - (IntKind.u64.wrap (1 + ((IntKind.u64.wrap p0).tmod 20))))) < x41)))) && ((decide (x76 = 2)) && (decide (x80 = 1)))) (VC.guard_cond rfl rfl) (Value.int .u64 (IntKind.u64.wrap (1 + ((IntKind.u64.wrap p0).tmod 20)))) (fun hb N hN => VC.op_move (v := .int .u64 (IntKind.u64.wrap (1 + ((IntKind.u64.wrap p0).tmod 20)))) a55_3 hN) ?_
                refine VC.wpL_gq (b := (!((((decide (x62 < 0)) || (decide (20 ≤ x62))) || (decide (x67 = 0))) || (decide ((IntKind.u64.wrap (x71 - (IntKind.u64.wrap (1 + ((IntKind.u64.wrap p0).tmod 20))))) < x41)))) && ((decide (x76 = 2)) && (decide (x80 = 1)))) (VC.guard_cond rfl rfl) (Value.int .u64 (IntKind.u64.wrap (x84 - (IntKind.u64.wrap (1 + ((IntKind.u64.wrap p0).tmod 20)))))) (fun hb N hN => VC.op_sub (VC.gv hb) (VC.gv hb) rfl hN) ?_
                refine VC.wpL_gq (b := (!((((decide (x62 < 0)) || (decide (20 ≤ x62))) || (decide (x67 = 0))) || (decide ((IntKind.u64.wrap (x71 - (IntKind.u64.wrap (1 + ((IntKind.u64.wrap p0).tmod 20))))) < x41)))) && ((decide (x76 = 2)) && (decide (x80 = 1)))) (VC.guard_cond rfl rfl) (Value.bool (!decide (x41 = (IntKind.u64.wrap (x84 - (IntKind.u64.wrap (1 + ((IntKind.u64.wrap p0).tmod 20)))))))) (fun hb N hN => VC.op_neq (VC.gv hb) (VC.gv hb) hN) ?_
                refine VC.wpL_gq (b := !((((decide (x62 < 0)) || (decide (20 ≤ x62))) || (decide (x67 = 0))) || (decide ((IntKind.u64.wrap (x71 - (IntKind.u64.wrap (1 + ((IntKind.u64.wrap p0).tmod 20))))) < x41)))) (VC.guard_slot rfl rfl) (Value.bool (((decide (x76 = 2)) && (decide (x80 = 1))) && (!decide (x41 = (IntKind.u64.wrap (x84 - (IntKind.u64.wrap (1 + ((IntKind.u64.wrap p0).tmod 20))))))))) (fun hb N hN => VC.op_pick_and (VC.gv hb) (fun hq => (VC.gv (VC.and_i hb hq))) rfl hN) ?_
                refine VC.wpL_op (VC.op_pick_or rfl rfl (fun hq => (VC.gv (VC.not_of_false hq))) ?_)
                refine VC.wpL_nil ?_
                refine VC.wpf_cond (((((decide (x62 < 0)) || (decide (20 ≤ x62))) || (decide (x67 = 0))) || (decide ((IntKind.u64.wrap (x71 - (IntKind.u64.wrap (1 + ((IntKind.u64.wrap p0).tmod 20))))) < x41))) || (((decide (x76 = 2)) && (decide (x80 = 1))) && (!decide (x41 = (IntKind.u64.wrap (x84 - (IntKind.u64.wrap (1 + ((IntKind.u64.wrap p0).tmod 20))))))))) rfl ?_ ?_
                · intro hb
                  replace H := H.1 hb
                  refine VC.wpf_seq ?_
                  refine VC.wpf_region rfl ?_
                  refine VC.wpL_op (VC.op_assign (v := .bool false) rfl ?_)
                  refine VC.wpL_nil ?_
                  refine VC.wpf_ret ?_
                  exact VC.ret_leaf (VC.resV_tmp rfl VC.resV_nil) H
                · intro hb
                  replace H := H.2 hb
                  refine VC.wpf_skip ?_
                  refine VC.wpf_seq ?_
                  refine VC.wpf_region rfl ?_
                  refine VC.wpL_op (VC.op_move (v := .slice (some ⟨h6.size, 0, none⟩) 20 20) a55_6 ?_)
                  refine VC.wpL_op (VC.op_move (v := .int .i64 x62) rfl ?_)
                  obtain ⟨c88, H⟩ := H
                  refine VC.wpL_op (VC.op_indexAddr_slice rfl rfl ei_39 c88 ?_)
                  obtain ⟨h90, c89, H⟩ := H
                  refine VC.wpL_op (VC.op_store (v := .int .u64 0) rfl rfl sz_29 rfl c89 ?_)
                  refine VC.wpL_nil ?_
                  refine VC.wpf_region rfl ?_
                  refine VC.wpL_op (VC.op_move (v := .int .i64 x51) a55_0 ?_)
                  obtain ⟨c91, H⟩ := H
                  refine VC.wpL_op (VC.op_sub rfl rfl (VC.wrap_i64 c91) ?_)
                  refine VC.wpL_op (VC.op_assign (v := .int .i64 (x51 - 1)) rfl ?_)
                  refine VC.wpL_nil ?_
                  refine VC.wpf_region rfl ?_
                  refine VC.wpL_op (VC.op_move (v := .int .i64 x52) a55_1 ?_)
                  obtain ⟨c92, H⟩ := H
                  refine VC.wpL_op (VC.op_add rfl rfl (VC.wrap_i64 c92) ?_)
                  refine VC.wpL_op (VC.op_assign (v := .int .i64 (x52 + 1)) rfl ?_)
                  refine VC.wpL_nil ?_
                  exact And.intro (hin55 _ _ _ _ rfl rfl a55_2 a55_3 a55_4 a55_5 a55_6 a55_7 a55_8 H.1) (lt_of (hmu55 _ _ _ _ rfl rfl) (hmu55 _ _ _ _ a55_0 a55_1) H.2)
              · intro hb
                replace H := H.2 (of_decide_eq_false hb)
                refine VC.wpf_exit ?_
                refine VC.wpf_seq ?_
                refine VC.wpf_region rfl ?_
                refine VC.wpL_op (VC.op_assign (v := .int .i64 0) rfl ?_)
                refine VC.wpL_nil ?_
                refine VC.wpf_block ?_
                obtain ⟨I94, mu95, hI, H⟩ := H
                obtain ⟨I96, mu96, hin96, hout96, hmu96⟩ : ∃ (J96 : VC.Fr → Heap → Prop) (m : VC.Fr → Heap → Nat), (∀ f hz (x93 : Int), f 20 = .int .i64 x93 → f 1 = .slice (some ⟨b25, o26, none⟩) p1n p1c → f 5 = .int .u64 (IntKind.u64.wrap (1 + ((IntKind.u64.wrap p0).tmod 20))) → f 6 = .pointer x8 → f 8 = .int .u64 x41 → f 9 = .slice (some ⟨h6.size, 0, none⟩) 20 20 → f 10 = .int .i64 x51 → f 11 = .int .i64 x17 → I94 x93 hz → J96 f hz) ∧ (∀ f hz, J96 f hz → ∃ (x93 : Int), f 20 = .int .i64 x93 ∧ f 1 = .slice (some ⟨b25, o26, none⟩) p1n p1c ∧ f 5 = .int .u64 (IntKind.u64.wrap (1 + ((IntKind.u64.wrap p0).tmod 20))) ∧ f 6 = .pointer x8 ∧ f 8 = .int .u64 x41 ∧ f 9 = .slice (some ⟨h6.size, 0, none⟩) 20 20 ∧ f 10 = .int .i64 x51 ∧ f 11 = .int .i64 x17 ∧ I94 x93 hz) ∧ (∀ f hz (x93 : Int), f 20 = .int .i64 x93 → m f hz = mu95 x93 hz) := ⟨fun f hz => ∃ (x93 : Int), f 20 = .int .i64 x93 ∧ f 1 = .slice (some ⟨b25, o26, none⟩) p1n p1c ∧ f 5 = .int .u64 (IntKind.u64.wrap (1 + ((IntKind.u64.wrap p0).tmod 20))) ∧ f 6 = .pointer x8 ∧ f 8 = .int .u64 x41 ∧ f 9 = .slice (some ⟨h6.size, 0, none⟩) 20 20 ∧ f 10 = .int .i64 x51 ∧ f 11 = .int .i64 x17 ∧ I94 x93 hz, fun f hz => mu95 (VC.dInt (f 20)) hz, fun _ _ x93 a0 a1 a2 a3 a4 a5 a6 a7 z => ⟨x93, a0, a1, a2, a3, a4, a5, a6, a7, z⟩, fun _ _ hz => hz, fun f hz x93 a0 => by simp only [a0]; rfl⟩
                refine VC.wpf_loop I96 mu96 (hin96 _ _ _ rfl a55_2 a55_3 a55_4 a55_5 a55_6 a55_0 a55_7 hI) ?_
                clear hI
                intro f h97 hf
                obtain ⟨x93, a96_0, a96_1, a96_2, a96_3, a96_4, a96_5, a96_6, a96_7, hJ⟩ := hout96 _ _ hf
                replace H := H x93 h97 hJ
                refine VC.wpf_seq ?_
                refine VC.wpf_seq ?_
                refine VC.wpf_region rfl ?_
                refine VC.wpL_op (VC.op_move (v := .int .i64 x93) a96_0 ?_)
                refine VC.wpL_op (VC.op_lss rfl rfl ?_)
                refine VC.wpL_nil ?_
                refine VC.wpf_cond (decide (x93 < 20)) rfl ?_ ?_
                · intro hb
                  replace H := H.1 (of_decide_eq_true hb)
                  refine VC.wpf_skip ?_
                  refine VC.wpf_seq ?_
                  refine VC.wpf_block ?_
                  refine VC.wpf_seq ?_
                  refine VC.wpf_region rfl ?_
                  refine VC.wpL_op (VC.op_move (v := .slice (some ⟨h6.size, 0, none⟩) 20 20) a96_5 ?_)
                  refine VC.wpL_op (VC.op_move (v := .int .i64 x93) a96_0 ?_)
                  obtain ⟨c99, H⟩ := H
                  refine VC.wpL_op (VC.op_indexAddr_slice rfl rfl ei_39 c99 ?_)
                  obtain ⟨x100, c101, H⟩ := H
                  refine VC.wpL_op (VC.op_load1 rfl ag_29 c101 ?_)
                  refine VC.wpL_op (VC.op_neq rfl rfl ?_)
                  refine VC.wpL_op (VC.op_move (v := .bool (!decide (x100 = 0))) rfl ?_)
                  refine VC.wpL_gq (b := !decide (x100 = 0)) (VC.guard_slot rfl rfl) (Value.int .u64 x41) (fun hb N hN => VC.op_move (v := .int .u64 x41) a96_4 hN) ?_
                  refine VC.wpL_gq (b := !decide (x100 = 0)) (VC.guard_slot rfl rfl) (Value.slice (some ⟨h6.size, 0, none⟩) 20 20) (fun hb N hN => VC.op_move (v := .slice (some ⟨h6.size, 0, none⟩) 20 20) a96_5 hN) ?_
                  refine VC.wpL_gq (b := !decide (x100 = 0)) (VC.guard_slot rfl rfl) (Value.int .i64 x93) (fun hb N hN => VC.op_move (v := .int .i64 x93) a96_0 hN) ?_
                  obtain ⟨c103, H⟩ := H
                  refine VC.wpL_gq (b := !decide (x100 = 0)) (VC.guard_slot rfl rfl) (Value.pointer (some ⟨h6.size, 0 + x93.toNat * 1, none⟩)) (fun hb N hN => VC.op_indexAddr_slice (VC.gv hb) (VC.gv hb) ei_39 (c103 (of_decide_eq_false (VC.of_not_true hb))) hN) ?_
                  obtain ⟨x104, c105, H⟩ := H
                  refine VC.wpL_gq (b := !decide (x100 = 0)) (VC.guard_slot rfl rfl) (Value.int .u64 x104) (fun hb N hN => VC.op_load1 (VC.gv hb) ag_29 (c105 (of_decide_eq_false (VC.of_not_true hb))) hN) ?_
                  refine VC.wpL_gq (b := !decide (x100 = 0)) (VC.guard_slot rfl rfl) (Value.int .u64 (IntKind.u64.wrap (1 + ((IntKind.u64.wrap p0).tmod 20)))) (fun hb N hN => VC.op_move (v := .int .u64 (IntKind.u64.wrap (1 + ((IntKind.u64.wrap p0).tmod 20)))) a96_2 hN) ?_
                  refine VC.wpL_gq (b := !decide (x100 = 0)) (VC.guard_slot rfl rfl) (Value.int .u64 (IntKind.u64.wrap (x104 - (IntKind.u64.wrap (1 + ((IntKind.u64.wrap p0).tmod 20)))))) (fun hb N hN => VC.op_sub (VC.gv hb) (VC.gv hb) rfl hN) ?_
                  refine VC.wpL_gq (b := !decide (x100 = 0)) (VC.guard_slot rfl rfl) (Value.bool (decide ((IntKind.u64.wrap (x104 - (IntKind.u64.wrap (1 + ((IntKind.u64.wrap p0).tmod 20))))) ≤ x41))) (fun hb N hN => VC.op_geq (VC.gv hb) (VC.gv hb) hN) ?_
                  refine VC.wpL_op (VC.op_pick_and rfl (fun hq => (VC.gv hq)) rfl ?_)
                  refine VC.wpL_nil ?_
                  refine VC.wpf_cond ((!decide (x100 = 0)) && (decide ((IntKind.u64.wrap (x104 - (IntKind.u64.wrap (1 + ((IntKind.u64.wrap p0).tmod 20))))) ≤ x41))) rfl ?_ ?_
                  · intro hb
                    replace H := H.1 hb
                    refine VC.wpf_seq ?_
                    refine VC.wpf_region rfl ?_
                    refine VC.wpL_op (VC.op_assign (v := .bool false) rfl ?_)
                    refine VC.wpL_nil ?_
                    refine VC.wpf_ret ?_
                    exact VC.ret_leaf (VC.resV_tmp rfl VC.resV_nil) H
                  · intro hb
                    replace H := H.2 hb
                    refine VC.wpf_skip ?_
                    refine VC.wpf_region rfl ?_
                    refine VC.wpL_op (VC.op_move (v := .int .i64 x93) a96_0 ?_)
                    obtain ⟨c108, H⟩ := H
                    refine VC.wpL_op (VC.op_add rfl rfl (VC.wrap_i64 c108) ?_)
                    refine VC.wpL_op (VC.op_assign (v := .int .i64 (x93 + 1)) rfl ?_)
                    refine VC.wpL_nil ?_
                    exact And.intro (hin96 _ _ _ rfl a96_1 a96_2 a96_3 a96_4 a96_5 a96_6 a96_7 H.1) (lt_of (hmu96 _ _ _ rfl) (hmu96 _ _ _ a96_0) H.2)
                · intro hb
                  replace H := H.2 (of_decide_eq_false hb)
                  refine VC.wpf_exit ?_
                  refine VC.wpf_region rfl ?_
                  refine VC.wpL_op (VC.op_move (v := .int .i64 x17) a96_7 ?_)
                  obtain ⟨c109, H⟩ := H
                  refine VC.wpL_op (VC.op_add rfl rfl (VC.wrap_i64 c109) ?_)
                  refine VC.wpL_op (VC.op_assign (v := .int .i64 (x17 + 1)) rfl ?_)
                  refine VC.wpL_nil ?_
                  exact And.intro (hin20 _ _ _ _ _ a96_4 a96_6 rfl a96_1 a96_2 a96_3 a96_5 H.1) (lt_of (hmu20 _ _ _ _ _ a96_4 a96_6 rfl) (hmu20 _ _ _ _ _ a20_0 a20_1 a20_2) H.2)
      · intro hb
        replace H := H.2 hb
        refine VC.wpf_exit ?_
        refine VC.wpf_seq ?_
        refine VC.wpf_region rfl ?_
        refine VC.wpL_op (VC.op_move (v := .pointer x8) a20_5 ?_)
        refine VC.wpL_op (VC.op_move (v := .int .u64 x15) a20_0 ?_)
        refine VC.wpL_op (VC.op_add rfl rfl rfl ?_)
        refine VC.wpL_op (VC.op_call (vs := [.pointer x8, .int .u64 (IntKind.u64.wrap (x15 + 1000))]) en_11 (VC.args_cons rfl (VC.args_cons rfl VC.args_nil)) (CallsH.mono H ?_))
        clear H
        rintro _ h153 ⟨x155a, x155n, x155c, x156, rfl, H⟩
        refine VC.wpL_op (VC.op_move (v := .tuple #[.slice x155a x155n x155c, .int .i64 x156]) rfl ?_)
        refine VC.wpL_op (VC.op_extract rfl rfl ?_)
        refine VC.wpL_op (VC.op_extract rfl rfl ?_)
        refine VC.wpL_op (VC.op_assign (v := .slice x155a x155n x155c) rfl ?_)
        refine VC.wpL_op (VC.op_assign (v := .int .i64 x156) rfl ?_)
        refine VC.wpL_nil ?_
        refine VC.wpf_seq ?_
        refine VC.wpf_region rfl ?_
        refine VC.wpL_op (VC.op_move (v := .int .i64 x156) rfl ?_)
        refine VC.wpL_op (VC.op_eql rfl rfl ?_)
        refine VC.wpL_op (VC.op_move (v := .bool (decide (x156 = 0))) rfl ?_)
        refine VC.wpL_gq (b := decide (x156 = 0)) (VC.guard_slot rfl rfl) (Value.slice x155a x155n x155c) (fun hb N hN => VC.op_move (v := .slice x155a x155n x155c) rfl hN) ?_
        refine VC.wpL_gq (b := decide (x156 = 0)) (VC.guard_slot rfl rfl) (Value.int .i64 (x155n : Int)) (fun hb N hN => VC.op_len_slice (VC.gv hb) un_32 hN) ?_
        refine VC.wpL_gq (b := decide (x156 = 0)) (VC.guard_slot rfl rfl) (Value.int .i64 x16) (fun hb N hN => VC.op_move (v := .int .i64 x16) a20_1 hN) ?_
        refine VC.wpL_gq (b := decide (x156 = 0)) (VC.guard_slot rfl rfl) (Value.bool (decide ((x155n : Int) = x16))) (fun hb N hN => VC.op_eql (VC.gv hb) (VC.gv hb) hN) ?_
        refine VC.wpL_op (VC.op_pick_and rfl (fun hq => (VC.gv hq)) rfl ?_)
        refine VC.wpL_op (VC.op_move (v := .bool ((decide (x156 = 0)) && (decide ((x155n : Int) = x16)))) rfl ?_)
        refine VC.wpL_gq (b := (decide (x156 = 0)) && (decide ((x155n : Int) = x16))) (VC.guard_slot rfl rfl) (Value.pointer x8) (fun hb N hN => VC.op_move (v := .pointer x8) a20_5 hN) ?_
        obtain ⟨J162, HR, HT, HF⟩ := H
        refine VC.wpL_gl (b := (decide (x156 = 0)) && (decide ((x155n : Int) = x16))) (VC.guard_slot rfl rfl) (fun v h159 => ∃ (x161 : Int), v = (bif (decide (x156 = 0)) && (decide ((x155n : Int) = x16)) then (Value.int .i64 x161) else undef) ∧ J162 x161 h159) ?_ ?_ ?_
        · rintro _ h159 ⟨x161, rfl, hJ⟩
          have H := HR x161 h159 hJ
          refine VC.wpL_gq (b := (decide (x156 = 0)) && (decide ((x155n : Int) = x16))) (VC.guard_slot rfl rfl) (Value.bool (decide (x161 = 0))) (fun hb N hN => VC.op_eql (VC.gv hb) rfl hN) ?_
          refine VC.wpL_op (VC.op_pick_and rfl (fun hq => (VC.gv hq)) rfl ?_)
          refine VC.wpL_op (VC.op_assign (v := .bool (((decide (x156 = 0)) && (decide ((x155n : Int) = x16))) && (decide (x161 = 0)))) rfl ?_)
          refine VC.wpL_nil ?_
          refine VC.wpf_ret ?_
          exact VC.ret_leaf (VC.resV_tmp rfl VC.resV_nil) H
        · intro hb
          refine VC.op_call (vs := [.pointer x8]) en_14 (VC.args_cons (VC.gv hb) VC.args_nil) (CallsH.mono (HT hb) ?_)
          rintro _ h159 ⟨x161, rfl, hJ⟩
          exact ⟨x161, VC.bif_true hb, hJ⟩
        · intro hb
          obtain ⟨x161, hJ⟩ := HF hb
          exact ⟨x161, VC.bif_false hb, hJ⟩

/-- linchpinlaw19.LifeLate -/
def F_linchpinlaw19_LifeLate (p0 : Int) (p1a : Option Addr) (p1n : Nat) (p1c : Nat) (p2 : Int) (K : Bool → Heap → Prop) (h : Heap) : Prop :=
  CallsH PR fn_linchpinlaw19_awake #[] h (fun v h1 => ∃ (x3 : Bool), v = (Value.bool x3) ∧ (x3 = false → K false h1) ∧ (x3 = true → CallsH PR fn_life_New #[.int .u64 (IntKind.u64.wrap (1 + (IntKind.u64.wrap p0)))] h1 (fun v h5 => ∃ (x7 : Option Addr) (x8 : Int), v = (Value.tuple #[.pointer x7, .int .i64 x8]) ∧ (((x7.isNone || (!decide (x8 = 0))) || (decide (60 < (p1n : Int)))) = true → K (decide (60 < (p1n : Int))) h5) ∧ (((x7.isNone || (!decide (x8 = 0))) || (decide (60 < (p1n : Int)))) = false → ∃ (I15 : Int → Int → Heap → Prop) (mu16 : Int → Int → Heap → Nat), I15 0 0 h5 ∧ ∀ (x13 : Int) (x14 : Int) (h18 : Heap), I15 x13 x14 h18 → (x14 < (p1n : Int) → ∃ J21 : Int → Heap → Prop, (∀ (x20 : Int) (h23 : Heap), J21 x20 h23 → (-9223372036854775808 ≤ x14 + 1 ∧ x14 + 1 < 9223372036854775808) ∧ (I15 x20 (x14 + 1) h23 ∧ mu16 x20 (x14 + 1) h23 < mu16 x13 x14 h18)) ∧ ∃ (b26 : Nat) (o27 : Nat), p1a = some ⟨b26, o27, none⟩ ∧ (0 ≤ x14 ∧ x14 < (p1n : Int)) ∧ ∃ (x29 : Int), cellH h18 b26 (o27 + x14.toNat * 1) = some (.int .u16 x29) ∧ CallsH PR fn_life_Book_Open #[.pointer x7, .int .i64 (IntKind.i64.wrap x29), .int .u64 (IntKind.u64.wrap ((IntKind.u64.wrap (1 + (IntKind.u64.wrap p0))) + 10))] h18 (fun v h32 => ∃ (x34 : Int), v = (Value.int .i64 x34) ∧ (x34 = 0 → (-9223372036854775808 ≤ x13 + 1 ∧ x13 + 1 < 9223372036854775808) ∧ J21 (x13 + 1) h32) ∧ ((¬ (x34 = 0)) → J21 x13 h32))) ∧ ((¬ (x14 < (p1n : Int))) → ∃ (I39 : Int → Int → Heap → Prop) (mu40 : Int → Int → Heap → Nat), I39 0 0 h18 ∧ ∀ (x37 : Int) (x38 : Int) (h42 : Heap), I39 x37 x38 h42 → (x38 < (p1n : Int) → ∃ J45 : Int → Heap → Prop, (∀ (x44 : Int) (h47 : Heap), J45 x44 h47 → (-9223372036854775808 ≤ x38 + 1 ∧ x38 + 1 < 9223372036854775808) ∧ (I39 x44 (x38 + 1) h47 ∧ mu40 x44 (x38 + 1) h47 < mu40 x37 x38 h42)) ∧ ∃ (b52 : Nat) (o53 : Nat), (((x38.tmod 2) = 0) → p1a = some ⟨b52, o53, none⟩) ∧ (((x38.tmod 2) = 0) → 0 ≤ x38 ∧ x38 < (p1n : Int)) ∧ ∃ (x55 : Int), (((x38.tmod 2) = 0) → cellH h42 b52 (o53 + x38.toNat * 1) = some (.int .u16 x55)) ∧ ∃ J60 : Int → Heap → Prop, (∀ (x59 : Int) (h57 : Heap), J60 x59 h57 → (((decide ((x38.tmod 2) = 0)) && (decide (x59 = 0))) = true → (-9223372036854775808 ≤ x37 + 1 ∧ x37 + 1 < 9223372036854775808) ∧ J45 (x37 + 1) h57) ∧ (((decide ((x38.tmod 2) = 0)) && (decide (x59 = 0))) = false → J45 x37 h57)) ∧ (((x38.tmod 2) = 0) → CallsH PR fn_life_Book_Answer #[.pointer x7, .int .i64 (IntKind.i64.wrap x55), .int .i64 1, .bool false] h42 (fun v h57 => ∃ (x59 : Int), v = (Value.int .i64 x59) ∧ J60 x59 h57)) ∧ ((¬ ((x38.tmod 2) = 0)) → ∃ (x59 : Int), J60 x59 h42)) ∧ ((¬ (x38 < (p1n : Int))) → CallsH PR fn_life_Book_Go #[.pointer x7, .int .u64 ((IntKind.u64.wrap p2).tmod 20)] h42 (fun v h64 => ∃ (x66a : Option Addr) (x66n : Nat) (x66c : Nat) (x67 : Int), v = (Value.tuple #[.slice x66a x66n x66c, .int .i64 x67]) ∧ ∃ J69 : Int → Heap → Prop, (∀ (x68 : Int) (h71 : Heap), J69 x68 h71 → (((!decide (x67 = 0)) || (!decide ((x66n : Int) = x68))) = true → K false h71) ∧ (((!decide (x67 = 0)) || (!decide ((x66n : Int) = x68))) = false → ∃ (I75 : Int → Heap → Prop) (mu76 : Int → Heap → Nat), I75 0 h71 ∧ ∀ (x74 : Int) (h78 : Heap), I75 x74 h78 → (x74 < (p1n : Int) → ∃ (b81 : Nat) (o82 : Nat), p1a = some ⟨b81, o82, none⟩ ∧ (0 ≤ x74 ∧ x74 < (p1n : Int)) ∧ ∃ (x84 : Int), cellH h78 b81 (o82 + x74.toNat * 1) = some (.int .u16 x84) ∧ CallsH PR fn_life_Book_Has #[.pointer x7, .int .i64 (IntKind.i64.wrap x84)] h78 (fun v h86 => ∃ (x88 : Int) (x89 : Bool), v = (Value.tuple #[.int .u64 x88, .bool x89]) ∧ (0 ≤ x74 ∧ x74 < (p1n : Int)) ∧ ∃ (x91 : Int), cellH h86 b81 (o82 + x74.toNat * 1) = some (.int .u16 x91) ∧ CallsH PR fn_life_Book_Answer #[.pointer x7, .int .i64 (IntKind.i64.wrap x91), .int .i64 2, .bool true] h86 (fun v h93 => ∃ (x95 : Int), v = (Value.int .i64 x95) ∧ (((decide (x95 = 0)) = x89) → 0 ≤ x74 ∧ x74 < (p1n : Int)) ∧ ∃ (x99 : Int), (((decide (x95 = 0)) = x89) → cellH h93 b81 (o82 + x74.toNat * 1) = some (.int .u16 x99)) ∧ ∃ J104 : Int → Heap → Prop, (∀ (x103 : Int) (h101 : Heap), J104 x103 h101 → (((!decide ((decide (x95 = 0)) = x89)) || (!decide (x103 = 6))) = true → K false h101) ∧ (((!decide ((decide (x95 = 0)) = x89)) || (!decide (x103 = 6))) = false → (-9223372036854775808 ≤ x74 + 1 ∧ x74 + 1 < 9223372036854775808) ∧ (I75 (x74 + 1) h101 ∧ mu76 (x74 + 1) h101 < mu76 x74 h78))) ∧ (((decide (x95 = 0)) = x89) → CallsH PR fn_life_Book_Answer #[.pointer x7, .int .i64 (IntKind.i64.wrap x99), .int .i64 2, .bool true] h93 (fun v h101 => ∃ (x103 : Int), v = (Value.int .i64 x103) ∧ J104 x103 h101)) ∧ ((¬ ((decide (x95 = 0)) = x89)) → ∃ (x103 : Int), J104 x103 h93)))) ∧ ((¬ (x74 < (p1n : Int))) → CallsH PR fn_life_Book_Go #[.pointer x7, .int .u64 (IntKind.u64.wrap (((IntKind.u64.wrap p2).tmod 20) + 1000))] h78 (fun v h108 => ∃ (x110a : Option Addr) (x110n : Nat) (x110c : Nat) (x111 : Int), v = (Value.tuple #[.slice x110a x110n x110c, .int .i64 x111]) ∧ ∃ J118 : Int → Heap → Prop, (∀ (x117 : Int) (h115 : Heap), J118 x117 h115 → K (((decide (x111 = 0)) && (decide ((x110n : Int) = (IntKind.i64.wrap (x13 - x68))))) && (decide (x117 = 0))) h115) ∧ ((((decide (x111 = 0)) && (decide ((x110n : Int) = (IntKind.i64.wrap (x13 - x68))))) = true) → CallsH PR fn_life_Book_Count #[.pointer x7] h108 (fun v h115 => ∃ (x117 : Int), v = (Value.int .i64 x117) ∧ J118 x117 h115)) ∧ ((((decide (x111 = 0)) && (decide ((x110n : Int) = (IntKind.i64.wrap (x13 - x68))))) = false) → ∃ (x117 : Int), J118 x117 h108))))) ∧ (10 ≤ ((IntKind.u64.wrap p2).tmod 20) → J69 x13 h64) ∧ ((¬ (10 ≤ ((IntKind.u64.wrap p2).tmod 20))) → J69 x37 h64))))))))
theorem F_linchpinlaw19_LifeLate_ok (p0 : Int) (p1a : Option Addr) (p1n : Nat) (p1c : Nat) (p2 : Int) (R : Value → Heap → Prop) (h : Heap) (H : F_linchpinlaw19_LifeLate p0 p1a p1n p1c p2 (fun r0 h' => R (Value.bool r0) h') h) : CallsH PR fn_linchpinlaw19_LifeLate #[.int .u8 p0, .slice p1a p1n p1c, .int .u8 p2] h R := by
  refine VC.callsH_of (args := [.int .u8 p0, .slice p1a p1n p1c, .int .u8 p2]) Try.func5 rfl rfl ?_
  intro f hf
  have e0 := hf 0 _ rfl
  have e1 := hf 1 _ rfl
  have e2 := hf 2 _ rfl
  clear hf
  unfold F_linchpinlaw19_LifeLate at H
  refine VC.wpf_seq ?_
  refine VC.wpf_region rfl ?_
  refine VC.wpL_op (VC.op_assign (v := .bool false) rfl ?_)
  refine VC.wpL_nil ?_
  refine VC.wpf_seq ?_
  refine VC.wpf_seq ?_
  refine VC.wpf_region rfl ?_
  refine VC.wpL_op (VC.op_call (vs := []) en_8 VC.args_nil (CallsH.mono H ?_))
  clear H
  rintro _ h1 ⟨x3, rfl, H⟩
  refine VC.wpL_op (VC.op_not rfl ?_)
  refine VC.wpL_nil ?_
  refine VC.wpf_cond (!x3) rfl ?_ ?_
  · intro hb
    replace H := H.1 (VC.of_not_true hb)
    refine VC.wpf_seq ?_
    refine VC.wpf_region rfl ?_
    refine VC.wpL_op (VC.op_assign (v := .bool false) rfl ?_)
    refine VC.wpL_nil ?_
    refine VC.wpf_ret ?_
    exact VC.ret_leaf (VC.resV_tmp rfl VC.resV_nil) H
  · intro hb
    replace H := H.2 (VC.of_not_false hb)
    refine VC.wpf_skip ?_
    refine VC.wpf_seq ?_
    refine VC.wpf_region rfl ?_
    refine VC.wpL_op (VC.op_move (v := .int .u8 p0) e0 ?_)
    refine VC.wpL_op (VC.op_conv rfl (congrArg (Option.map fun _ => ()) un_5) un_29 rfl ?_)
    refine VC.wpL_op (VC.op_add rfl rfl rfl ?_)
    refine VC.wpL_op (VC.op_assign (v := .int .u64 (IntKind.u64.wrap (1 + (IntKind.u64.wrap p0)))) rfl ?_)
    refine VC.wpL_nil ?_
    refine VC.wpf_seq ?_
    refine VC.wpf_region rfl ?_
    refine VC.wpL_op (VC.op_move (v := .int .u64 (IntKind.u64.wrap (1 + (IntKind.u64.wrap p0)))) rfl ?_)
    refine VC.wpL_op (VC.op_call (vs := [.int .u64 (IntKind.u64.wrap (1 + (IntKind.u64.wrap p0)))]) en_9 (VC.args_cons rfl VC.args_nil) (CallsH.mono H ?_))
    clear H
    rintro _ h5 ⟨x7, x8, rfl, H⟩
    refine VC.wpL_op (VC.op_move (v := .tuple #[.pointer x7, .int .i64 x8]) rfl ?_)
    refine VC.wpL_op (VC.op_extract rfl rfl ?_)
    refine VC.wpL_op (VC.op_extract rfl rfl ?_)
    refine VC.wpL_op (VC.op_assign (v := .pointer x7) rfl ?_)
    refine VC.wpL_op (VC.op_assign (v := .int .i64 x8) rfl ?_)
    refine VC.wpL_nil ?_
    refine VC.wpf_seq ?_
    refine VC.wpf_seq ?_
    refine VC.wpf_region rfl ?_
    refine VC.wpL_op (VC.op_move (v := .pointer x7) rfl ?_)
    refine VC.wpL_op (VC.op_eq_ptr_nil rfl rfl un_25 ?_)
    refine VC.wpL_op (VC.op_move (v := .bool x7.isNone) rfl ?_)
    refine VC.wpL_gq (b := !x7.isNone) (VC.guard_slot rfl rfl) (Value.int .i64 x8) (fun hb N hN => VC.op_move (v := .int .i64 x8) rfl hN) ?_
    refine VC.wpL_gq (b := !x7.isNone) (VC.guard_slot rfl rfl) (Value.bool (!decide (x8 = 0))) (fun hb N hN => VC.op_neq (VC.gv hb) rfl hN) ?_
    refine VC.wpL_op (VC.op_pick_or rfl rfl (fun hq => (VC.gv (VC.not_of_false hq))) ?_)
    refine VC.wpL_op (VC.op_move (v := .bool (x7.isNone || (!decide (x8 = 0)))) rfl ?_)
    refine VC.wpL_gq (b := !(x7.isNone || (!decide (x8 = 0)))) (VC.guard_slot rfl rfl) (Value.slice p1a p1n p1c) (fun hb N hN => VC.op_move (v := .slice p1a p1n p1c) e1 hN) ?_
    refine VC.wpL_gq (b := !(x7.isNone || (!decide (x8 = 0)))) (VC.guard_slot rfl rfl) (Value.int .i64 (p1n : Int)) (fun hb N hN => VC.op_len_slice (VC.gv hb) un_22 hN) ?_
    refine VC.wpL_gq (b := !(x7.isNone || (!decide (x8 = 0)))) (VC.guard_slot rfl rfl) (Value.bool (decide (60 < (p1n : Int)))) (fun hb N hN => VC.op_gtr (VC.gv hb) rfl hN) ?_
    refine VC.wpL_op (VC.op_pick_or rfl rfl (fun hq => (VC.gv (VC.not_of_false hq))) ?_)
    refine VC.wpL_nil ?_
    refine VC.wpf_cond ((x7.isNone || (!decide (x8 = 0))) || (decide (60 < (p1n : Int)))) rfl ?_ ?_
    · intro hb
      replace H := H.1 hb
      refine VC.wpf_seq ?_
      refine VC.wpf_region rfl ?_
      refine VC.wpL_op (VC.op_move (v := .slice p1a p1n p1c) e1 ?_)
      refine VC.wpL_op (VC.op_len_slice rfl un_22 ?_)
      refine VC.wpL_op (VC.op_gtr rfl rfl ?_)
      refine VC.wpL_op (VC.op_assign (v := .bool (decide (60 < (p1n : Int)))) rfl ?_)
      refine VC.wpL_nil ?_
      refine VC.wpf_ret ?_
      exact VC.ret_leaf (VC.resV_tmp rfl VC.resV_nil) H
    · intro hb
      replace H := H.2 hb
      refine VC.wpf_skip ?_
      refine VC.wpf_seq ?_
      refine VC.wpf_region rfl ?_
      refine VC.wpL_op (VC.op_assign (v := .int .i64 0) rfl ?_)
      refine VC.wpL_nil ?_
      refine VC.wpf_seq ?_
      refine VC.wpf_seq ?_
      refine VC.wpf_region rfl ?_
      refine VC.wpL_op (VC.op_assign (v := .int .i64 0) rfl ?_)
      refine VC.wpL_nil ?_
      refine VC.wpf_block ?_
      obtain ⟨I15, mu16, hI, H⟩ := H
      obtain ⟨I17, mu17, hin17, hout17, hmu17⟩ : ∃ (J17 : VC.Fr → Heap → Prop) (m : VC.Fr → Heap → Nat), (∀ f hz (x13 : Int) (x14 : Int), f 10 = .int .i64 x13 → f 11 = .int .i64 x14 → f 1 = .slice p1a p1n p1c → f 2 = .int .u8 p2 → f 7 = .int .u64 (IntKind.u64.wrap (1 + (IntKind.u64.wrap p0))) → f 8 = .pointer x7 → I15 x13 x14 hz → J17 f hz) ∧ (∀ f hz, J17 f hz → ∃ (x13 : Int) (x14 : Int), f 10 = .int .i64 x13 ∧ f 11 = .int .i64 x14 ∧ f 1 = .slice p1a p1n p1c ∧ f 2 = .int .u8 p2 ∧ f 7 = .int .u64 (IntKind.u64.wrap (1 + (IntKind.u64.wrap p0))) ∧ f 8 = .pointer x7 ∧ I15 x13 x14 hz) ∧ (∀ f hz (x13 : Int) (x14 : Int), f 10 = .int .i64 x13 → f 11 = .int .i64 x14 → m f hz = mu16 x13 x14 hz) := ⟨fun f hz => ∃ (x13 : Int) (x14 : Int), f 10 = .int .i64 x13 ∧ f 11 = .int .i64 x14 ∧ f 1 = .slice p1a p1n p1c ∧ f 2 = .int .u8 p2 ∧ f 7 = .int .u64 (IntKind.u64.wrap (1 + (IntKind.u64.wrap p0))) ∧ f 8 = .pointer x7 ∧ I15 x13 x14 hz, fun f hz => mu16 (VC.dInt (f 10)) (VC.dInt (f 11)) hz, fun _ _ x13 x14 a0 a1 a2 a3 a4 a5 z => ⟨x13, x14, a0, a1, a2, a3, a4, a5, z⟩, fun _ _ hz => hz, fun f hz x13 x14 a0 a1 => by simp only [a0, a1]; rfl⟩
      refine VC.wpf_loop I17 mu17 (hin17 _ _ _ _ rfl rfl e1 e2 rfl rfl hI) ?_
      clear hI
      intro f h18 hf
      obtain ⟨x13, x14, a17_0, a17_1, a17_2, a17_3, a17_4, a17_5, hJ⟩ := hout17 _ _ hf
      replace H := H x13 x14 h18 hJ
      refine VC.wpf_seq ?_
      refine VC.wpf_seq ?_
      refine VC.wpf_region rfl ?_
      refine VC.wpL_op (VC.op_move (v := .int .i64 x14) a17_1 ?_)
      refine VC.wpL_op (VC.op_move (v := .slice p1a p1n p1c) a17_2 ?_)
      refine VC.wpL_op (VC.op_len_slice rfl un_22 ?_)
      refine VC.wpL_op (VC.op_lss rfl rfl ?_)
      refine VC.wpL_nil ?_
      refine VC.wpf_cond (decide (x14 < (p1n : Int))) rfl ?_ ?_
      · intro hb
        replace H := H.1 (of_decide_eq_true hb)
        refine VC.wpf_skip ?_
        obtain ⟨J21, HR, H⟩ := H
        obtain ⟨J22, hin22, hout22⟩ : ∃ J22 : VC.Fr → Heap → Prop, (∀ f hz (x20 : Int), f 10 = .int .i64 x20 → f 1 = .slice p1a p1n p1c → f 2 = .int .u8 p2 → f 7 = .int .u64 (IntKind.u64.wrap (1 + (IntKind.u64.wrap p0))) → f 8 = .pointer x7 → f 11 = .int .i64 x14 → J21 x20 hz → J22 f hz) ∧ (∀ f hz, J22 f hz → ∃ (x20 : Int), f 10 = .int .i64 x20 ∧ f 1 = .slice p1a p1n p1c ∧ f 2 = .int .u8 p2 ∧ f 7 = .int .u64 (IntKind.u64.wrap (1 + (IntKind.u64.wrap p0))) ∧ f 8 = .pointer x7 ∧ f 11 = .int .i64 x14 ∧ J21 x20 hz) := ⟨fun f hz => ∃ (x20 : Int), f 10 = .int .i64 x20 ∧ f 1 = .slice p1a p1n p1c ∧ f 2 = .int .u8 p2 ∧ f 7 = .int .u64 (IntKind.u64.wrap (1 + (IntKind.u64.wrap p0))) ∧ f 8 = .pointer x7 ∧ f 11 = .int .i64 x14 ∧ J21 x20 hz, fun _ _ x20 a0 a1 a2 a3 a4 a5 z => ⟨x20, a0, a1, a2, a3, a4, a5, z⟩, fun _ _ hz => hz⟩
        refine VC.wpf_seq_cut J22 ?_ ?_
        · skip
          refine VC.wpf_block ?_
          refine VC.wpf_seq ?_
          refine VC.wpf_region rfl ?_
          refine VC.wpL_op (VC.op_move (v := .pointer x7) a17_5 ?_)
          refine VC.wpL_op (VC.op_move (v := .slice p1a p1n p1c) a17_2 ?_)
          refine VC.wpL_op (VC.op_move (v := .int .i64 x14) a17_1 ?_)
          obtain ⟨b26, o27, rfl, H⟩ := H
          obtain ⟨c25, H⟩ := H
          refine VC.wpL_op (VC.op_indexAddr_slice rfl rfl ei_22 c25 ?_)
          obtain ⟨x29, c30, H⟩ := H
          refine VC.wpL_op (VC.op_load1 rfl ag_31 c30 ?_)
          refine VC.wpL_op (VC.op_conv rfl (congrArg (Option.map fun _ => ()) un_31) un_3 rfl ?_)
          refine VC.wpL_op (VC.op_move (v := .int .u64 (IntKind.u64.wrap (1 + (IntKind.u64.wrap p0)))) a17_4 ?_)
          refine VC.wpL_op (VC.op_add rfl rfl rfl ?_)
          refine VC.wpL_op (VC.op_call (vs := [.pointer x7, .int .i64 (IntKind.i64.wrap x29), .int .u64 (IntKind.u64.wrap ((IntKind.u64.wrap (1 + (IntKind.u64.wrap p0))) + 10))]) en_10 (VC.args_cons rfl (VC.args_cons rfl (VC.args_cons rfl VC.args_nil))) (CallsH.mono H ?_))
          clear H
          rintro _ h32 ⟨x34, rfl, H⟩
          refine VC.wpL_op (VC.op_eql rfl rfl ?_)
          refine VC.wpL_nil ?_
          refine VC.wpf_cond (decide (x34 = 0)) rfl ?_ ?_
          · intro hb
            replace H := H.1 (of_decide_eq_true hb)
            refine VC.wpf_region rfl ?_
            refine VC.wpL_op (VC.op_move (v := .int .i64 x13) a17_0 ?_)
            obtain ⟨c36, H⟩ := H
            refine VC.wpL_op (VC.op_add rfl rfl (VC.wrap_i64 c36) ?_)
            refine VC.wpL_op (VC.op_assign (v := .int .i64 (x13 + 1)) rfl ?_)
            refine VC.wpL_nil ?_
            exact hin22 _ _ _ rfl a17_2 a17_3 a17_4 a17_5 a17_1 H
          · intro hb
            replace H := H.2 (of_decide_eq_false hb)
            refine VC.wpf_skip ?_
            exact hin22 _ _ _ a17_0 a17_2 a17_3 a17_4 a17_5 a17_1 H
        · clear H
          intro f h23 hf
          obtain ⟨x20, a22_0, a22_1, a22_2, a22_3, a22_4, a22_5, hJ⟩ := hout22 _ _ hf
          have H := HR x20 h23 hJ
          refine VC.wpf_region rfl ?_
          refine VC.wpL_op (VC.op_move (v := .int .i64 x14) a22_5 ?_)
          obtain ⟨c24, H⟩ := H
          refine VC.wpL_op (VC.op_add rfl rfl (VC.wrap_i64 c24) ?_)
          refine VC.wpL_op (VC.op_assign (v := .int .i64 (x14 + 1)) rfl ?_)
          refine VC.wpL_nil ?_
          exact And.intro (hin17 _ _ _ _ a22_0 rfl a22_1 a22_2 a22_3 a22_4 H.1) (lt_of (hmu17 _ _ _ _ a22_0 rfl) (hmu17 _ _ _ _ a17_0 a17_1) H.2)
      · intro hb
        replace H := H.2 (of_decide_eq_false hb)
        refine VC.wpf_exit ?_
        refine VC.wpf_seq ?_
        refine VC.wpf_region rfl ?_
        refine VC.wpL_op (VC.op_assign (v := .int .i64 0) rfl ?_)
        refine VC.wpL_nil ?_
        refine VC.wpf_seq ?_
        refine VC.wpf_seq ?_
        refine VC.wpf_region rfl ?_
        refine VC.wpL_op (VC.op_assign (v := .int .i64 0) rfl ?_)
        refine VC.wpL_nil ?_
        refine VC.wpf_block ?_
        obtain ⟨I39, mu40, hI, H⟩ := H
        obtain ⟨I41, mu41, hin41, hout41, hmu41⟩ : ∃ (J41 : VC.Fr → Heap → Prop) (m : VC.Fr → Heap → Nat), (∀ f hz (x37 : Int) (x38 : Int), f 12 = .int .i64 x37 → f 13 = .int .i64 x38 → f 1 = .slice p1a p1n p1c → f 2 = .int .u8 p2 → f 8 = .pointer x7 → f 10 = .int .i64 x13 → I39 x37 x38 hz → J41 f hz) ∧ (∀ f hz, J41 f hz → ∃ (x37 : Int) (x38 : Int), f 12 = .int .i64 x37 ∧ f 13 = .int .i64 x38 ∧ f 1 = .slice p1a p1n p1c ∧ f 2 = .int .u8 p2 ∧ f 8 = .pointer x7 ∧ f 10 = .int .i64 x13 ∧ I39 x37 x38 hz) ∧ (∀ f hz (x37 : Int) (x38 : Int), f 12 = .int .i64 x37 → f 13 = .int .i64 x38 → m f hz = mu40 x37 x38 hz) := ⟨fun f hz => ∃ (x37 : Int) (x38 : Int), f 12 = .int .i64 x37 ∧ f 13 = .int .i64 x38 ∧ f 1 = .slice p1a p1n p1c ∧ f 2 = .int .u8 p2 ∧ f 8 = .pointer x7 ∧ f 10 = .int .i64 x13 ∧ I39 x37 x38 hz, fun f hz => mu40 (VC.dInt (f 12)) (VC.dInt (f 13)) hz, fun _ _ x37 x38 a0 a1 a2 a3 a4 a5 z => ⟨x37, x38, a0, a1, a2, a3, a4, a5, z⟩, fun _ _ hz => hz, fun f hz x37 x38 a0 a1 => by simp only [a0, a1]; rfl⟩
        refine VC.wpf_loop I41 mu41 (hin41 _ _ _ _ rfl rfl a17_2 a17_3 a17_5 a17_0 hI) ?_
        clear hI
        intro f h42 hf
        obtain ⟨x37, x38, a41_0, a41_1, a41_2, a41_3, a41_4, a41_5, hJ⟩ := hout41 _ _ hf
        replace H := H x37 x38 h42 hJ
        refine VC.wpf_seq ?_
        refine VC.wpf_seq ?_
        refine VC.wpf_region rfl ?_
        refine VC.wpL_op (VC.op_move (v := .int .i64 x38) a41_1 ?_)
        refine VC.wpL_op (VC.op_move (v := .slice p1a p1n p1c) a41_2 ?_)
        refine VC.wpL_op (VC.op_len_slice rfl un_22 ?_)
        refine VC.wpL_op (VC.op_lss rfl rfl ?_)
        refine VC.wpL_nil ?_
        refine VC.wpf_cond (decide (x38 < (p1n : Int))) rfl ?_ ?_
        · intro hb
          replace H := H.1 (of_decide_eq_true hb)
          refine VC.wpf_skip ?_
          obtain ⟨J45, HR, H⟩ := H
          obtain ⟨J46, hin46, hout46⟩ : ∃ J46 : VC.Fr → Heap → Prop, (∀ f hz (x44 : Int), f 12 = .int .i64 x44 → f 1 = .slice p1a p1n p1c → f 2 = .int .u8 p2 → f 8 = .pointer x7 → f 10 = .int .i64 x13 → f 13 = .int .i64 x38 → J45 x44 hz → J46 f hz) ∧ (∀ f hz, J46 f hz → ∃ (x44 : Int), f 12 = .int .i64 x44 ∧ f 1 = .slice p1a p1n p1c ∧ f 2 = .int .u8 p2 ∧ f 8 = .pointer x7 ∧ f 10 = .int .i64 x13 ∧ f 13 = .int .i64 x38 ∧ J45 x44 hz) := ⟨fun f hz => ∃ (x44 : Int), f 12 = .int .i64 x44 ∧ f 1 = .slice p1a p1n p1c ∧ f 2 = .int .u8 p2 ∧ f 8 = .pointer x7 ∧ f 10 = .int .i64 x13 ∧ f 13 = .int .i64 x38 ∧ J45 x44 hz, fun _ _ x44 a0 a1 a2 a3 a4 a5 z => ⟨x44, a0, a1, a2, a3, a4, a5, z⟩, fun _ _ hz => hz⟩
          refine VC.wpf_seq_cut J46 ?_ ?_
          · skip
            refine VC.wpf_block ?_
            refine VC.wpf_seq ?_
            refine VC.wpf_region rfl ?_
            refine VC.wpL_op (VC.op_move (v := .int .i64 x38) a41_1 ?_)
            refine VC.wpL_op (VC.op_rem rfl rfl (by decide) rfl ?_)
            refine VC.wpL_op (VC.op_eql rfl rfl ?_)
            refine VC.wpL_op (VC.op_move (v := .bool (decide ((x38.tmod 2) = 0))) rfl ?_)
            refine VC.wpL_gq (b := decide ((x38.tmod 2) = 0)) (VC.guard_slot rfl rfl) (Value.pointer x7) (fun hb N hN => VC.op_move (v := .pointer x7) a41_4 hN) ?_
            refine VC.wpL_gq (b := decide ((x38.tmod 2) = 0)) (VC.guard_slot rfl rfl) (Value.slice p1a p1n p1c) (fun hb N hN => VC.op_move (v := .slice p1a p1n p1c) a41_2 hN) ?_
            refine VC.wpL_gq (b := decide ((x38.tmod 2) = 0)) (VC.guard_slot rfl rfl) (Value.int .i64 x38) (fun hb N hN => VC.op_move (v := .int .i64 x38) a41_1 hN) ?_
            obtain ⟨b52, o53, c54, H⟩ := H
            obtain ⟨c51, H⟩ := H
            refine VC.wpL_gq (b := decide ((x38.tmod 2) = 0)) (VC.guard_slot rfl rfl) (Value.pointer (some ⟨b52, o53 + x38.toNat * 1, none⟩)) (fun hb N hN => VC.op_indexAddr_slice (Eq.trans (VC.gv hb) (congrArg (fun a => Value.slice a p1n p1c) (c54 (of_decide_eq_true hb)))) (VC.gv hb) ei_22 (c51 (of_decide_eq_true hb)) hN) ?_
            obtain ⟨x55, c56, H⟩ := H
            refine VC.wpL_gq (b := decide ((x38.tmod 2) = 0)) (VC.guard_slot rfl rfl) (Value.int .u16 x55) (fun hb N hN => VC.op_load1 (VC.gv hb) ag_31 (c56 (of_decide_eq_true hb)) hN) ?_
            refine VC.wpL_gq (b := decide ((x38.tmod 2) = 0)) (VC.guard_slot rfl rfl) (Value.int .i64 (IntKind.i64.wrap x55)) (fun hb N hN => VC.op_conv (VC.gv hb) (congrArg (Option.map fun _ => ()) un_31) un_3 rfl hN) ?_
            obtain ⟨J60, HR, HT, HF⟩ := H
            refine VC.wpL_gl (b := decide ((x38.tmod 2) = 0)) (VC.guard_slot rfl rfl) (fun v h57 => ∃ (x59 : Int), v = (bif decide ((x38.tmod 2) = 0) then (Value.int .i64 x59) else undef) ∧ J60 x59 h57) ?_ ?_ ?_
            · rintro _ h57 ⟨x59, rfl, hJ⟩
              have H := HR x59 h57 hJ
              refine VC.wpL_gq (b := decide ((x38.tmod 2) = 0)) (VC.guard_slot rfl rfl) (Value.bool (decide (x59 = 0))) (fun hb N hN => VC.op_eql (VC.gv hb) rfl hN) ?_
              refine VC.wpL_op (VC.op_pick_and rfl (fun hq => (VC.gv hq)) rfl ?_)
              refine VC.wpL_nil ?_
              refine VC.wpf_cond ((decide ((x38.tmod 2) = 0)) && (decide (x59 = 0))) rfl ?_ ?_
              · intro hb
                replace H := H.1 hb
                refine VC.wpf_region rfl ?_
                refine VC.wpL_op (VC.op_move (v := .int .i64 x37) a41_0 ?_)
                obtain ⟨c62, H⟩ := H
                refine VC.wpL_op (VC.op_add rfl rfl (VC.wrap_i64 c62) ?_)
                refine VC.wpL_op (VC.op_assign (v := .int .i64 (x37 + 1)) rfl ?_)
                refine VC.wpL_nil ?_
                exact hin46 _ _ _ rfl a41_2 a41_3 a41_4 a41_5 a41_1 H
              · intro hb
                replace H := H.2 hb
                refine VC.wpf_skip ?_
                exact hin46 _ _ _ a41_0 a41_2 a41_3 a41_4 a41_5 a41_1 H
            · intro hb
              refine VC.op_call (vs := [.pointer x7, .int .i64 (IntKind.i64.wrap x55), .int .i64 1, .bool false]) en_12 (VC.args_cons (VC.gv hb) (VC.args_cons (VC.gv hb) (VC.args_cons rfl (VC.args_cons rfl VC.args_nil)))) (CallsH.mono (HT (of_decide_eq_true hb)) ?_)
              rintro _ h57 ⟨x59, rfl, hJ⟩
              exact ⟨x59, VC.bif_true hb, hJ⟩
            · intro hb
              obtain ⟨x59, hJ⟩ := HF (of_decide_eq_false hb)
              exact ⟨x59, VC.bif_false hb, hJ⟩
          · clear H
            intro f h47 hf
            obtain ⟨x44, a46_0, a46_1, a46_2, a46_3, a46_4, a46_5, hJ⟩ := hout46 _ _ hf
            have H := HR x44 h47 hJ
            refine VC.wpf_region rfl ?_
            refine VC.wpL_op (VC.op_move (v := .int .i64 x38) a46_5 ?_)
            obtain ⟨c48, H⟩ := H
            refine VC.wpL_op (VC.op_add rfl rfl (VC.wrap_i64 c48) ?_)
            refine VC.wpL_op (VC.op_assign (v := .int .i64 (x38 + 1)) rfl ?_)
            refine VC.wpL_nil ?_
            exact And.intro (hin41 _ _ _ _ a46_0 rfl a46_1 a46_2 a46_3 a46_4 H.1) (lt_of (hmu41 _ _ _ _ a46_0 rfl) (hmu41 _ _ _ _ a41_0 a41_1) H.2)
        · intro hb
          replace H := H.2 (of_decide_eq_false hb)
          refine VC.wpf_exit ?_
          refine VC.wpf_seq ?_
          refine VC.wpf_region rfl ?_
          refine VC.wpL_op (VC.op_move (v := .int .u8 p2) a41_3 ?_)
          refine VC.wpL_op (VC.op_conv rfl (congrArg (Option.map fun _ => ()) un_5) un_29 rfl ?_)
          refine VC.wpL_op (VC.op_rem rfl rfl (by decide) rfl ?_)
          refine VC.wpL_op (VC.op_assign (v := .int .u64 ((IntKind.u64.wrap p2).tmod 20)) rfl ?_)
          refine VC.wpL_nil ?_
          refine VC.wpf_seq ?_
          refine VC.wpf_region rfl ?_
          refine VC.wpL_op (VC.op_move (v := .pointer x7) a41_4 ?_)
          refine VC.wpL_op (VC.op_move (v := .int .u64 ((IntKind.u64.wrap p2).tmod 20)) rfl ?_)
          refine VC.wpL_op (VC.op_call (vs := [.pointer x7, .int .u64 ((IntKind.u64.wrap p2).tmod 20)]) en_11 (VC.args_cons rfl (VC.args_cons rfl VC.args_nil)) (CallsH.mono H ?_))
          clear H
          rintro _ h64 ⟨x66a, x66n, x66c, x67, rfl, H⟩
          refine VC.wpL_op (VC.op_move (v := .tuple #[.slice x66a x66n x66c, .int .i64 x67]) rfl ?_)
          refine VC.wpL_op (VC.op_extract rfl rfl ?_)
          refine VC.wpL_op (VC.op_extract rfl rfl ?_)
          refine VC.wpL_op (VC.op_assign (v := .slice x66a x66n x66c) rfl ?_)
          refine VC.wpL_op (VC.op_assign (v := .int .i64 x67) rfl ?_)
          refine VC.wpL_nil ?_
          refine VC.wpf_seq ?_
          refine VC.wpf_region rfl ?_
          refine VC.wpL_op (VC.op_move (v := .int .i64 x37) a41_0 ?_)
          refine VC.wpL_op (VC.op_assign (v := .int .i64 x37) rfl ?_)
          refine VC.wpL_nil ?_
          obtain ⟨J69, HR, H⟩ := H
          obtain ⟨J70, hin70, hout70⟩ : ∃ J70 : VC.Fr → Heap → Prop, (∀ f hz (x68 : Int), f 17 = .int .i64 x68 → f 1 = .slice p1a p1n p1c → f 8 = .pointer x7 → f 10 = .int .i64 x13 → f 14 = .int .u64 ((IntKind.u64.wrap p2).tmod 20) → f 15 = .slice x66a x66n x66c → f 16 = .int .i64 x67 → J69 x68 hz → J70 f hz) ∧ (∀ f hz, J70 f hz → ∃ (x68 : Int), f 17 = .int .i64 x68 ∧ f 1 = .slice p1a p1n p1c ∧ f 8 = .pointer x7 ∧ f 10 = .int .i64 x13 ∧ f 14 = .int .u64 ((IntKind.u64.wrap p2).tmod 20) ∧ f 15 = .slice x66a x66n x66c ∧ f 16 = .int .i64 x67 ∧ J69 x68 hz) := ⟨fun f hz => ∃ (x68 : Int), f 17 = .int .i64 x68 ∧ f 1 = .slice p1a p1n p1c ∧ f 8 = .pointer x7 ∧ f 10 = .int .i64 x13 ∧ f 14 = .int .u64 ((IntKind.u64.wrap p2).tmod 20) ∧ f 15 = .slice x66a x66n x66c ∧ f 16 = .int .i64 x67 ∧ J69 x68 hz, fun _ _ x68 a0 a1 a2 a3 a4 a5 a6 z => ⟨x68, a0, a1, a2, a3, a4, a5, a6, z⟩, fun _ _ hz => hz⟩
          refine VC.wpf_seq_cut J70 ?_ ?_
          · skip
            refine VC.wpf_seq ?_
            refine VC.wpf_region rfl ?_
            refine VC.wpL_op (VC.op_move (v := .int .u64 ((IntKind.u64.wrap p2).tmod 20)) rfl ?_)
            refine VC.wpL_op (VC.op_geq rfl rfl ?_)
            refine VC.wpL_nil ?_
            refine VC.wpf_cond (decide (10 ≤ ((IntKind.u64.wrap p2).tmod 20))) rfl ?_ ?_
            · intro hb
              replace H := H.1 (of_decide_eq_true hb)
              refine VC.wpf_region rfl ?_
              refine VC.wpL_op (VC.op_move (v := .int .i64 x13) a41_5 ?_)
              refine VC.wpL_op (VC.op_assign (v := .int .i64 x13) rfl ?_)
              refine VC.wpL_nil ?_
              exact hin70 _ _ _ rfl a41_2 a41_4 a41_5 rfl rfl rfl H
            · intro hb
              replace H := H.2 (of_decide_eq_false hb)
              refine VC.wpf_skip ?_
              exact hin70 _ _ _ rfl a41_2 a41_4 a41_5 rfl rfl rfl H
          · clear H
            intro f h71 hf
            obtain ⟨x68, a70_0, a70_1, a70_2, a70_3, a70_4, a70_5, a70_6, hJ⟩ := hout70 _ _ hf
            have H := HR x68 h71 hJ
            refine VC.wpf_seq ?_
            refine VC.wpf_seq ?_
            refine VC.wpf_region rfl ?_
            refine VC.wpL_op (VC.op_move (v := .int .i64 x67) a70_6 ?_)
            refine VC.wpL_op (VC.op_neq rfl rfl ?_)
            refine VC.wpL_op (VC.op_move (v := .bool (!decide (x67 = 0))) rfl ?_)
            refine VC.wpL_gq (b := !(!decide (x67 = 0))) (VC.guard_slot rfl rfl) (Value.slice x66a x66n x66c) (fun hb N hN => VC.op_move (v := .slice x66a x66n x66c) a70_5 hN) ?_
            refine VC.wpL_gq (b := !(!decide (x67 = 0))) (VC.guard_slot rfl rfl) (Value.int .i64 (x66n : Int)) (fun hb N hN => VC.op_len_slice (VC.gv hb) un_32 hN) ?_
            refine VC.wpL_gq (b := !(!decide (x67 = 0))) (VC.guard_slot rfl rfl) (Value.int .i64 x68) (fun hb N hN => VC.op_move (v := .int .i64 x68) a70_0 hN) ?_
            refine VC.wpL_gq (b := !(!decide (x67 = 0))) (VC.guard_slot rfl rfl) (Value.bool (!decide ((x66n : Int) = x68))) (fun hb N hN => VC.op_neq (VC.gv hb) (VC.gv hb) hN) ?_
            refine VC.wpL_op (VC.op_pick_or rfl rfl (fun hq => (VC.gv (VC.not_of_false hq))) ?_)
            refine VC.wpL_nil ?_
            refine VC.wpf_cond ((!decide (x67 = 0)) || (!decide ((x66n : Int) = x68))) rfl ?_ ?_
            · intro hb
              replace H := H.1 hb
              refine VC.wpf_seq ?_
              refine VC.wpf_region rfl ?_
              refine VC.wpL_op (VC.op_assign (v := .bool false) rfl ?_)
              refine VC.wpL_nil ?_
              refine VC.wpf_ret ?_
              exact VC.ret_leaf (VC.resV_tmp rfl VC.resV_nil) H
            · intro hb
              replace H := H.2 hb
              refine VC.wpf_skip ?_
              refine VC.wpf_seq ?_
              refine VC.wpf_seq ?_
              refine VC.wpf_region rfl ?_
              refine VC.wpL_op (VC.op_assign (v := .int .i64 0) rfl ?_)
              refine VC.wpL_nil ?_
              refine VC.wpf_block ?_
              obtain ⟨I75, mu76, hI, H⟩ := H
              obtain ⟨I77, mu77, hin77, hout77, hmu77⟩ : ∃ (J77 : VC.Fr → Heap → Prop) (m : VC.Fr → Heap → Nat), (∀ f hz (x74 : Int), f 18 = .int .i64 x74 → f 1 = .slice p1a p1n p1c → f 8 = .pointer x7 → f 10 = .int .i64 x13 → f 14 = .int .u64 ((IntKind.u64.wrap p2).tmod 20) → f 17 = .int .i64 x68 → I75 x74 hz → J77 f hz) ∧ (∀ f hz, J77 f hz → ∃ (x74 : Int), f 18 = .int .i64 x74 ∧ f 1 = .slice p1a p1n p1c ∧ f 8 = .pointer x7 ∧ f 10 = .int .i64 x13 ∧ f 14 = .int .u64 ((IntKind.u64.wrap p2).tmod 20) ∧ f 17 = .int .i64 x68 ∧ I75 x74 hz) ∧ (∀ f hz (x74 : Int), f 18 = .int .i64 x74 → m f hz = mu76 x74 hz) := ⟨fun f hz => ∃ (x74 : Int), f 18 = .int .i64 x74 ∧ f 1 = .slice p1a p1n p1c ∧ f 8 = .pointer x7 ∧ f 10 = .int .i64 x13 ∧ f 14 = .int .u64 ((IntKind.u64.wrap p2).tmod 20) ∧ f 17 = .int .i64 x68 ∧ I75 x74 hz, fun f hz => mu76 (VC.dInt (f 18)) hz, fun _ _ x74 a0 a1 a2 a3 a4 a5 z => ⟨x74, a0, a1, a2, a3, a4, a5, z⟩, fun _ _ hz => hz, fun f hz x74 a0 => by simp only [a0]; rfl⟩
              refine VC.wpf_loop I77 mu77 (hin77 _ _ _ rfl a70_1 a70_2 a70_3 a70_4 a70_0 hI) ?_
              clear hI
              intro f h78 hf
              obtain ⟨x74, a77_0, a77_1, a77_2, a77_3, a77_4, a77_5, hJ⟩ := hout77 _ _ hf
              replace H := H x74 h78 hJ
              refine VC.wpf_seq ?_
              refine VC.wpf_seq ?_
              refine VC.wpf_region rfl ?_
              refine VC.wpL_op (VC.op_move (v := .int .i64 x74) a77_0 ?_)
              refine VC.wpL_op (VC.op_move (v := .slice p1a p1n p1c) a77_1 ?_)
              refine VC.wpL_op (VC.op_len_slice rfl un_22 ?_)
              refine VC.wpL_op (VC.op_lss rfl rfl ?_)
              refine VC.wpL_nil ?_
              refine VC.wpf_cond (decide (x74 < (p1n : Int))) rfl ?_ ?_
              · intro hb
                replace H := H.1 (of_decide_eq_true hb)
                refine VC.wpf_skip ?_
                refine VC.wpf_seq ?_
                refine VC.wpf_block ?_
                refine VC.wpf_seq ?_
                refine VC.wpf_region rfl ?_
                refine VC.wpL_op (VC.op_move (v := .pointer x7) a77_2 ?_)
                refine VC.wpL_op (VC.op_move (v := .slice p1a p1n p1c) a77_1 ?_)
                refine VC.wpL_op (VC.op_move (v := .int .i64 x74) a77_0 ?_)
                obtain ⟨b81, o82, rfl, H⟩ := H
                obtain ⟨c80, H⟩ := H
                refine VC.wpL_op (VC.op_indexAddr_slice rfl rfl ei_22 c80 ?_)
                obtain ⟨x84, c85, H⟩ := H
                refine VC.wpL_op (VC.op_load1 rfl ag_31 c85 ?_)
                refine VC.wpL_op (VC.op_conv rfl (congrArg (Option.map fun _ => ()) un_31) un_3 rfl ?_)
                refine VC.wpL_op (VC.op_call (vs := [.pointer x7, .int .i64 (IntKind.i64.wrap x84)]) en_15 (VC.args_cons rfl (VC.args_cons rfl VC.args_nil)) (CallsH.mono H ?_))
                clear H
                rintro _ h86 ⟨x88, x89, rfl, H⟩
                refine VC.wpL_op (VC.op_move (v := .tuple #[.int .u64 x88, .bool x89]) rfl ?_)
                refine VC.wpL_op (VC.op_extract rfl rfl ?_)
                refine VC.wpL_op (VC.op_extract rfl rfl ?_)
                refine VC.wpL_op (VC.op_assign (v := .int .u64 x88) rfl ?_)
                refine VC.wpL_op (VC.op_assign (v := .bool x89) rfl ?_)
                refine VC.wpL_nil ?_
                refine VC.wpf_seq ?_
                refine VC.wpf_region rfl ?_
                refine VC.wpL_op (VC.op_move (v := .pointer x7) a77_2 ?_)
                refine VC.wpL_op (VC.op_move (v := .slice (some ⟨b81, o82, none⟩) p1n p1c) a77_1 ?_)
                refine VC.wpL_op (VC.op_move (v := .int .i64 x74) a77_0 ?_)
                obtain ⟨c90, H⟩ := H
                refine VC.wpL_op (VC.op_indexAddr_slice rfl rfl ei_22 c90 ?_)
                obtain ⟨x91, c92, H⟩ := H
                refine VC.wpL_op (VC.op_load1 rfl ag_31 c92 ?_)
                refine VC.wpL_op (VC.op_conv rfl (congrArg (Option.map fun _ => ()) un_31) un_3 rfl ?_)
                refine VC.wpL_op (VC.op_call (vs := [.pointer x7, .int .i64 (IntKind.i64.wrap x91), .int .i64 2, .bool true]) en_12 (VC.args_cons rfl (VC.args_cons rfl (VC.args_cons rfl (VC.args_cons rfl VC.args_nil)))) (CallsH.mono H ?_))
                clear H
                rintro _ h93 ⟨x95, rfl, H⟩
                refine VC.wpL_op (VC.op_eql rfl rfl ?_)
                refine VC.wpL_op (VC.op_move (v := .bool x89) rfl ?_)
                refine VC.wpL_op (VC.op_neb un_4 rfl rfl ?_)
                refine VC.wpL_op (VC.op_move (v := .bool (!decide ((decide (x95 = 0)) = x89))) rfl ?_)
                refine VC.wpL_gq (b := !(!decide ((decide (x95 = 0)) = x89))) (VC.guard_slot rfl rfl) (Value.pointer x7) (fun hb N hN => VC.op_move (v := .pointer x7) a77_2 hN) ?_
                refine VC.wpL_gq (b := !(!decide ((decide (x95 = 0)) = x89))) (VC.guard_slot rfl rfl) (Value.slice (some ⟨b81, o82, none⟩) p1n p1c) (fun hb N hN => VC.op_move (v := .slice (some ⟨b81, o82, none⟩) p1n p1c) a77_1 hN) ?_
                refine VC.wpL_gq (b := !(!decide ((decide (x95 = 0)) = x89))) (VC.guard_slot rfl rfl) (Value.int .i64 x74) (fun hb N hN => VC.op_move (v := .int .i64 x74) a77_0 hN) ?_
                obtain ⟨c98, H⟩ := H
                refine VC.wpL_gq (b := !(!decide ((decide (x95 = 0)) = x89))) (VC.guard_slot rfl rfl) (Value.pointer (some ⟨b81, o82 + x74.toNat * 1, none⟩)) (fun hb N hN => VC.op_indexAddr_slice (VC.gv hb) (VC.gv hb) ei_22 (c98 (of_decide_eq_true (VC.of_not_false (VC.of_not_true hb)))) hN) ?_
                obtain ⟨x99, c100, H⟩ := H
                refine VC.wpL_gq (b := !(!decide ((decide (x95 = 0)) = x89))) (VC.guard_slot rfl rfl) (Value.int .u16 x99) (fun hb N hN => VC.op_load1 (VC.gv hb) ag_31 (c100 (of_decide_eq_true (VC.of_not_false (VC.of_not_true hb)))) hN) ?_
                refine VC.wpL_gq (b := !(!decide ((decide (x95 = 0)) = x89))) (VC.guard_slot rfl rfl) (Value.int .i64 (IntKind.i64.wrap x99)) (fun hb N hN => VC.op_conv (VC.gv hb) (congrArg (Option.map fun _ => ()) un_31) un_3 rfl hN) ?_
                obtain ⟨J104, HR, HT, HF⟩ := H
                refine VC.wpL_gl (b := !(!decide ((decide (x95 = 0)) = x89))) (VC.guard_slot rfl rfl) (fun v h101 => ∃ (x103 : Int), v = (bif !(!decide ((decide (x95 = 0)) = x89)) then (Value.int .i64 x103) else undef) ∧ J104 x103 h101) ?_ ?_ ?_
                · rintro _ h101 ⟨x103, rfl, hJ⟩
                  have H := HR x103 h101 hJ
                  refine VC.wpL_gq (b := !(!decide ((decide (x95 = 0)) = x89))) (VC.guard_slot rfl rfl) (Value.bool (!decide (x103 = 6))) (fun hb N hN => VC.op_neq (VC.gv hb) rfl hN) ?_
                  refine VC.wpL_op (VC.op_pick_or rfl rfl (fun hq => (VC.gv (VC.not_of_false hq))) ?_)
                  refine VC.wpL_nil ?_
                  refine VC.wpf_cond ((!decide ((decide (x95 = 0)) = x89)) || (!decide (x103 = 6))) rfl ?_ ?_
                  · intro hb
                    replace H := H.1 hb
                    refine VC.wpf_seq ?_
                    refine VC.wpf_region rfl ?_
                    refine VC.wpL_op (VC.op_assign (v := .bool false) rfl ?_)
                    refine VC.wpL_nil ?_
                    refine VC.wpf_ret ?_
                    exact VC.ret_leaf (VC.resV_tmp rfl VC.resV_nil) H
                  · intro hb
                    replace H := H.2 hb
                    refine VC.wpf_skip ?_
                    refine VC.wpf_region rfl ?_
                    refine VC.wpL_op (VC.op_move (v := .int .i64 x74) a77_0 ?_)
                    obtain ⟨c106, H⟩ := H
                    refine VC.wpL_op (VC.op_add rfl rfl (VC.wrap_i64 c106) ?_)
                    refine VC.wpL_op (VC.op_assign (v := .int .i64 (x74 + 1)) rfl ?_)
                    refine VC.wpL_nil ?_
                    exact And.intro (hin77 _ _ _ rfl a77_1 a77_2 a77_3 a77_4 a77_5 H.1) (lt_of (hmu77 _ _ _ rfl) (hmu77 _ _ _ a77_0) H.2)
                · intro hb
                  refine VC.op_call (vs := [.pointer x7, .int .i64 (IntKind.i64.wrap x99), .int .i64 2, .bool true]) en_12 (VC.args_cons (VC.gv hb) (VC.args_cons (VC.gv hb) (VC.args_cons rfl (VC.args_cons rfl VC.args_nil)))) (CallsH.mono (HT (of_decide_eq_true (VC.of_not_false (VC.of_not_true hb)))) ?_)
                  rintro _ h101 ⟨x103, rfl, hJ⟩
                  exact ⟨x103, VC.bif_true hb, hJ⟩
                · intro hb
                  obtain ⟨x103, hJ⟩ := HF (of_decide_eq_false (VC.of_not_true (VC.of_not_false hb)))
                  exact ⟨x103, VC.bif_false hb, hJ⟩
              · intro hb
                replace H := H.2 (of_decide_eq_false hb)
                refine VC.wpf_exit ?_
                refine VC.wpf_seq ?_
                refine VC.wpf_region rfl ?_
                refine VC.wpL_op (VC.op_move (v := .pointer x7) a77_2 ?_)
                refine VC.wpL_op (VC.op_move (v := .int .u64 ((IntKind.u64.wrap p2).tmod 20)) a77_4 ?_)
                refine VC.wpL_op (VC.op_add rfl rfl rfl ?_)
                refine VC.wpL_op (VC.op_call (vs := [.pointer x7, .int .u64 (IntKind.u64.wrap (((IntKind.u64.wrap p2).tmod 20) + 1000))]) en_11 (VC.args_cons rfl (VC.args_cons rfl VC.args_nil)) (CallsH.mono H ?_))
                clear H
                rintro _ h108 ⟨x110a, x110n, x110c, x111, rfl, H⟩
                refine VC.wpL_op (VC.op_move (v := .tuple #[.slice x110a x110n x110c, .int .i64 x111]) rfl ?_)
                refine VC.wpL_op (VC.op_extract rfl rfl ?_)
                refine VC.wpL_op (VC.op_extract rfl rfl ?_)
                refine VC.wpL_op (VC.op_assign (v := .slice x110a x110n x110c) rfl ?_)
                refine VC.wpL_op (VC.op_assign (v := .int .i64 x111) rfl ?_)
                refine VC.wpL_nil ?_
                refine VC.wpf_seq ?_
                refine VC.wpf_region rfl ?_
                refine VC.wpL_op (VC.op_move (v := .int .i64 x111) rfl ?_)
                refine VC.wpL_op (VC.op_eql rfl rfl ?_)
                refine VC.wpL_op (VC.op_move (v := .bool (decide (x111 = 0))) rfl ?_)
                refine VC.wpL_gq (b := decide (x111 = 0)) (VC.guard_slot rfl rfl) (Value.slice x110a x110n x110c) (fun hb N hN => VC.op_move (v := .slice x110a x110n x110c) rfl hN) ?_
                refine VC.wpL_gq (b := decide (x111 = 0)) (VC.guard_slot rfl rfl) (Value.int .i64 (x110n : Int)) (fun hb N hN => VC.op_len_slice (VC.gv hb) un_32 hN) ?_
                refine VC.wpL_gq (b := decide (x111 = 0)) (VC.guard_slot rfl rfl) (Value.int .i64 x13) (fun hb N hN => VC.op_move (v := .int .i64 x13) a77_3 hN) ?_
                refine VC.wpL_gq (b := decide (x111 = 0)) (VC.guard_slot rfl rfl) (Value.int .i64 x68) (fun hb N hN => VC.op_move (v := .int .i64 x68) a77_5 hN) ?_
                refine VC.wpL_gq (b := decide (x111 = 0)) (VC.guard_slot rfl rfl) (Value.int .i64 (IntKind.i64.wrap (x13 - x68))) (fun hb N hN => VC.op_sub (VC.gv hb) (VC.gv hb) rfl hN) ?_
                refine VC.wpL_gq (b := decide (x111 = 0)) (VC.guard_slot rfl rfl) (Value.bool (decide ((x110n : Int) = (IntKind.i64.wrap (x13 - x68))))) (fun hb N hN => VC.op_eql (VC.gv hb) (VC.gv hb) hN) ?_
                refine VC.wpL_op (VC.op_pick_and rfl (fun hq => (VC.gv hq)) rfl ?_)
                refine VC.wpL_op (VC.op_move (v := .bool ((decide (x111 = 0)) && (decide ((x110n : Int) = (IntKind.i64.wrap (x13 - x68)))))) rfl ?_)
                refine VC.wpL_gq (b := (decide (x111 = 0)) && (decide ((x110n : Int) = (IntKind.i64.wrap (x13 - x68))))) (VC.guard_slot rfl rfl) (Value.pointer x7) (fun hb N hN => VC.op_move (v := .pointer x7) a77_2 hN) ?_
                obtain ⟨J118, HR, HT, HF⟩ := H
                refine VC.wpL_gl (b := (decide (x111 = 0)) && (decide ((x110n : Int) = (IntKind.i64.wrap (x13 - x68))))) (VC.guard_slot rfl rfl) (fun v h115 => ∃ (x117 : Int), v = (bif (decide (x111 = 0)) && (decide ((x110n : Int) = (IntKind.i64.wrap (x13 - x68)))) then (Value.int .i64 x117) else undef) ∧ J118 x117 h115) ?_ ?_ ?_
                · rintro _ h115 ⟨x117, rfl, hJ⟩
                  have H := HR x117 h115 hJ
                  refine VC.wpL_gq (b := (decide (x111 = 0)) && (decide ((x110n : Int) = (IntKind.i64.wrap (x13 - x68))))) (VC.guard_slot rfl rfl) (Value.bool (decide (x117 = 0))) (fun hb N hN => VC.op_eql (VC.gv hb) rfl hN) ?_
                  refine VC.wpL_op (VC.op_pick_and rfl (fun hq => (VC.gv hq)) rfl ?_)
                  refine VC.wpL_op (VC.op_assign (v := .bool (((decide (x111 = 0)) && (decide ((x110n : Int) = (IntKind.i64.wrap (x13 - x68))))) && (decide (x117 = 0)))) rfl ?_)
                  refine VC.wpL_nil ?_
                  refine VC.wpf_ret ?_
                  exact VC.ret_leaf (VC.resV_tmp rfl VC.resV_nil) H
                · intro hb
                  refine VC.op_call (vs := [.pointer x7]) en_14 (VC.args_cons (VC.gv hb) VC.args_nil) (CallsH.mono (HT hb) ?_)
                  rintro _ h115 ⟨x117, rfl, hJ⟩
                  exact ⟨x117, VC.bif_true hb, hJ⟩
                · intro hb
                  obtain ⟨x117, hJ⟩ := HF hb
                  exact ⟨x117, VC.bif_false hb, hJ⟩

/-- linchpinlaw19.LifeAdmits -/
def F_linchpinlaw19_LifeAdmits (p0 : Int) (p1 : Int) (p2 : Int) (K : Bool → Heap → Prop) (h : Heap) : Prop :=
  CallsH PR fn_linchpinlaw19_awake #[] h (fun v h1 => ∃ (x3 : Bool), v = (Value.bool x3) ∧ (x3 = false → K false h1) ∧ (x3 = true → CallsH PR fn_life_New #[.int .u64 (IntKind.u64.wrap (1 + ((IntKind.u64.wrap p0).tmod 1000)))] h1 (fun v h6 => ∃ (x8 : Option Addr) (x9 : Int), v = (Value.tuple #[.pointer x8, .int .i64 x9]) ∧ ((x8.isNone || (!decide (x9 = 0))) = true → K false h6) ∧ ((x8.isNone || (!decide (x9 = 0))) = false → CallsH PR fn_life_Book_Go #[.pointer x8, .int .u64 (IntKind.u64.wrap p1)] h6 (fun v h12 => ∃ (x14a : Option Addr) (x14n : Nat) (x14c : Nat) (x15 : Int), v = (Value.tuple #[.slice x14a x14n x14c, .int .i64 x15]) ∧ CallsH PR fn_life_Book_Open #[.pointer x8, .int .i64 7, .int .u64 (IntKind.u64.wrap ((IntKind.u64.wrap ((IntKind.u64.wrap p1) + (IntKind.u64.wrap (1 + ((IntKind.u64.wrap p0).tmod 1000))))) + ((IntKind.u64.wrap p2).tmod 3)))] h12 (fun v h19 => ∃ (x21 : Int), v = (Value.int .i64 x21) ∧ (((IntKind.u64.wrap p2).tmod 3) = 0 → ∃ J28 : Int → Heap → Prop, (∀ (x27 : Int) (h25 : Heap), J28 x27 h25 → K ((decide (x21 = 11)) && (decide (x27 = 0))) h25) ∧ ((x21 = 11) → CallsH PR fn_life_Book_Count #[.pointer x8] h19 (fun v h25 => ∃ (x27 : Int), v = (Value.int .i64 x27) ∧ J28 x27 h25)) ∧ ((¬ (x21 = 11)) → ∃ (x27 : Int), J28 x27 h19)) ∧ ((¬ (((IntKind.u64.wrap p2).tmod 3) = 0)) → CallsH PR fn_life_Book_Has #[.pointer x8, .int .i64 7] h19 (fun v h30 => ∃ (x32 : Int) (x33 : Bool), v = (Value.tuple #[.int .u64 x32, .bool x33]) ∧ CallsH PR fn_life_Book_Go #[.pointer x8, .int .u64 (IntKind.u64.wrap ((IntKind.u64.wrap ((IntKind.u64.wrap ((IntKind.u64.wrap ((IntKind.u64.wrap p1) + (IntKind.u64.wrap (1 + ((IntKind.u64.wrap p0).tmod 1000))))) + ((IntKind.u64.wrap p2).tmod 3))) - (IntKind.u64.wrap (1 + ((IntKind.u64.wrap p0).tmod 1000))))) - 1))] h30 (fun v h36 => ∃ (x38a : Option Addr) (x38n : Nat) (x38c : Nat) (x39 : Int), v = (Value.tuple #[.slice x38a x38n x38c, .int .i64 x39]) ∧ CallsH PR fn_life_Book_Go #[.pointer x8, .int .u64 (IntKind.u64.wrap ((IntKind.u64.wrap ((IntKind.u64.wrap ((IntKind.u64.wrap p1) + (IntKind.u64.wrap (1 + ((IntKind.u64.wrap p0).tmod 1000))))) + ((IntKind.u64.wrap p2).tmod 3))) - (IntKind.u64.wrap (1 + ((IntKind.u64.wrap p0).tmod 1000)))))] h36 (fun v h41 => ∃ (x43a : Option Addr) (x43n : Nat) (x43c : Nat) (x44 : Int), v = (Value.tuple #[.slice x43a x43n x43c, .int .i64 x44]) ∧ ∃ (b52 : Nat) (o53 : Nat), (((((((((decide (x21 = 0)) && x33) && (decide (x32 = (IntKind.u64.wrap ((IntKind.u64.wrap ((IntKind.u64.wrap p1) + (IntKind.u64.wrap (1 + ((IntKind.u64.wrap p0).tmod 1000))))) + ((IntKind.u64.wrap p2).tmod 3)))))) && (decide (x39 = 0))) && (decide ((x38n : Int) = 0))) && (decide (x44 = 0))) && (decide ((x43n : Int) = 1))) = true) → x43a = some ⟨b52, o53, none⟩) ∧ (((((((((decide (x21 = 0)) && x33) && (decide (x32 = (IntKind.u64.wrap ((IntKind.u64.wrap ((IntKind.u64.wrap p1) + (IntKind.u64.wrap (1 + ((IntKind.u64.wrap p0).tmod 1000))))) + ((IntKind.u64.wrap p2).tmod 3)))))) && (decide (x39 = 0))) && (decide ((x38n : Int) = 0))) && (decide (x44 = 0))) && (decide ((x43n : Int) = 1))) = true) → 0 ≤ (0 : Int) ∧ (0 : Int) < (x43n : Int)) ∧ ∃ (x55_0 : Int) (x55_1 : Int) (x55_2 : Int), (((((((((decide (x21 = 0)) && x33) && (decide (x32 = (IntKind.u64.wrap ((IntKind.u64.wrap ((IntKind.u64.wrap p1) + (IntKind.u64.wrap (1 + ((IntKind.u64.wrap p0).tmod 1000))))) + ((IntKind.u64.wrap p2).tmod 3)))))) && (decide (x39 = 0))) && (decide ((x38n : Int) = 0))) && (decide (x44 = 0))) && (decide ((x43n : Int) = 1))) = true) → ldCells h41 b52 o53 3 = some [.int .i64 x55_0, .int .i64 x55_1, .int .i64 x55_2]) ∧ K ((((((((decide (x21 = 0)) && x33) && (decide (x32 = (IntKind.u64.wrap ((IntKind.u64.wrap ((IntKind.u64.wrap p1) + (IntKind.u64.wrap (1 + ((IntKind.u64.wrap p0).tmod 1000))))) + ((IntKind.u64.wrap p2).tmod 3)))))) && (decide (x39 = 0))) && (decide ((x38n : Int) = 0))) && (decide (x44 = 0))) && (decide ((x43n : Int) = 1))) && ((decide (x55_0 = 7)) && ((decide (x55_1 = 2)) && ((decide (x55_2 = 1)) && true)))) h41))))))))))
theorem F_linchpinlaw19_LifeAdmits_ok (p0 : Int) (p1 : Int) (p2 : Int) (R : Value → Heap → Prop) (h : Heap) (H : F_linchpinlaw19_LifeAdmits p0 p1 p2 (fun r0 h' => R (Value.bool r0) h') h) : CallsH PR fn_linchpinlaw19_LifeAdmits #[.int .u16 p0, .int .u32 p1, .int .u8 p2] h R := by
  refine VC.callsH_of (args := [.int .u16 p0, .int .u32 p1, .int .u8 p2]) Try.func6 rfl rfl ?_
  intro f hf
  have e0 := hf 0 _ rfl
  have e1 := hf 1 _ rfl
  have e2 := hf 2 _ rfl
  clear hf
  unfold F_linchpinlaw19_LifeAdmits at H
  refine VC.wpf_seq ?_
  refine VC.wpf_region rfl ?_
  refine VC.wpL_op (VC.op_assign (v := .bool false) rfl ?_)
  refine VC.wpL_nil ?_
  refine VC.wpf_seq ?_
  refine VC.wpf_seq ?_
  refine VC.wpf_region rfl ?_
  refine VC.wpL_op (VC.op_call (vs := []) en_8 VC.args_nil (CallsH.mono H ?_))
  clear H
  rintro _ h1 ⟨x3, rfl, H⟩
  refine VC.wpL_op (VC.op_not rfl ?_)
  refine VC.wpL_nil ?_
  refine VC.wpf_cond (!x3) rfl ?_ ?_
  · intro hb
    replace H := H.1 (VC.of_not_true hb)
    refine VC.wpf_seq ?_
    refine VC.wpf_region rfl ?_
    refine VC.wpL_op (VC.op_assign (v := .bool false) rfl ?_)
    refine VC.wpL_nil ?_
    refine VC.wpf_ret ?_
    exact VC.ret_leaf (VC.resV_tmp rfl VC.resV_nil) H
  · intro hb
    replace H := H.2 (VC.of_not_false hb)
    refine VC.wpf_skip ?_
    refine VC.wpf_seq ?_
    refine VC.wpf_region rfl ?_
    refine VC.wpL_op (VC.op_move (v := .int .u16 p0) e0 ?_)
    refine VC.wpL_op (VC.op_conv rfl (congrArg (Option.map fun _ => ()) un_31) un_29 rfl ?_)
    refine VC.wpL_op (VC.op_rem rfl rfl (by decide) rfl ?_)
    refine VC.wpL_op (VC.op_add rfl rfl rfl ?_)
    refine VC.wpL_op (VC.op_assign (v := .int .u64 (IntKind.u64.wrap (1 + ((IntKind.u64.wrap p0).tmod 1000)))) rfl ?_)
    refine VC.wpL_nil ?_
    refine VC.wpf_seq ?_
    refine VC.wpf_region rfl ?_
    refine VC.wpL_op (VC.op_move (v := .int .u64 (IntKind.u64.wrap (1 + ((IntKind.u64.wrap p0).tmod 1000)))) rfl ?_)
    refine VC.wpL_op (VC.op_call (vs := [.int .u64 (IntKind.u64.wrap (1 + ((IntKind.u64.wrap p0).tmod 1000)))]) en_9 (VC.args_cons rfl VC.args_nil) (CallsH.mono H ?_))
    clear H
    rintro _ h6 ⟨x8, x9, rfl, H⟩
    refine VC.wpL_op (VC.op_move (v := .tuple #[.pointer x8, .int .i64 x9]) rfl ?_)
    refine VC.wpL_op (VC.op_extract rfl rfl ?_)
    refine VC.wpL_op (VC.op_extract rfl rfl ?_)
    refine VC.wpL_op (VC.op_assign (v := .pointer x8) rfl ?_)
    refine VC.wpL_op (VC.op_assign (v := .int .i64 x9) rfl ?_)
    refine VC.wpL_nil ?_
    refine VC.wpf_seq ?_
    refine VC.wpf_seq ?_
    refine VC.wpf_region rfl ?_
    refine VC.wpL_op (VC.op_move (v := .pointer x8) rfl ?_)
    refine VC.wpL_op (VC.op_eq_ptr_nil rfl rfl un_25 ?_)
    refine VC.wpL_op (VC.op_move (v := .bool x8.isNone) rfl ?_)
    refine VC.wpL_gq (b := !x8.isNone) (VC.guard_slot rfl rfl) (Value.int .i64 x9) (fun hb N hN => VC.op_move (v := .int .i64 x9) rfl hN) ?_
    refine VC.wpL_gq (b := !x8.isNone) (VC.guard_slot rfl rfl) (Value.bool (!decide (x9 = 0))) (fun hb N hN => VC.op_neq (VC.gv hb) rfl hN) ?_
    refine VC.wpL_op (VC.op_pick_or rfl rfl (fun hq => (VC.gv (VC.not_of_false hq))) ?_)
    refine VC.wpL_nil ?_
    refine VC.wpf_cond (x8.isNone || (!decide (x9 = 0))) rfl ?_ ?_
    · intro hb
      replace H := H.1 hb
      refine VC.wpf_seq ?_
      refine VC.wpf_region rfl ?_
      refine VC.wpL_op (VC.op_assign (v := .bool false) rfl ?_)
      refine VC.wpL_nil ?_
      refine VC.wpf_ret ?_
      exact VC.ret_leaf (VC.resV_tmp rfl VC.resV_nil) H
    · intro hb
      replace H := H.2 hb
      refine VC.wpf_skip ?_
      refine VC.wpf_seq ?_
      refine VC.wpf_region rfl ?_
      refine VC.wpL_op (VC.op_move (v := .pointer x8) rfl ?_)
      refine VC.wpL_op (VC.op_move (v := .int .u32 p1) e1 ?_)
      refine VC.wpL_op (VC.op_conv rfl (congrArg (Option.map fun _ => ()) un_49) un_29 rfl ?_)
      refine VC.wpL_op (VC.op_call (vs := [.pointer x8, .int .u64 (IntKind.u64.wrap p1)]) en_11 (VC.args_cons rfl (VC.args_cons rfl VC.args_nil)) (CallsH.mono H ?_))
      clear H
      rintro _ h12 ⟨x14a, x14n, x14c, x15, rfl, H⟩
      refine VC.wpL_nil ?_
      refine VC.wpf_seq ?_
      refine VC.wpf_region rfl ?_
      refine VC.wpL_op (VC.op_move (v := .int .u32 p1) e1 ?_)
      refine VC.wpL_op (VC.op_conv rfl (congrArg (Option.map fun _ => ()) un_49) un_29 rfl ?_)
      refine VC.wpL_op (VC.op_move (v := .int .u64 (IntKind.u64.wrap (1 + ((IntKind.u64.wrap p0).tmod 1000)))) rfl ?_)
      refine VC.wpL_op (VC.op_add rfl rfl rfl ?_)
      refine VC.wpL_op (VC.op_move (v := .int .u8 p2) e2 ?_)
      refine VC.wpL_op (VC.op_conv rfl (congrArg (Option.map fun _ => ()) un_5) un_29 rfl ?_)
      refine VC.wpL_op (VC.op_rem rfl rfl (by decide) rfl ?_)
      refine VC.wpL_op (VC.op_add rfl rfl rfl ?_)
      refine VC.wpL_op (VC.op_assign (v := .int .u64 (IntKind.u64.wrap ((IntKind.u64.wrap ((IntKind.u64.wrap p1) + (IntKind.u64.wrap (1 + ((IntKind.u64.wrap p0).tmod 1000))))) + ((IntKind.u64.wrap p2).tmod 3)))) rfl ?_)
      refine VC.wpL_nil ?_
      refine VC.wpf_seq ?_
      refine VC.wpf_region rfl ?_
      refine VC.wpL_op (VC.op_move (v := .pointer x8) rfl ?_)
      refine VC.wpL_op (VC.op_move (v := .int .u64 (IntKind.u64.wrap ((IntKind.u64.wrap ((IntKind.u64.wrap p1) + (IntKind.u64.wrap (1 + ((IntKind.u64.wrap p0).tmod 1000))))) + ((IntKind.u64.wrap p2).tmod 3)))) rfl ?_)
      refine VC.wpL_op (VC.op_call (vs := [.pointer x8, .int .i64 7, .int .u64 (IntKind.u64.wrap ((IntKind.u64.wrap ((IntKind.u64.wrap p1) + (IntKind.u64.wrap (1 + ((IntKind.u64.wrap p0).tmod 1000))))) + ((IntKind.u64.wrap p2).tmod 3)))]) en_10 (VC.args_cons rfl (VC.args_cons rfl (VC.args_cons rfl VC.args_nil))) (CallsH.mono H ?_))
      clear H
      rintro _ h19 ⟨x21, rfl, H⟩
      refine VC.wpL_op (VC.op_assign (v := .int .i64 x21) rfl ?_)
      refine VC.wpL_nil ?_
      refine VC.wpf_seq ?_
      refine VC.wpf_seq ?_
      refine VC.wpf_region rfl ?_
      refine VC.wpL_op (VC.op_move (v := .int .u8 p2) e2 ?_)
      refine VC.wpL_op (VC.op_conv rfl (congrArg (Option.map fun _ => ()) un_5) un_29 rfl ?_)
      refine VC.wpL_op (VC.op_rem rfl rfl (by decide) rfl ?_)
      refine VC.wpL_op (VC.op_eql rfl rfl ?_)
      refine VC.wpL_nil ?_
      refine VC.wpf_cond (decide (((IntKind.u64.wrap p2).tmod 3) = 0)) rfl ?_ ?_
      · intro hb
        replace H := H.1 (of_decide_eq_true hb)
        refine VC.wpf_seq ?_
        refine VC.wpf_region rfl ?_
        refine VC.wpL_op (VC.op_move (v := .int .i64 x21) rfl ?_)
        refine VC.wpL_op (VC.op_eql rfl rfl ?_)
        refine VC.wpL_op (VC.op_move (v := .bool (decide (x21 = 11))) rfl ?_)
        refine VC.wpL_gq (b := decide (x21 = 11)) (VC.guard_slot rfl rfl) (Value.pointer x8) (fun hb N hN => VC.op_move (v := .pointer x8) rfl hN) ?_
        obtain ⟨J28, HR, HT, HF⟩ := H
        refine VC.wpL_gl (b := decide (x21 = 11)) (VC.guard_slot rfl rfl) (fun v h25 => ∃ (x27 : Int), v = (bif decide (x21 = 11) then (Value.int .i64 x27) else undef) ∧ J28 x27 h25) ?_ ?_ ?_
        · rintro _ h25 ⟨x27, rfl, hJ⟩
          have H := HR x27 h25 hJ
          refine VC.wpL_gq (b := decide (x21 = 11)) (VC.guard_slot rfl rfl) (Value.bool (decide (x27 = 0))) (fun hb N hN => VC.op_eql (VC.gv hb) rfl hN) ?_
          refine VC.wpL_op (VC.op_pick_and rfl (fun hq => (VC.gv hq)) rfl ?_)
          refine VC.wpL_op (VC.op_assign (v := .bool ((decide (x21 = 11)) && (decide (x27 = 0)))) rfl ?_)
          refine VC.wpL_nil ?_
          refine VC.wpf_ret ?_
          exact VC.ret_leaf (VC.resV_tmp rfl VC.resV_nil) H
        · intro hb
          refine VC.op_call (vs := [.pointer x8]) en_14 (VC.args_cons (VC.gv hb) VC.args_nil) (CallsH.mono (HT (of_decide_eq_true hb)) ?_)
          rintro _ h25 ⟨x27, rfl, hJ⟩
          exact ⟨x27, VC.bif_true hb, hJ⟩
        · intro hb
          obtain ⟨x27, hJ⟩ := HF (of_decide_eq_false hb)
          exact ⟨x27, VC.bif_false hb, hJ⟩
      · intro hb
        replace H := H.2 (of_decide_eq_false hb)
        refine VC.wpf_skip ?_
        refine VC.wpf_seq ?_
        refine VC.wpf_region rfl ?_
        refine VC.wpL_op (VC.op_move (v := .pointer x8) rfl ?_)
        refine VC.wpL_op (VC.op_call (vs := [.pointer x8, .int .i64 7]) en_15 (VC.args_cons rfl (VC.args_cons rfl VC.args_nil)) (CallsH.mono H ?_))
        clear H
        rintro _ h30 ⟨x32, x33, rfl, H⟩
        refine VC.wpL_op (VC.op_move (v := .tuple #[.int .u64 x32, .bool x33]) rfl ?_)
        refine VC.wpL_op (VC.op_extract rfl rfl ?_)
        refine VC.wpL_op (VC.op_extract rfl rfl ?_)
        refine VC.wpL_op (VC.op_assign (v := .int .u64 x32) rfl ?_)
        refine VC.wpL_op (VC.op_assign (v := .bool x33) rfl ?_)
        refine VC.wpL_nil ?_
        refine VC.wpf_seq ?_
        refine VC.wpf_region rfl ?_
        refine VC.wpL_op (VC.op_move (v := .pointer x8) rfl ?_)
        refine VC.wpL_op (VC.op_move (v := .int .u64 (IntKind.u64.wrap ((IntKind.u64.wrap ((IntKind.u64.wrap p1) + (IntKind.u64.wrap (1 + ((IntKind.u64.wrap p0).tmod 1000))))) + ((IntKind.u64.wrap p2).tmod 3)))) rfl ?_)
        refine VC.wpL_op (VC.op_move (v := .int .u64 (IntKind.u64.wrap (1 + ((IntKind.u64.wrap p0).tmod 1000)))) rfl ?_)
        refine VC.wpL_op (VC.op_sub rfl rfl rfl ?_)
        refine VC.wpL_op (VC.op_sub rfl rfl rfl ?_)
        refine VC.wpL_op (VC.op_call (vs := [.pointer x8, .int .u64 (IntKind.u64.wrap ((IntKind.u64.wrap ((IntKind.u64.wrap ((IntKind.u64.wrap ((IntKind.u64.wrap p1) + (IntKind.u64.wrap (1 + ((IntKind.u64.wrap p0).tmod 1000))))) + ((IntKind.u64.wrap p2).tmod 3))) - (IntKind.u64.wrap (1 + ((IntKind.u64.wrap p0).tmod 1000))))) - 1))]) en_11 (VC.args_cons rfl (VC.args_cons rfl VC.args_nil)) (CallsH.mono H ?_))
        clear H
        rintro _ h36 ⟨x38a, x38n, x38c, x39, rfl, H⟩
        refine VC.wpL_op (VC.op_move (v := .tuple #[.slice x38a x38n x38c, .int .i64 x39]) rfl ?_)
        refine VC.wpL_op (VC.op_extract rfl rfl ?_)
        refine VC.wpL_op (VC.op_extract rfl rfl ?_)
        refine VC.wpL_op (VC.op_assign (v := .slice x38a x38n x38c) rfl ?_)
        refine VC.wpL_op (VC.op_assign (v := .int .i64 x39) rfl ?_)
        refine VC.wpL_nil ?_
        refine VC.wpf_seq ?_
        refine VC.wpf_region rfl ?_
        refine VC.wpL_op (VC.op_move (v := .pointer x8) rfl ?_)
        refine VC.wpL_op (VC.op_move (v := .int .u64 (IntKind.u64.wrap ((IntKind.u64.wrap ((IntKind.u64.wrap p1) + (IntKind.u64.wrap (1 + ((IntKind.u64.wrap p0).tmod 1000))))) + ((IntKind.u64.wrap p2).tmod 3)))) rfl ?_)
        refine VC.wpL_op (VC.op_move (v := .int .u64 (IntKind.u64.wrap (1 + ((IntKind.u64.wrap p0).tmod 1000)))) rfl ?_)
        refine VC.wpL_op (VC.op_sub rfl rfl rfl ?_)
        refine VC.wpL_op (VC.op_call (vs := [.pointer x8, .int .u64 (IntKind.u64.wrap ((IntKind.u64.wrap ((IntKind.u64.wrap ((IntKind.u64.wrap p1) + (IntKind.u64.wrap (1 + ((IntKind.u64.wrap p0).tmod 1000))))) + ((IntKind.u64.wrap p2).tmod 3))) - (IntKind.u64.wrap (1 + ((IntKind.u64.wrap p0).tmod 1000)))))]) en_11 (VC.args_cons rfl (VC.args_cons rfl VC.args_nil)) (CallsH.mono H ?_))
        clear H
        rintro _ h41 ⟨x43a, x43n, x43c, x44, rfl, H⟩
        refine VC.wpL_op (VC.op_move (v := .tuple #[.slice x43a x43n x43c, .int .i64 x44]) rfl ?_)
        refine VC.wpL_op (VC.op_extract rfl rfl ?_)
        refine VC.wpL_op (VC.op_extract rfl rfl ?_)
        refine VC.wpL_op (VC.op_assign (v := .slice x43a x43n x43c) rfl ?_)
        refine VC.wpL_op (VC.op_assign (v := .int .i64 x44) rfl ?_)
        refine VC.wpL_nil ?_
        refine VC.wpf_seq ?_
        refine VC.wpf_region rfl ?_
        refine VC.wpL_op (VC.op_move (v := .int .i64 x21) rfl ?_)
        refine VC.wpL_op (VC.op_eql rfl rfl ?_)
        refine VC.wpL_op (VC.op_move (v := .bool (decide (x21 = 0))) rfl ?_)
        refine VC.wpL_gq (b := decide (x21 = 0)) (VC.guard_slot rfl rfl) (Value.bool x33) (fun hb N hN => VC.op_move (v := .bool x33) rfl hN) ?_
        refine VC.wpL_op (VC.op_pick_and rfl (fun hq => (VC.gv hq)) rfl ?_)
        refine VC.wpL_op (VC.op_move (v := .bool ((decide (x21 = 0)) && x33)) rfl ?_)
        refine VC.wpL_gq (b := (decide (x21 = 0)) && x33) (VC.guard_slot rfl rfl) (Value.int .u64 x32) (fun hb N hN => VC.op_move (v := .int .u64 x32) rfl hN) ?_
        refine VC.wpL_gq (b := (decide (x21 = 0)) && x33) (VC.guard_slot rfl rfl) (Value.int .u64 (IntKind.u64.wrap ((IntKind.u64.wrap ((IntKind.u64.wrap p1) + (IntKind.u64.wrap (1 + ((IntKind.u64.wrap p0).tmod 1000))))) + ((IntKind.u64.wrap p2).tmod 3)))) (fun hb N hN => VC.op_move (v := .int .u64 (IntKind.u64.wrap ((IntKind.u64.wrap ((IntKind.u64.wrap p1) + (IntKind.u64.wrap (1 + ((IntKind.u64.wrap p0).tmod 1000))))) + ((IntKind.u64.wrap p2).tmod 3)))) rfl hN) ?_
        refine VC.wpL_gq (b := (decide (x21 = 0)) && x33) (VC.guard_slot rfl rfl) (Value.bool (decide (x32 = (IntKind.u64.wrap ((IntKind.u64.wrap ((IntKind.u64.wrap p1) + (IntKind.u64.wrap (1 + ((IntKind.u64.wrap p0).tmod 1000))))) + ((IntKind.u64.wrap p2).tmod 3)))))) (fun hb N hN => VC.op_eql (VC.gv hb) (VC.gv hb) hN) ?_
        refine VC.wpL_op (VC.op_pick_and rfl (fun hq => (VC.gv hq)) rfl ?_)
        refine VC.wpL_op (VC.op_move (v := .bool (((decide (x21 = 0)) && x33) && (decide (x32 = (IntKind.u64.wrap ((IntKind.u64.wrap ((IntKind.u64.wrap p1) + (IntKind.u64.wrap (1 + ((IntKind.u64.wrap p0).tmod 1000))))) + ((IntKind.u64.wrap p2).tmod 3))))))) rfl ?_)
        refine VC.wpL_gq (b := ((decide (x21 = 0)) && x33) && (decide (x32 = (IntKind.u64.wrap ((IntKind.u64.wrap ((IntKind.u64.wrap p1) + (IntKind.u64.wrap (1 + ((IntKind.u64.wrap p0).tmod 1000))))) + ((IntKind.u64.wrap p2).tmod 3)))))) (VC.guard_slot rfl rfl) (Value.int .i64 x39) (fun hb N hN => VC.op_move (v := .int .i64 x39) rfl hN) ?_
        refine VC.wpL_gq (b := ((decide (x21 = 0)) && x33) && (decide (x32 = (IntKind.u64.wrap ((IntKind.u64.wrap ((IntKind.u64.wrap p1) + (IntKind.u64.wrap (1 + ((IntKind.u64.wrap p0).tmod 1000))))) + ((IntKind.u64.wrap p2).tmod 3)))))) (VC.guard_slot rfl rfl) (Value.bool (decide (x39 = 0))) (fun hb N hN => VC.op_eql (VC.gv hb) rfl hN) ?_
        refine VC.wpL_op (VC.op_pick_and rfl (fun hq => (VC.gv hq)) rfl ?_)
        refine VC.wpL_op (VC.op_move (v := .bool ((((decide (x21 = 0)) && x33) && (decide (x32 = (IntKind.u64.wrap ((IntKind.u64.wrap ((IntKind.u64.wrap p1) + (IntKind.u64.wrap (1 + ((IntKind.u64.wrap p0).tmod 1000))))) + ((IntKind.u64.wrap p2).tmod 3)))))) && (decide (x39 = 0)))) rfl ?_)
        refine VC.wpL_gq (b := (((decide (x21 = 0)) && x33) && (decide (x32 = (IntKind.u64.wrap ((IntKind.u64.wrap ((IntKind.u64.wrap p1) + (IntKind.u64.wrap (1 + ((IntKind.u64.wrap p0).tmod 1000))))) + ((IntKind.u64.wrap p2).tmod 3)))))) && (decide (x39 = 0))) (VC.guard_slot rfl rfl) (Value.slice x38a x38n x38c) (fun hb N hN => VC.op_move (v := .slice x38a x38n x38c) rfl hN) ?_
        refine VC.wpL_gq (b := (((decide (x21 = 0)) && x33) && (decide (x32 = (IntKind.u64.wrap ((IntKind.u64.wrap ((IntKind.u64.wrap p1) + (IntKind.u64.wrap (1 + ((IntKind.u64.wrap p0).tmod 1000))))) + ((IntKind.u64.wrap p2).tmod 3)))))) && (decide (x39 = 0))) (VC.guard_slot rfl rfl) (Value.int .i64 (x38n : Int)) (fun hb N hN => VC.op_len_slice (VC.gv hb) un_32 hN) ?_
        refine VC.wpL_gq (b := (((decide (x21 = 0)) && x33) && (decide (x32 = (IntKind.u64.wrap ((IntKind.u64.wrap ((IntKind.u64.wrap p1) + (IntKind.u64.wrap (1 + ((IntKind.u64.wrap p0).tmod 1000))))) + ((IntKind.u64.wrap p2).tmod 3)))))) && (decide (x39 = 0))) (VC.guard_slot rfl rfl) (Value.bool (decide ((x38n : Int) = 0))) (fun hb N hN => VC.op_eql (VC.gv hb) rfl hN) ?_
        refine VC.wpL_op (VC.op_pick_and rfl (fun hq => (VC.gv hq)) rfl ?_)
        refine VC.wpL_op (VC.op_move (v := .bool (((((decide (x21 = 0)) && x33) && (decide (x32 = (IntKind.u64.wrap ((IntKind.u64.wrap ((IntKind.u64.wrap p1) + (IntKind.u64.wrap (1 + ((IntKind.u64.wrap p0).tmod 1000))))) + ((IntKind.u64.wrap p2).tmod 3)))))) && (decide (x39 = 0))) && (decide ((x38n : Int) = 0)))) rfl ?_)
        refine VC.wpL_gq (b := ((((decide (x21 = 0)) && x33) && (decide (x32 = (IntKind.u64.wrap ((IntKind.u64.wrap ((IntKind.u64.wrap p1) + (IntKind.u64.wrap (1 + ((IntKind.u64.wrap p0).tmod 1000))))) + ((IntKind.u64.wrap p2).tmod 3)))))) && (decide (x39 = 0))) && (decide ((x38n : Int) = 0))) (VC.guard_slot rfl rfl) (Value.int .i64 x44) (fun hb N hN => VC.op_move (v := .int .i64 x44) rfl hN) ?_
        refine VC.wpL_gq (b := ((((decide (x21 = 0)) && x33) && (decide (x32 = (IntKind.u64.wrap ((IntKind.u64.wrap ((IntKind.u64.wrap p1) + (IntKind.u64.wrap (1 + ((IntKind.u64.wrap p0).tmod 1000))))) + ((IntKind.u64.wrap p2).tmod 3)))))) && (decide (x39 = 0))) && (decide ((x38n : Int) = 0))) (VC.guard_slot rfl rfl) (Value.bool (decide (x44 = 0))) (fun hb N hN => VC.op_eql (VC.gv hb) rfl hN) ?_
        refine VC.wpL_op (VC.op_pick_and rfl (fun hq => (VC.gv hq)) rfl ?_)
        refine VC.wpL_op (VC.op_move (v := .bool ((((((decide (x21 = 0)) && x33) && (decide (x32 = (IntKind.u64.wrap ((IntKind.u64.wrap ((IntKind.u64.wrap p1) + (IntKind.u64.wrap (1 + ((IntKind.u64.wrap p0).tmod 1000))))) + ((IntKind.u64.wrap p2).tmod 3)))))) && (decide (x39 = 0))) && (decide ((x38n : Int) = 0))) && (decide (x44 = 0)))) rfl ?_)
        refine VC.wpL_gq (b := (((((decide (x21 = 0)) && x33) && (decide (x32 = (IntKind.u64.wrap ((IntKind.u64.wrap ((IntKind.u64.wrap p1) + (IntKind.u64.wrap (1 + ((IntKind.u64.wrap p0).tmod 1000))))) + ((IntKind.u64.wrap p2).tmod 3)))))) && (decide (x39 = 0))) && (decide ((x38n : Int) = 0))) && (decide (x44 = 0))) (VC.guard_slot rfl rfl) (Value.slice x43a x43n x43c) (fun hb N hN => VC.op_move (v := .slice x43a x43n x43c) rfl hN) ?_
        refine VC.wpL_gq (b := (((((decide (x21 = 0)) && x33) && (decide (x32 = (IntKind.u64.wrap ((IntKind.u64.wrap ((IntKind.u64.wrap p1) + (IntKind.u64.wrap (1 + ((IntKind.u64.wrap p0).tmod 1000))))) + ((IntKind.u64.wrap p2).tmod 3)))))) && (decide (x39 = 0))) && (decide ((x38n : Int) = 0))) && (decide (x44 = 0))) (VC.guard_slot rfl rfl) (Value.int .i64 (x43n : Int)) (fun hb N hN => VC.op_len_slice (VC.gv hb) un_32 hN) ?_
        refine VC.wpL_gq (b := (((((decide (x21 = 0)) && x33) && (decide (x32 = (IntKind.u64.wrap ((IntKind.u64.wrap ((IntKind.u64.wrap p1) + (IntKind.u64.wrap (1 + ((IntKind.u64.wrap p0).tmod 1000))))) + ((IntKind.u64.wrap p2).tmod 3)))))) && (decide (x39 = 0))) && (decide ((x38n : Int) = 0))) && (decide (x44 = 0))) (VC.guard_slot rfl rfl) (Value.bool (decide ((x43n : Int) = 1))) (fun hb N hN => VC.op_eql (VC.gv hb) rfl hN) ?_
        refine VC.wpL_op (VC.op_pick_and rfl (fun hq => (VC.gv hq)) rfl ?_)
        refine VC.wpL_op (VC.op_move (v := .bool (((((((decide (x21 = 0)) && x33) && (decide (x32 = (IntKind.u64.wrap ((IntKind.u64.wrap ((IntKind.u64.wrap p1) + (IntKind.u64.wrap (1 + ((IntKind.u64.wrap p0).tmod 1000))))) + ((IntKind.u64.wrap p2).tmod 3)))))) && (decide (x39 = 0))) && (decide ((x38n : Int) = 0))) && (decide (x44 = 0))) && (decide ((x43n : Int) = 1)))) rfl ?_)
        refine VC.wpL_gq (b := ((((((decide (x21 = 0)) && x33) && (decide (x32 = (IntKind.u64.wrap ((IntKind.u64.wrap ((IntKind.u64.wrap p1) + (IntKind.u64.wrap (1 + ((IntKind.u64.wrap p0).tmod 1000))))) + ((IntKind.u64.wrap p2).tmod 3)))))) && (decide (x39 = 0))) && (decide ((x38n : Int) = 0))) && (decide (x44 = 0))) && (decide ((x43n : Int) = 1))) (VC.guard_slot rfl rfl) (Value.slice x43a x43n x43c) (fun hb N hN => VC.op_move (v := .slice x43a x43n x43c) rfl hN) ?_
        obtain ⟨b52, o53, c54, H⟩ := H
        obtain ⟨c51, H⟩ := H
        refine VC.wpL_gq (b := ((((((decide (x21 = 0)) && x33) && (decide (x32 = (IntKind.u64.wrap ((IntKind.u64.wrap ((IntKind.u64.wrap p1) + (IntKind.u64.wrap (1 + ((IntKind.u64.wrap p0).tmod 1000))))) + ((IntKind.u64.wrap p2).tmod 3)))))) && (decide (x39 = 0))) && (decide ((x38n : Int) = 0))) && (decide (x44 = 0))) && (decide ((x43n : Int) = 1))) (VC.guard_slot rfl rfl) (Value.pointer (some ⟨b52, o53, none⟩)) (fun hb N hN => VC.op_indexAddr_slice (Eq.trans (VC.gv hb) (congrArg (fun a => Value.slice a x43n x43c) (c54 hb))) rfl ei_32 (c51 hb) hN) ?_
        obtain ⟨x55_0, x55_1, x55_2, c56, H⟩ := H
        refine VC.wpL_gq (b := ((((((decide (x21 = 0)) && x33) && (decide (x32 = (IntKind.u64.wrap ((IntKind.u64.wrap ((IntKind.u64.wrap p1) + (IntKind.u64.wrap (1 + ((IntKind.u64.wrap p0).tmod 1000))))) + ((IntKind.u64.wrap p2).tmod 3)))))) && (decide (x39 = 0))) && (decide ((x38n : Int) = 0))) && (decide (x44 = 0))) && (decide ((x43n : Int) = 1))) (VC.guard_slot rfl rfl) (Value.agg #[.int .i64 x55_0, .int .i64 x55_1, .int .i64 x55_2]) (fun hb N hN => VC.op_loadN (VC.gv hb) ag_36 (c56 hb) hN) ?_
        refine VC.wpL_gq (b := ((((((decide (x21 = 0)) && x33) && (decide (x32 = (IntKind.u64.wrap ((IntKind.u64.wrap ((IntKind.u64.wrap p1) + (IntKind.u64.wrap (1 + ((IntKind.u64.wrap p0).tmod 1000))))) + ((IntKind.u64.wrap p2).tmod 3)))))) && (decide (x39 = 0))) && (decide ((x38n : Int) = 0))) && (decide (x44 = 0))) && (decide ((x43n : Int) = 1))) (VC.guard_slot rfl rfl) (Value.agg #[.int .i64 7, .int .i64 2, .int .i64 1]) (fun hb N hN => VC.op_build' (vs := [(0, .int .i64 7), (1, .int .i64 2), (2, .int .i64 1)]) (cs := #[.int .i64 7, .int .i64 2, .int .i64 1]) z_36 fs_36 (VC.parts_cons rfl (VC.parts_cons rfl (VC.parts_cons rfl VC.parts_nil))) rfl hN) ?_
        refine VC.wpL_gq (b := ((((((decide (x21 = 0)) && x33) && (decide (x32 = (IntKind.u64.wrap ((IntKind.u64.wrap ((IntKind.u64.wrap p1) + (IntKind.u64.wrap (1 + ((IntKind.u64.wrap p0).tmod 1000))))) + ((IntKind.u64.wrap p2).tmod 3)))))) && (decide (x39 = 0))) && (decide ((x38n : Int) = 0))) && (decide (x44 = 0))) && (decide ((x43n : Int) = 1))) (VC.guard_slot rfl rfl) (Value.bool ((decide (x55_0 = 7)) && ((decide (x55_1 = 2)) && ((decide (x55_2 = 1)) && true)))) (fun hb N hN => VC.op_eqs (a := [.int .i64 x55_0, .int .i64 x55_1, .int .i64 x55_2]) (b := [.int .i64 7, .int .i64 2, .int .i64 1]) (VC.gv hb) (VC.gv hb) eg_36 (VC.eq_of_plan eqp_36 fun w => (VC.eqRun_int w un_3 ag_3 rfl rfl (VC.eqRun_int w un_3 ag_3 rfl rfl (VC.eqRun_int w un_3 ag_3 rfl rfl (VC.eqRun_nil w))))) hN) ?_
        refine VC.wpL_op (VC.op_pick_and rfl (fun hq => (VC.gv hq)) rfl ?_)
        refine VC.wpL_op (VC.op_assign (v := .bool ((((((((decide (x21 = 0)) && x33) && (decide (x32 = (IntKind.u64.wrap ((IntKind.u64.wrap ((IntKind.u64.wrap p1) + (IntKind.u64.wrap (1 + ((IntKind.u64.wrap p0).tmod 1000))))) + ((IntKind.u64.wrap p2).tmod 3)))))) && (decide (x39 = 0))) && (decide ((x38n : Int) = 0))) && (decide (x44 = 0))) && (decide ((x43n : Int) = 1))) && ((decide (x55_0 = 7)) && ((decide (x55_1 = 2)) && ((decide (x55_2 = 1)) && true))))) rfl ?_)
        refine VC.wpL_nil ?_
        refine VC.wpf_ret ?_
        exact VC.ret_leaf (VC.resV_tmp rfl VC.resV_nil) H

def cert_linchpinlaw19_LifePlays_41 : VC.Cert := ⟨[[], [0], [0, 1], [0, 1, 2], [], [0, 1, 2, 3, 4], [0, 1, 2, 3, 4, 5], [0, 1, 2, 3, 4, 5, 6], [], [8], [0, 1, 2, 3, 4, 5, 6, 7, 8, 9]], [false, false, false, false, false, false, false, false, false, false, false]⟩
def cert_linchpinlaw19_LifePlays_44 : VC.Cert := ⟨[[], [], [0, 1], [0, 1, 2], [0, 1, 2, 3], [0, 1, 2, 3, 4], [0, 1, 2, 3], [0, 1, 2, 3, 6], [0, 1, 2, 3, 6, 7], [0, 1, 2, 3, 6, 7, 8], [0, 1, 2, 3, 6, 7, 8, 9], [0, 1, 2, 3, 4, 5, 6, 7, 8, 9, 10], [0, 1, 2, 3, 4, 5, 6, 7, 8, 9, 10, 11], [0, 1, 2, 3, 4, 5, 6, 7, 8, 9, 10, 11, 12], [0, 1, 2, 3, 4, 5, 6, 7, 8, 9, 10, 11, 12, 13], [0, 1, 2, 3, 4, 5, 6, 7, 8, 9, 10, 11, 12, 13], [0, 1, 2, 3, 4, 5, 6, 7, 8, 9, 10, 11, 12, 13, 14, 15], [0, 1, 2, 3, 4, 5, 6, 7, 8, 9, 10, 11, 12, 13, 14, 15, 16], [0, 1, 2, 3, 4, 5, 6, 7, 8, 9, 10, 11, 12, 13, 14, 15, 16, 17], [0, 1, 2, 3, 4, 5, 6, 7, 8, 9, 10, 11, 12, 13, 14, 15, 16, 17, 18], [0, 1, 2, 3, 4, 5, 6, 7, 8, 9, 10, 11, 12, 13, 14, 15, 16, 17, 18], [0, 1, 2, 3, 4, 5, 6, 7, 8, 9, 10, 11, 12, 13, 14, 15, 16, 17, 18, 19, 20], [0, 1, 2, 3, 4, 5, 6, 7, 8, 9, 10, 11, 12, 13, 14, 15, 16, 17, 18, 19, 20, 21]], [false, false, false, false, false, true, false, false, false, false, false, false, false, false, false, false, false, false, false, false, false, false, false]⟩
def cert_linchpinlaw19_LifePlays_19 : VC.Cert := ⟨[[], [], [1], [], [3], [3, 4], [3, 4, 5], [], [7], [3, 4, 5, 6, 7, 8], [0, 1, 2, 3, 4, 5, 6, 7, 8, 9], [0, 1, 2, 3, 4, 5, 6, 7, 8, 9, 10]], [false, false, false, false, false, false, false, false, false, false, true, false]⟩
def cert_linchpinlaw19_LifePlays_20 : VC.Cert := ⟨[[], [], [1], [], [3], [3, 4], [3, 4, 5], [], [7], [3, 4, 5, 6, 7, 8], [0, 1, 2, 3, 4, 5, 6, 7, 8, 9], [0, 1, 2, 3, 4, 5, 6, 7, 8, 9, 10]], [false, false, false, false, false, false, false, false, false, false, true, false]⟩
def cert_linchpinlaw19_LifePlays_29 : VC.Cert := ⟨[[], [], [1], [1, 2], [1, 2, 3], [], [5], [1, 2, 3, 4, 5, 6], [0, 1, 2, 3, 4, 5, 6, 7], [0, 1, 2, 3, 4, 5, 6, 7, 8], [0, 1, 2, 3, 4, 5, 6, 7, 8, 9], [0, 1, 2, 3, 4, 5, 6, 7, 8, 9], [0, 1, 2, 3, 4, 5, 6, 7, 8, 9, 10], [0, 1, 2, 3, 4, 5, 6, 7, 8, 9, 10, 11, 12]], [false, false, false, false, false, false, false, false, true, false, false, false, false, false]⟩
def cert_linchpinlaw19_LifePlays_30 : VC.Cert := ⟨[[], [], [1], [1, 2], [1, 2, 3], [], [5], [1, 2, 3, 4, 5, 6], [0, 1, 2, 3, 4, 5, 6, 7], [0, 1, 2, 3, 4, 5, 6, 7, 8], [0, 1, 2, 3, 4, 5, 6, 7, 8, 9], [0, 1, 2, 3, 4, 5, 6, 7, 8, 9], [0, 1, 2, 3, 4, 5, 6, 7, 8, 9, 10], [0, 1, 2, 3, 4, 5, 6, 7, 8, 9, 10, 11, 12]], [false, false, false, false, false, false, false, false, true, false, false, false, false, false]⟩
/-- linchpinlaw19.LifePlays -/
def F_linchpinlaw19_LifePlays (p0 : Int) (p1a : Option Addr) (p1n : Nat) (p1c : Nat) (K : Bool → Heap → Prop) (h : Heap) : Prop :=
  CallsH PR fn_linchpinlaw19_awake #[] h (fun v h1 => ∃ (x3 : Bool), v = (Value.bool x3) ∧ (x3 = false → K false h1) ∧ (x3 = true → CallsH PR fn_life_New #[.int .u64 p0] h1 (fun v h4 => ∃ (x6 : Option Addr) (x7 : Int), v = (Value.tuple #[.pointer x6, .int .i64 x7]) ∧ (((decide (p0 < 1)) || (decide (1000 < p0))) = true → K (x6.isNone && (decide (x7 = 1))) h4) ∧ (((decide (p0 < 1)) || (decide (1000 < p0))) = false → ((x6.isNone || (!decide (x7 = 0))) = true → K false h4) ∧ ((x6.isNone || (!decide (x7 = 0))) = false → ∀ (h14 : Heap), h14 = h4.push (.cells #[.int .u64 p0, .int .u64 0, .slice none 0 0, .slice none 0 0] 54 (0, 0)) → ∃ (I17 : Int → Heap → Prop) (mu18 : Int → Heap → Nat), I17 0 h14 ∧ ∀ (x16 : Int) (h20 : Heap), I17 x16 h20 → (((decide (x16 < (p1n : Int))) && (decide (x16 < 150))) = true → ∃ (b24 : Nat) (o25 : Nat), p1a = some ⟨b24, o25, none⟩ ∧ (0 ≤ x16 ∧ x16 < (p1n : Int)) ∧ ∃ (x27_0 : Int) (x27_1 : Int) (x27_2 : Int) (x27_3 : Int), ldCells h20 b24 (o25 + x16.toNat * 4) 4 = some [.int .i64 x27_0, .int .i64 x27_1, .int .u64 x27_2, .int .i64 x27_3] ∧ ∀ (h29 : Heap), h29 = h20.push (.cells #[.int .i64 0, .int .i64 0, .int .u64 0, .int .i64 0] 41 (0, 0)) → ∃ (h32 : Heap), stCells h20.size h29 0 [.int .i64 x27_0, .int .i64 x27_1, .int .u64 x27_2, .int .i64 x27_3] = some h32 ∧ ∃ J35 : Int → Int → Heap → Prop, (∀ (x33 : Int) (x34 : Int) (h37 : Heap), J35 x33 x34 h37 → ∃ (x38 : Int), cellH h37 h20.size 1 = some (.int .i64 x38) ∧ CallsH PR fn_life_Book_Has #[.pointer x6, .int .i64 x38] h37 (fun v h40 => ∃ (x42 : Int) (x43 : Bool), v = (Value.tuple #[.int .u64 x42, .bool x43]) ∧ ∃ (I47 : Int → Bool → Int → Heap → Prop) (mu48 : Int → Bool → Int → Heap → Nat), I47 0 false 0 h40 ∧ ∀ (x44 : Int) (x45 : Bool) (x46 : Int) (h50 : Heap), I47 x44 x45 x46 h50 → ∃ (x51a : Option Addr) (x51n : Nat) (x51c : Nat), cellH h50 h4.size 2 = some (.slice x51a x51n x51c) ∧ (x46 < (x51n : Int) → ∃ J56 : Int → Bool → Heap → Prop, (∀ (x54 : Int) (x55 : Bool) (h58 : Heap), J56 x54 x55 h58 → (-9223372036854775808 ≤ x46 + 1 ∧ x46 + 1 < 9223372036854775808) ∧ (I47 x54 x55 (x46 + 1) h58 ∧ mu48 x54 x55 (x46 + 1) h58 < mu48 x44 x45 x46 h50)) ∧ ∃ (x60a : Option Addr) (x60n : Nat) (x60c : Nat), cellH h50 h4.size 2 = some (.slice x60a x60n x60c) ∧ ∃ (b63 : Nat) (o64 : Nat), x60a = some ⟨b63, o64, none⟩ ∧ (0 ≤ x46 ∧ x46 < (x60n : Int)) ∧ ∃ (x66 : Int), cellH h50 b63 (o64 + x46.toNat * 2) = some (.int .i64 x66) ∧ ∃ (x68 : Int), cellH h50 h20.size 1 = some (.int .i64 x68) ∧ (x66 = x68 → ∃ (x71a : Option Addr) (x71n : Nat) (x71c : Nat), cellH h50 h4.size 2 = some (.slice x71a x71n x71c) ∧ ∃ (b74 : Nat) (o75 : Nat), x71a = some ⟨b74, o75, none⟩ ∧ (0 ≤ x46 ∧ x46 < (x71n : Int)) ∧ ∃ (x77 : Int), cellH h50 b74 (o75 + x46.toNat * 2 + 1) = some (.int .u64 x77) ∧ J56 x77 true h50) ∧ ((¬ (x66 = x68)) → J56 x44 x45 h50)) ∧ ((¬ (x46 < (x51n : Int))) → ∃ (x80a : Option Addr) (x80n : Nat) (x80c : Nat), ((x33 = x34) → cellH h50 h4.size 2 = some (.slice x80a x80n x80c)) ∧ ∃ J85 : Int → Heap → Prop, (∀ (x84 : Int) (h82 : Heap), J85 x84 h82 → ((x33 = x34) → cellH h82 h4.size 2 = some (Value.slice x80a x80n x80c)) ∧ (((((!decide (x33 = x34)) || (!decide (x84 = (x80n : Int)))) || (!decide (x42 = x44))) || (!decide (x43 = x45))) = true → K false h82) ∧ (((((!decide (x33 = x34)) || (!decide (x84 = (x80n : Int)))) || (!decide (x42 = x44))) || (!decide (x43 = x45))) = false → (-9223372036854775808 ≤ x16 + 1 ∧ x16 + 1 < 9223372036854775808) ∧ (I17 (x16 + 1) h82 ∧ mu18 (x16 + 1) h82 < mu18 x16 h20))) ∧ ((x33 = x34) → CallsH PR fn_life_Book_Count #[.pointer x6] h50 (fun v h82 => ∃ (x84 : Int), v = (Value.int .i64 x84) ∧ J85 x84 h82)) ∧ ((¬ (x33 = x34)) → ∃ (x84 : Int), J85 x84 h50)))) ∧ ∃ (x92 : Int), cellH h32 h20.size 0 = some (.int .i64 x92) ∧ (x92 = 0 → ∃ (x95 : Int), cellH h32 h20.size 1 = some (.int .i64 x95) ∧ ∃ (x97 : Int), cellH h32 h4.size 1 = some (.int .u64 x97) ∧ ∃ (x99 : Int), cellH h32 h20.size 2 = some (.int .u64 x99) ∧ CallsH PR fn_life_Book_Open #[.pointer x6, .int .i64 x95, .int .u64 (IntKind.u64.wrap (x97 + x99))] h32 (fun v h102 => ∃ (x104 : Int), v = (Value.int .i64 x104) ∧ ∃ (x105 : Int), cellH h102 h20.size 1 = some (.int .i64 x105) ∧ ∃ (x107 : Int), cellH h102 h4.size 1 = some (.int .u64 x107) ∧ ∃ (x109 : Int), cellH h102 h20.size 2 = some (.int .u64 x109) ∧ CallsH PR fn_linchpinref19_Book_Open #[.pointer (some ⟨h4.size, 0, none⟩), .int .i64 x105, .int .u64 (IntKind.u64.wrap (x107 + x109))] h102 (fun v h112 => ∃ (x114 : Int), v = (Value.int .i64 x114) ∧ J35 x104 x114 h112))) ∧ ((¬ (x92 = 0)) → ∃ J116 : Bool → Heap → Prop, (∀ (x115 : Bool) (h118 : Heap), J116 x115 h118 → (x115 = true → ∃ (x119 : Int), cellH h118 h20.size 1 = some (.int .i64 x119) ∧ ∃ (x121 : Int), cellH h118 h20.size 3 = some (.int .i64 x121) ∧ ∃ (x123 : Int), cellH h118 h20.size 0 = some (.int .i64 x123) ∧ CallsH PR fn_life_Book_Answer #[.pointer x6, .int .i64 x119, .int .i64 x121, .bool (decide (x123 = 2))] h118 (fun v h126 => ∃ (x128 : Int), v = (Value.int .i64 x128) ∧ ∃ (x129 : Int), cellH h126 h20.size 1 = some (.int .i64 x129) ∧ ∃ (x131 : Int), cellH h126 h20.size 3 = some (.int .i64 x131) ∧ ∃ (x133 : Int), cellH h126 h20.size 0 = some (.int .i64 x133) ∧ CallsH PR fn_linchpinref19_Book_Answer #[.pointer (some ⟨h4.size, 0, none⟩), .int .i64 x129, .int .i64 x131, .bool (decide (x133 = 2))] h126 (fun v h136 => ∃ (x138 : Int), v = (Value.int .i64 x138) ∧ J35 x128 x138 h136))) ∧ (x115 = false → (x92 = 3 → ∃ (x140 : Int), cellH h118 h20.size 1 = some (.int .i64 x140) ∧ CallsH PR fn_life_Book_Cancel #[.pointer x6, .int .i64 x140] h118 (fun v h142 => ∃ (x144 : Int), v = (Value.int .i64 x144) ∧ ∃ (x145 : Int), cellH h142 h20.size 1 = some (.int .i64 x145) ∧ CallsH PR fn_linchpinref19_Book_Cancel #[.pointer (some ⟨h4.size, 0, none⟩), .int .i64 x145] h142 (fun v h147 => ∃ (x149 : Int), v = (Value.int .i64 x149) ∧ J35 x144 x149 h147))) ∧ ((¬ (x92 = 3)) → (x92 = 4 → ∃ (x151 : Int), cellH h118 h4.size 1 = some (.int .u64 x151) ∧ ∃ (x153 : Int), cellH h118 h20.size 2 = some (.int .u64 x153) ∧ CallsH PR fn_life_Book_Go #[.pointer x6, .int .u64 (IntKind.u64.wrap (x151 + x153))] h118 (fun v h156 => ∃ (x158a : Option Addr) (x158n : Nat) (x158c : Nat) (x159 : Int), v = (Value.tuple #[.slice x158a x158n x158c, .int .i64 x159]) ∧ ∃ (x160 : Int), cellH h156 h4.size 1 = some (.int .u64 x160) ∧ ∃ (x162 : Int), cellH h156 h20.size 2 = some (.int .u64 x162) ∧ CallsH PR fn_linchpinref19_Book_Go #[.pointer (some ⟨h4.size, 0, none⟩), .int .u64 (IntKind.u64.wrap (x160 + x162))] h156 (fun v h165 => ∃ (x167a : Option Addr) (x167n : Nat) (x167c : Nat) (x168 : Int), v = (Value.tuple #[.slice x167a x167n x167c, .int .i64 x168]) ∧ CallsH PR fn_linchpinref19_Same #[.slice x158a x158n x158c, .slice x167a x167n x167c] h165 (fun v h169 => ∃ (x171 : Bool), v = (Value.bool x171) ∧ (x171 = false → K false h169) ∧ (x171 = true → J35 x159 x168 h169))))) ∧ ((¬ (x92 = 4)) → ∃ (x172 : Int), cellH h118 h20.size 1 = some (.int .i64 x172) ∧ ∃ (x174 : Int), cellH h118 h20.size 2 = some (.int .u64 x174) ∧ CallsH PR fn_life_Book_Open #[.pointer x6, .int .i64 x172, .int .u64 x174] h118 (fun v h176 => ∃ (x178 : Int), v = (Value.int .i64 x178) ∧ ∃ (x179 : Int), cellH h176 h20.size 1 = some (.int .i64 x179) ∧ ∃ (x181 : Int), cellH h176 h20.size 2 = some (.int .u64 x181) ∧ CallsH PR fn_linchpinref19_Book_Open #[.pointer (some ⟨h4.size, 0, none⟩), .int .i64 x179, .int .u64 x181] h176 (fun v h183 => ∃ (x185 : Int), v = (Value.int .i64 x185) ∧ J35 x178 x185 h183)))))) ∧ (x92 = 1 → J116 (decide (x92 = 1)) h32) ∧ ((¬ (x92 = 1)) → J116 (decide (x92 = 2)) h32))) ∧ (((decide (x16 < (p1n : Int))) && (decide (x16 < 150))) = false → K true h20))))))
theorem F_linchpinlaw19_LifePlays_ok (p0 : Int) (p1a : Option Addr) (p1n : Nat) (p1c : Nat) (R : Value → Heap → Prop) (h : Heap) (H : F_linchpinlaw19_LifePlays p0 p1a p1n p1c (fun r0 h' => R (Value.bool r0) h') h) : CallsH PR fn_linchpinlaw19_LifePlays #[.int .u64 p0, .slice p1a p1n p1c] h R := by
  refine VC.callsH_of (args := [.int .u64 p0, .slice p1a p1n p1c]) Try.func7 rfl rfl ?_
  intro f hf
  have e0 := hf 0 _ rfl
  have e1 := hf 1 _ rfl
  clear hf
  unfold F_linchpinlaw19_LifePlays at H
  refine VC.wpf_seq ?_
  refine VC.wpf_region rfl ?_
  refine VC.wpL_op (VC.op_assign (v := .bool false) rfl ?_)
  refine VC.wpL_nil ?_
  refine VC.wpf_seq ?_
  refine VC.wpf_seq ?_
  refine VC.wpf_region rfl ?_
  refine VC.wpL_op (VC.op_call (vs := []) en_8 VC.args_nil (CallsH.mono H ?_))
  clear H
  rintro _ h1 ⟨x3, rfl, H⟩
  refine VC.wpL_op (VC.op_not rfl ?_)
  refine VC.wpL_nil ?_
  refine VC.wpf_cond (!x3) rfl ?_ ?_
  · intro hb
    replace H := H.1 (VC.of_not_true hb)
    refine VC.wpf_seq ?_
    refine VC.wpf_region rfl ?_
    refine VC.wpL_op (VC.op_assign (v := .bool false) rfl ?_)
    refine VC.wpL_nil ?_
    refine VC.wpf_ret ?_
    exact VC.ret_leaf (VC.resV_tmp rfl VC.resV_nil) H
  · intro hb
    replace H := H.2 (VC.of_not_false hb)
    refine VC.wpf_skip ?_
    refine VC.wpf_seq ?_
    refine VC.wpf_region rfl ?_
    refine VC.wpL_op (VC.op_move (v := .int .u64 p0) e0 ?_)
    refine VC.wpL_op (VC.op_call (vs := [.int .u64 p0]) en_9 (VC.args_cons rfl VC.args_nil) (CallsH.mono H ?_))
    clear H
    rintro _ h4 ⟨x6, x7, rfl, H⟩
    refine VC.wpL_op (VC.op_move (v := .tuple #[.pointer x6, .int .i64 x7]) rfl ?_)
    refine VC.wpL_op (VC.op_extract rfl rfl ?_)
    refine VC.wpL_op (VC.op_extract rfl rfl ?_)
    refine VC.wpL_op (VC.op_assign (v := .pointer x6) rfl ?_)
    refine VC.wpL_op (VC.op_assign (v := .int .i64 x7) rfl ?_)
    refine VC.wpL_nil ?_
    refine VC.wpf_seq ?_
    refine VC.wpf_seq ?_
    refine VC.wpf_region rfl ?_
    refine VC.wpL_op (VC.op_move (v := .int .u64 p0) e0 ?_)
    refine VC.wpL_op (VC.op_lss rfl rfl ?_)
    refine VC.wpL_op (VC.op_move (v := .bool (decide (p0 < 1))) rfl ?_)
    refine VC.wpL_gq (b := !(decide (p0 < 1))) (VC.guard_slot rfl rfl) (Value.int .u64 p0) (fun hb N hN => VC.op_move (v := .int .u64 p0) e0 hN) ?_
    refine VC.wpL_gq (b := !(decide (p0 < 1))) (VC.guard_slot rfl rfl) (Value.bool (decide (1000 < p0))) (fun hb N hN => VC.op_gtr (VC.gv hb) rfl hN) ?_
    refine VC.wpL_op (VC.op_pick_or rfl rfl (fun hq => (VC.gv (VC.not_of_false hq))) ?_)
    refine VC.wpL_nil ?_
    refine VC.wpf_cond ((decide (p0 < 1)) || (decide (1000 < p0))) rfl ?_ ?_
    · intro hb
      replace H := H.1 hb
      refine VC.wpf_seq ?_
      refine VC.wpf_region rfl ?_
      refine VC.wpL_op (VC.op_move (v := .pointer x6) rfl ?_)
      refine VC.wpL_op (VC.op_eq_ptr_nil rfl rfl un_25 ?_)
      refine VC.wpL_op (VC.op_move (v := .bool x6.isNone) rfl ?_)
      refine VC.wpL_gq (b := x6.isNone) (VC.guard_slot rfl rfl) (Value.int .i64 x7) (fun hb N hN => VC.op_move (v := .int .i64 x7) rfl hN) ?_
      refine VC.wpL_gq (b := x6.isNone) (VC.guard_slot rfl rfl) (Value.bool (decide (x7 = 1))) (fun hb N hN => VC.op_eql (VC.gv hb) rfl hN) ?_
      refine VC.wpL_op (VC.op_pick_and rfl (fun hq => (VC.gv hq)) rfl ?_)
      refine VC.wpL_op (VC.op_assign (v := .bool (x6.isNone && (decide (x7 = 1)))) rfl ?_)
      refine VC.wpL_nil ?_
      refine VC.wpf_ret ?_
      exact VC.ret_leaf (VC.resV_tmp rfl VC.resV_nil) H
    · intro hb
      replace H := H.2 hb
      refine VC.wpf_skip ?_
      refine VC.wpf_seq ?_
      refine VC.wpf_seq ?_
      refine VC.wpf_region rfl ?_
      refine VC.wpL_op (VC.op_move (v := .pointer x6) rfl ?_)
      refine VC.wpL_op (VC.op_eq_ptr_nil rfl rfl un_25 ?_)
      refine VC.wpL_op (VC.op_move (v := .bool x6.isNone) rfl ?_)
      refine VC.wpL_gq (b := !x6.isNone) (VC.guard_slot rfl rfl) (Value.int .i64 x7) (fun hb N hN => VC.op_move (v := .int .i64 x7) rfl hN) ?_
      refine VC.wpL_gq (b := !x6.isNone) (VC.guard_slot rfl rfl) (Value.bool (!decide (x7 = 0))) (fun hb N hN => VC.op_neq (VC.gv hb) rfl hN) ?_
      refine VC.wpL_op (VC.op_pick_or rfl rfl (fun hq => (VC.gv (VC.not_of_false hq))) ?_)
      refine VC.wpL_nil ?_
      refine VC.wpf_cond (x6.isNone || (!decide (x7 = 0))) rfl ?_ ?_
      · intro hb
        replace H := H.1 hb
        refine VC.wpf_seq ?_
        refine VC.wpf_region rfl ?_
        refine VC.wpL_op (VC.op_assign (v := .bool false) rfl ?_)
        refine VC.wpL_nil ?_
        refine VC.wpf_ret ?_
        exact VC.ret_leaf (VC.resV_tmp rfl VC.resV_nil) H
      · intro hb
        replace H := H.2 hb
        refine VC.wpf_skip ?_
        refine VC.wpf_seq ?_
        refine VC.wpf_region rfl ?_
        refine VC.wpL_op (VC.op_move (v := .int .u64 p0) e0 ?_)
        refine VC.wpL_op (VC.op_build' (vs := [(0, .int .u64 p0)]) (cs := #[.int .u64 p0, .int .u64 0, .slice none 0 0, .slice none 0 0]) z_54 fs_54 (VC.parts_cons rfl VC.parts_nil) rfl ?_)
        obtain ⟨h14, c15⟩ : ∃ h14, h14 = h4.push (.cells #[.int .u64 p0, .int .u64 0, .slice none 0 0, .slice none 0 0] 54 (0, 0)) := ⟨_, rfl⟩
        replace H := H h14 c15
        refine VC.wpL_op (VC.op_box (v := .agg #[.int .u64 p0, .int .u64 0, .slice none 0 0, .slice none 0 0]) rfl c15 ?_)
        refine VC.wpL_op (VC.op_assign (v := .pointer (some ⟨h4.size, 0, none⟩)) rfl ?_)
        refine VC.wpL_nil ?_
        refine VC.wpf_seq ?_
        refine VC.wpf_seq ?_
        refine VC.wpf_region rfl ?_
        refine VC.wpL_op (VC.op_assign (v := .int .i64 0) rfl ?_)
        refine VC.wpL_nil ?_
        refine VC.wpf_block ?_
        obtain ⟨I17, mu18, hI, H⟩ := H
        obtain ⟨I19, mu19, hin19, hout19, hmu19⟩ : ∃ (J19 : VC.Fr → Heap → Prop) (m : VC.Fr → Heap → Nat), (∀ f hz (x16 : Int), f 8 = .int .i64 x16 → f 1 = .slice p1a p1n p1c → f 5 = .pointer x6 → f 7 = .pointer (some ⟨h4.size, 0, none⟩) → I17 x16 hz → J19 f hz) ∧ (∀ f hz, J19 f hz → ∃ (x16 : Int), f 8 = .int .i64 x16 ∧ f 1 = .slice p1a p1n p1c ∧ f 5 = .pointer x6 ∧ f 7 = .pointer (some ⟨h4.size, 0, none⟩) ∧ I17 x16 hz) ∧ (∀ f hz (x16 : Int), f 8 = .int .i64 x16 → m f hz = mu18 x16 hz) := ⟨fun f hz => ∃ (x16 : Int), f 8 = .int .i64 x16 ∧ f 1 = .slice p1a p1n p1c ∧ f 5 = .pointer x6 ∧ f 7 = .pointer (some ⟨h4.size, 0, none⟩) ∧ I17 x16 hz, fun f hz => mu18 (VC.dInt (f 8)) hz, fun _ _ x16 a0 a1 a2 a3 z => ⟨x16, a0, a1, a2, a3, z⟩, fun _ _ hz => hz, fun f hz x16 a0 => by simp only [a0]; rfl⟩
        refine VC.wpf_loop I19 mu19 (hin19 _ _ _ rfl e1 rfl rfl hI) ?_
        clear hI
        intro f h20 hf
        obtain ⟨x16, a19_0, a19_1, a19_2, a19_3, hJ⟩ := hout19 _ _ hf
        replace H := H x16 h20 hJ
        refine VC.wpf_seq ?_
        refine VC.wpf_seq ?_
        refine VC.wpf_region rfl ?_
        refine VC.wpL_op (VC.op_move (v := .int .i64 x16) a19_0 ?_)
        refine VC.wpL_op (VC.op_move (v := .slice p1a p1n p1c) a19_1 ?_)
        refine VC.wpL_op (VC.op_len_slice rfl un_38 ?_)
        refine VC.wpL_op (VC.op_lss rfl rfl ?_)
        refine VC.wpL_op (VC.op_move (v := .bool (decide (x16 < (p1n : Int)))) rfl ?_)
        refine VC.wpL_gq (b := decide (x16 < (p1n : Int))) (VC.guard_slot rfl rfl) (Value.int .i64 x16) (fun hb N hN => VC.op_move (v := .int .i64 x16) a19_0 hN) ?_
        refine VC.wpL_gq (b := decide (x16 < (p1n : Int))) (VC.guard_slot rfl rfl) (Value.bool (decide (x16 < 150))) (fun hb N hN => VC.op_lss (VC.gv hb) rfl hN) ?_
        refine VC.wpL_op (VC.op_pick_and rfl (fun hq => (VC.gv hq)) rfl ?_)
        refine VC.wpL_nil ?_
        refine VC.wpf_cond ((decide (x16 < (p1n : Int))) && (decide (x16 < 150))) rfl ?_ ?_
        · intro hb
          replace H := H.1 hb
          refine VC.wpf_skip ?_
          refine VC.wpf_seq ?_
          refine VC.wpf_block ?_
          refine VC.wpf_seq ?_
          refine VC.wpf_region rfl ?_
          refine VC.wpL_op (VC.op_move (v := .slice p1a p1n p1c) a19_1 ?_)
          refine VC.wpL_op (VC.op_move (v := .int .i64 x16) a19_0 ?_)
          obtain ⟨b24, o25, rfl, H⟩ := H
          obtain ⟨c23, H⟩ := H
          refine VC.wpL_op (VC.op_indexAddr_slice rfl rfl ei_38 c23 ?_)
          obtain ⟨x27_0, x27_1, x27_2, x27_3, c28, H⟩ := H
          refine VC.wpL_op (VC.op_loadN rfl ag_41 c28 ?_)
          obtain ⟨h29, c30⟩ : ∃ h29, h29 = h20.push (.cells #[.int .i64 0, .int .i64 0, .int .u64 0, .int .i64 0] 41 (0, 0)) := ⟨_, rfl⟩
          replace H := H h29 c30
          refine VC.wpL_op (VC.op_alloc z_41 c30 ?_)
          obtain ⟨h32, c31, H⟩ := H
          refine VC.wpL_op (VC.op_store (v := .agg #[.int .i64 x27_0, .int .i64 x27_1, .int .u64 x27_2, .int .i64 x27_3]) rfl rfl sz_41 rfl c31 ?_)
          refine VC.wpL_nil ?_
          refine VC.wpf_seq ?_
          refine VC.wpf_region rfl ?_
          refine VC.wpL_op (VC.op_assign (v := .int .i64 0) rfl ?_)
          refine VC.wpL_nil ?_
          refine VC.wpf_seq ?_
          refine VC.wpf_region rfl ?_
          refine VC.wpL_op (VC.op_assign (v := .int .i64 0) rfl ?_)
          refine VC.wpL_nil ?_
          obtain ⟨J35, HR, H⟩ := H
          obtain ⟨J36, hin36, hout36⟩ : ∃ J36 : VC.Fr → Heap → Prop, (∀ f hz (x33 : Int) (x34 : Int), f 10 = .int .i64 x33 → f 11 = .int .i64 x34 → f 1 = .slice (some ⟨b24, o25, none⟩) p1n p1c → f 5 = .pointer x6 → f 7 = .pointer (some ⟨h4.size, 0, none⟩) → f 8 = .int .i64 x16 → f 9 = .pointer (some ⟨h20.size, 0, none⟩) → J35 x33 x34 hz → J36 f hz) ∧ (∀ f hz, J36 f hz → ∃ (x33 : Int) (x34 : Int), f 10 = .int .i64 x33 ∧ f 11 = .int .i64 x34 ∧ f 1 = .slice (some ⟨b24, o25, none⟩) p1n p1c ∧ f 5 = .pointer x6 ∧ f 7 = .pointer (some ⟨h4.size, 0, none⟩) ∧ f 8 = .int .i64 x16 ∧ f 9 = .pointer (some ⟨h20.size, 0, none⟩) ∧ J35 x33 x34 hz) := ⟨fun f hz => ∃ (x33 : Int) (x34 : Int), f 10 = .int .i64 x33 ∧ f 11 = .int .i64 x34 ∧ f 1 = .slice (some ⟨b24, o25, none⟩) p1n p1c ∧ f 5 = .pointer x6 ∧ f 7 = .pointer (some ⟨h4.size, 0, none⟩) ∧ f 8 = .int .i64 x16 ∧ f 9 = .pointer (some ⟨h20.size, 0, none⟩) ∧ J35 x33 x34 hz, fun _ _ x33 x34 a0 a1 a2 a3 a4 a5 a6 z => ⟨x33, x34, a0, a1, a2, a3, a4, a5, a6, z⟩, fun _ _ hz => hz⟩
          refine VC.wpf_seq_cut J36 ?_ ?_
          · skip
            refine VC.wpf_seq ?_
            refine VC.wpf_region rfl ?_
            refine VC.wpL_op (VC.op_fieldAddr rfl fo_41_0 ?_)
            obtain ⟨x92, c93, H⟩ := H
            refine VC.wpL_op (VC.op_load1 rfl ag_3 c93 ?_)
            refine VC.wpL_nil ?_
            refine VC.wpf_block ?_
            refine VC.wpf_seq ?_
            refine VC.wpf_region rfl ?_
            refine VC.wpL_op (VC.op_eql rfl rfl ?_)
            refine VC.wpL_op (VC.op_assign (v := .bool (decide (x92 = 0))) rfl ?_)
            refine VC.wpL_nil ?_
            refine VC.wpf_cond (decide (x92 = 0)) rfl ?_ ?_
            · intro hb
              replace H := H.1 (of_decide_eq_true hb)
              refine VC.wpf_seq ?_
              obtain ⟨x95, c96, H⟩ := H
              obtain ⟨x97, c98, H⟩ := H
              obtain ⟨x99, c100, H⟩ := H
              refine VC.wpf_draw cert_linchpinlaw19_LifePlays_19 1 [(Value.pointer x6), (Value.pointer (some ⟨h20.size, 1, none⟩)), (Value.int .i64 x95), (Value.pointer (some ⟨h4.size, 0, none⟩)), (Value.pointer (some ⟨h4.size, 0, none⟩)), (Value.pointer (some ⟨h4.size, 1, none⟩)), (Value.int .u64 x97), (Value.pointer (some ⟨h20.size, 2, none⟩)), (Value.int .u64 x99), (Value.int .u64 (IntKind.u64.wrap (x97 + x99))), undef, undef] (by kernel_rfl) rfl mixed_PR ?_
              refine VC.plan_step [10] (by decide) rfl (VC.quiet_of [0, 1, 2, 3, 4, 5, 6, 7, 8, 9] rfl ⟨VC.stepAt_of rfl rfl (VC.op_move (v := .pointer x6) a19_2 ⟨rfl, rfl⟩), VC.stepAt_of rfl rfl (VC.op_fieldAddr rfl fo_41_1 ⟨rfl, rfl⟩), VC.stepAt_of rfl rfl (VC.op_load1 rfl ag_3 c96 ⟨rfl, rfl⟩), VC.stepAt_of rfl rfl (VC.op_move (v := .pointer (some ⟨h4.size, 0, none⟩)) a19_3 ⟨rfl, rfl⟩), VC.stepAt_of rfl rfl (VC.op_nilCheck rfl ⟨rfl, rfl⟩), VC.stepAt_of rfl rfl (VC.op_fieldAddr rfl fo_54_1 ⟨rfl, rfl⟩), VC.stepAt_of rfl rfl (VC.op_load1 rfl ag_29 c98 ⟨rfl, rfl⟩), VC.stepAt_of rfl rfl (VC.op_fieldAddr rfl fo_41_2 ⟨rfl, rfl⟩), VC.stepAt_of rfl rfl (VC.op_load1 rfl ag_29 c100 ⟨rfl, rfl⟩), VC.stepAt_of rfl rfl (VC.op_add rfl rfl rfl ⟨rfl, rfl⟩), trivial⟩) rfl ⟨?_, trivial⟩
              refine VC.stepAt_of rfl rfl (VC.op_call (vs := [.pointer x6, .int .i64 x95, .int .u64 (IntKind.u64.wrap (x97 + x99))]) en_10 (VC.args_cons rfl (VC.args_cons rfl (VC.args_cons rfl VC.args_nil))) (CallsH.mono H ?_))
              clear H
              rintro _ h102 ⟨x104, rfl, H⟩
              refine ⟨[(Value.pointer x6), (Value.pointer (some ⟨h20.size, 1, none⟩)), (Value.int .i64 x95), (Value.pointer (some ⟨h4.size, 0, none⟩)), (Value.pointer (some ⟨h4.size, 0, none⟩)), (Value.pointer (some ⟨h4.size, 1, none⟩)), (Value.int .u64 x97), (Value.pointer (some ⟨h20.size, 2, none⟩)), (Value.int .u64 x99), (Value.int .u64 (IntKind.u64.wrap (x97 + x99))), (Value.int .i64 x104), (Value.int .i64 x104)], rfl, (VC.agree_of [0, 1, 2, 3, 4, 5, 6, 7, 8, 9] rfl ⟨rfl, rfl, rfl, rfl, rfl, rfl, rfl, rfl, rfl, rfl, trivial⟩), ?_⟩
              refine VC.plan_done rfl (VC.quiet_of [11] rfl ⟨VC.stepAt_of rfl rfl (VC.op_assign (v := .int .i64 x104) rfl ⟨rfl, rfl⟩), trivial⟩) rfl ?_
              obtain ⟨x105, c106, H⟩ := H
              obtain ⟨x107, c108, H⟩ := H
              obtain ⟨x109, c110, H⟩ := H
              refine VC.wpf_draw cert_linchpinlaw19_LifePlays_20 1 [(Value.pointer (some ⟨h4.size, 0, none⟩)), (Value.pointer (some ⟨h20.size, 1, none⟩)), (Value.int .i64 x105), (Value.pointer (some ⟨h4.size, 0, none⟩)), (Value.pointer (some ⟨h4.size, 0, none⟩)), (Value.pointer (some ⟨h4.size, 1, none⟩)), (Value.int .u64 x107), (Value.pointer (some ⟨h20.size, 2, none⟩)), (Value.int .u64 x109), (Value.int .u64 (IntKind.u64.wrap (x107 + x109))), undef, undef] (by kernel_rfl) rfl mixed_PR ?_
              refine VC.plan_step [10] (by decide) rfl (VC.quiet_of [0, 1, 2, 3, 4, 5, 6, 7, 8, 9] rfl ⟨VC.stepAt_of rfl rfl (VC.op_move (v := .pointer (some ⟨h4.size, 0, none⟩)) a19_3 ⟨rfl, rfl⟩), VC.stepAt_of rfl rfl (VC.op_fieldAddr rfl fo_41_1 ⟨rfl, rfl⟩), VC.stepAt_of rfl rfl (VC.op_load1 rfl ag_3 c106 ⟨rfl, rfl⟩), VC.stepAt_of rfl rfl (VC.op_move (v := .pointer (some ⟨h4.size, 0, none⟩)) a19_3 ⟨rfl, rfl⟩), VC.stepAt_of rfl rfl (VC.op_nilCheck rfl ⟨rfl, rfl⟩), VC.stepAt_of rfl rfl (VC.op_fieldAddr rfl fo_54_1 ⟨rfl, rfl⟩), VC.stepAt_of rfl rfl (VC.op_load1 rfl ag_29 c108 ⟨rfl, rfl⟩), VC.stepAt_of rfl rfl (VC.op_fieldAddr rfl fo_41_2 ⟨rfl, rfl⟩), VC.stepAt_of rfl rfl (VC.op_load1 rfl ag_29 c110 ⟨rfl, rfl⟩), VC.stepAt_of rfl rfl (VC.op_add rfl rfl rfl ⟨rfl, rfl⟩), trivial⟩) rfl ⟨?_, trivial⟩
              refine VC.stepAt_of rfl rfl (VC.op_call (vs := [.pointer (some ⟨h4.size, 0, none⟩), .int .i64 x105, .int .u64 (IntKind.u64.wrap (x107 + x109))]) en_16 (VC.args_cons rfl (VC.args_cons rfl (VC.args_cons rfl VC.args_nil))) (CallsH.mono H ?_))
              clear H
              rintro _ h112 ⟨x114, rfl, H⟩
              refine ⟨[(Value.pointer (some ⟨h4.size, 0, none⟩)), (Value.pointer (some ⟨h20.size, 1, none⟩)), (Value.int .i64 x105), (Value.pointer (some ⟨h4.size, 0, none⟩)), (Value.pointer (some ⟨h4.size, 0, none⟩)), (Value.pointer (some ⟨h4.size, 1, none⟩)), (Value.int .u64 x107), (Value.pointer (some ⟨h20.size, 2, none⟩)), (Value.int .u64 x109), (Value.int .u64 (IntKind.u64.wrap (x107 + x109))), (Value.int .i64 x114), (Value.int .i64 x114)], rfl, (VC.agree_of [0, 1, 2, 3, 4, 5, 6, 7, 8, 9] rfl ⟨rfl, rfl, rfl, rfl, rfl, rfl, rfl, rfl, rfl, rfl, trivial⟩), ?_⟩
              refine VC.plan_done rfl (VC.quiet_of [11] rfl ⟨VC.stepAt_of rfl rfl (VC.op_assign (v := .int .i64 x114) rfl ⟨rfl, rfl⟩), trivial⟩) rfl ?_
              exact hin36 _ _ _ _ rfl rfl a19_1 a19_2 a19_3 a19_0 rfl H
            · intro hb
              replace H := H.2 (of_decide_eq_false hb)
              obtain ⟨J116, HR, H⟩ := H
              obtain ⟨J117, hin117, hout117⟩ : ∃ J117 : VC.Fr → Heap → Prop, (∀ f hz (x115 : Bool), f 101 = .bool x115 → f 1 = .slice (some ⟨b24, o25, none⟩) p1n p1c → f 5 = .pointer x6 → f 7 = .pointer (some ⟨h4.size, 0, none⟩) → f 8 = .int .i64 x16 → f 9 = .pointer (some ⟨h20.size, 0, none⟩) → f 64 = .int .i64 x92 → J116 x115 hz → J117 f hz) ∧ (∀ f hz, J117 f hz → ∃ (x115 : Bool), f 101 = .bool x115 ∧ f 1 = .slice (some ⟨b24, o25, none⟩) p1n p1c ∧ f 5 = .pointer x6 ∧ f 7 = .pointer (some ⟨h4.size, 0, none⟩) ∧ f 8 = .int .i64 x16 ∧ f 9 = .pointer (some ⟨h20.size, 0, none⟩) ∧ f 64 = .int .i64 x92 ∧ J116 x115 hz) := ⟨fun f hz => ∃ (x115 : Bool), f 101 = .bool x115 ∧ f 1 = .slice (some ⟨b24, o25, none⟩) p1n p1c ∧ f 5 = .pointer x6 ∧ f 7 = .pointer (some ⟨h4.size, 0, none⟩) ∧ f 8 = .int .i64 x16 ∧ f 9 = .pointer (some ⟨h20.size, 0, none⟩) ∧ f 64 = .int .i64 x92 ∧ J116 x115 hz, fun _ _ x115 a0 a1 a2 a3 a4 a5 a6 z => ⟨x115, a0, a1, a2, a3, a4, a5, a6, z⟩, fun _ _ hz => hz⟩
              refine VC.wpf_seq_cut J117 ?_ ?_
              · skip
                refine VC.wpf_seq ?_
                refine VC.wpf_region rfl ?_
                refine VC.wpL_op (VC.op_eql rfl rfl ?_)
                refine VC.wpL_op (VC.op_assign (v := .bool (decide (x92 = 1))) rfl ?_)
                refine VC.wpL_nil ?_
                refine VC.wpf_cond (decide (x92 = 1)) rfl ?_ ?_
                · intro hb
                  replace H := H.1 (of_decide_eq_true hb)
                  refine VC.wpf_skip ?_
                  exact hin117 _ _ _ rfl a19_1 a19_2 a19_3 a19_0 rfl rfl H
                · intro hb
                  replace H := H.2 (of_decide_eq_false hb)
                  refine VC.wpf_region rfl ?_
                  refine VC.wpL_op (VC.op_eql rfl rfl ?_)
                  refine VC.wpL_op (VC.op_assign (v := .bool (decide (x92 = 2))) rfl ?_)
                  refine VC.wpL_nil ?_
                  exact hin117 _ _ _ rfl a19_1 a19_2 a19_3 a19_0 rfl rfl H
              · clear H
                intro f h118 hf
                obtain ⟨x115, a117_0, a117_1, a117_2, a117_3, a117_4, a117_5, a117_6, hJ⟩ := hout117 _ _ hf
                have H := HR x115 h118 hJ
                refine VC.wpf_cond (x115) a117_0 ?_ ?_
                · intro hb
                  replace H := H.1 hb
                  refine VC.wpf_seq ?_
                  refine VC.wpf_region rfl ?_
                  refine VC.wpL_op (VC.op_move (v := .pointer x6) a117_2 ?_)
                  refine VC.wpL_op (VC.op_fieldAddr a117_5 fo_41_1 ?_)
                  obtain ⟨x119, c120, H⟩ := H
                  refine VC.wpL_op (VC.op_load1 rfl ag_3 c120 ?_)
                  refine VC.wpL_op (VC.op_fieldAddr a117_5 fo_41_3 ?_)
                  obtain ⟨x121, c122, H⟩ := H
                  refine VC.wpL_op (VC.op_load1 rfl ag_3 c122 ?_)
                  refine VC.wpL_op (VC.op_fieldAddr a117_5 fo_41_0 ?_)
                  obtain ⟨x123, c124, H⟩ := H
                  refine VC.wpL_op (VC.op_load1 rfl ag_3 c124 ?_)
                  refine VC.wpL_op (VC.op_eql rfl rfl ?_)
                  refine VC.wpL_op (VC.op_call (vs := [.pointer x6, .int .i64 x119, .int .i64 x121, .bool (decide (x123 = 2))]) en_12 (VC.args_cons rfl (VC.args_cons rfl (VC.args_cons rfl (VC.args_cons rfl VC.args_nil)))) (CallsH.mono H ?_))
                  clear H
                  rintro _ h126 ⟨x128, rfl, H⟩
                  refine VC.wpL_op (VC.op_assign (v := .int .i64 x128) rfl ?_)
                  refine VC.wpL_nil ?_
                  refine VC.wpf_region rfl ?_
                  refine VC.wpL_op (VC.op_move (v := .pointer (some ⟨h4.size, 0, none⟩)) a117_3 ?_)
                  refine VC.wpL_op (VC.op_fieldAddr a117_5 fo_41_1 ?_)
                  obtain ⟨x129, c130, H⟩ := H
                  refine VC.wpL_op (VC.op_load1 rfl ag_3 c130 ?_)
                  refine VC.wpL_op (VC.op_fieldAddr a117_5 fo_41_3 ?_)
                  obtain ⟨x131, c132, H⟩ := H
                  refine VC.wpL_op (VC.op_load1 rfl ag_3 c132 ?_)
                  refine VC.wpL_op (VC.op_fieldAddr a117_5 fo_41_0 ?_)
                  obtain ⟨x133, c134, H⟩ := H
                  refine VC.wpL_op (VC.op_load1 rfl ag_3 c134 ?_)
                  refine VC.wpL_op (VC.op_eql rfl rfl ?_)
                  refine VC.wpL_op (VC.op_call (vs := [.pointer (some ⟨h4.size, 0, none⟩), .int .i64 x129, .int .i64 x131, .bool (decide (x133 = 2))]) en_17 (VC.args_cons rfl (VC.args_cons rfl (VC.args_cons rfl (VC.args_cons rfl VC.args_nil)))) (CallsH.mono H ?_))
                  clear H
                  rintro _ h136 ⟨x138, rfl, H⟩
                  refine VC.wpL_op (VC.op_assign (v := .int .i64 x138) rfl ?_)
                  refine VC.wpL_nil ?_
                  exact hin36 _ _ _ _ rfl rfl a117_1 a117_2 a117_3 a117_4 a117_5 H
                · intro hb
                  replace H := H.2 hb
                  refine VC.wpf_seq ?_
                  refine VC.wpf_region rfl ?_
                  refine VC.wpL_op (VC.op_eql a117_6 rfl ?_)
                  refine VC.wpL_op (VC.op_assign (v := .bool (decide (x92 = 3))) rfl ?_)
                  refine VC.wpL_nil ?_
                  refine VC.wpf_cond (decide (x92 = 3)) rfl ?_ ?_
                  · intro hb
                    replace H := H.1 (of_decide_eq_true hb)
                    refine VC.wpf_seq ?_
                    refine VC.wpf_region rfl ?_
                    refine VC.wpL_op (VC.op_move (v := .pointer x6) a117_2 ?_)
                    refine VC.wpL_op (VC.op_fieldAddr a117_5 fo_41_1 ?_)
                    obtain ⟨x140, c141, H⟩ := H
                    refine VC.wpL_op (VC.op_load1 rfl ag_3 c141 ?_)
                    refine VC.wpL_op (VC.op_call (vs := [.pointer x6, .int .i64 x140]) en_13 (VC.args_cons rfl (VC.args_cons rfl VC.args_nil)) (CallsH.mono H ?_))
                    clear H
                    rintro _ h142 ⟨x144, rfl, H⟩
                    refine VC.wpL_op (VC.op_assign (v := .int .i64 x144) rfl ?_)
                    refine VC.wpL_nil ?_
                    refine VC.wpf_region rfl ?_
                    refine VC.wpL_op (VC.op_move (v := .pointer (some ⟨h4.size, 0, none⟩)) a117_3 ?_)
                    refine VC.wpL_op (VC.op_fieldAddr a117_5 fo_41_1 ?_)
                    obtain ⟨x145, c146, H⟩ := H
                    refine VC.wpL_op (VC.op_load1 rfl ag_3 c146 ?_)
                    refine VC.wpL_op (VC.op_call (vs := [.pointer (some ⟨h4.size, 0, none⟩), .int .i64 x145]) en_18 (VC.args_cons rfl (VC.args_cons rfl VC.args_nil)) (CallsH.mono H ?_))
                    clear H
                    rintro _ h147 ⟨x149, rfl, H⟩
                    refine VC.wpL_op (VC.op_assign (v := .int .i64 x149) rfl ?_)
                    refine VC.wpL_nil ?_
                    exact hin36 _ _ _ _ rfl rfl a117_1 a117_2 a117_3 a117_4 a117_5 H
                  · intro hb
                    replace H := H.2 (of_decide_eq_false hb)
                    refine VC.wpf_seq ?_
                    refine VC.wpf_region rfl ?_
                    refine VC.wpL_op (VC.op_eql a117_6 rfl ?_)
                    refine VC.wpL_op (VC.op_assign (v := .bool (decide (x92 = 4))) rfl ?_)
                    refine VC.wpL_nil ?_
                    refine VC.wpf_cond (decide (x92 = 4)) rfl ?_ ?_
                    · intro hb
                      replace H := H.1 (of_decide_eq_true hb)
                      refine VC.wpf_seq ?_
                      obtain ⟨x151, c152, H⟩ := H
                      obtain ⟨x153, c154, H⟩ := H
                      refine VC.wpf_draw cert_linchpinlaw19_LifePlays_29 1 [(Value.pointer x6), (Value.pointer (some ⟨h4.size, 0, none⟩)), (Value.pointer (some ⟨h4.size, 0, none⟩)), (Value.pointer (some ⟨h4.size, 1, none⟩)), (Value.int .u64 x151), (Value.pointer (some ⟨h20.size, 2, none⟩)), (Value.int .u64 x153), (Value.int .u64 (IntKind.u64.wrap (x151 + x153))), undef, undef, undef, undef, undef, undef] (by kernel_rfl) rfl mixed_PR ?_
                      refine VC.plan_step [8] (by decide) rfl (VC.quiet_of [0, 1, 2, 3, 4, 5, 6, 7] rfl ⟨VC.stepAt_of rfl rfl (VC.op_move (v := .pointer x6) a117_2 ⟨rfl, rfl⟩), VC.stepAt_of rfl rfl (VC.op_move (v := .pointer (some ⟨h4.size, 0, none⟩)) a117_3 ⟨rfl, rfl⟩), VC.stepAt_of rfl rfl (VC.op_nilCheck rfl ⟨rfl, rfl⟩), VC.stepAt_of rfl rfl (VC.op_fieldAddr rfl fo_54_1 ⟨rfl, rfl⟩), VC.stepAt_of rfl rfl (VC.op_load1 rfl ag_29 c152 ⟨rfl, rfl⟩), VC.stepAt_of rfl rfl (VC.op_fieldAddr a117_5 fo_41_2 ⟨rfl, rfl⟩), VC.stepAt_of rfl rfl (VC.op_load1 rfl ag_29 c154 ⟨rfl, rfl⟩), VC.stepAt_of rfl rfl (VC.op_add rfl rfl rfl ⟨rfl, rfl⟩), trivial⟩) rfl ⟨?_, trivial⟩
                      refine VC.stepAt_of rfl rfl (VC.op_call (vs := [.pointer x6, .int .u64 (IntKind.u64.wrap (x151 + x153))]) en_11 (VC.args_cons rfl (VC.args_cons rfl VC.args_nil)) (CallsH.mono H ?_))
                      clear H
                      rintro _ h156 ⟨x158a, x158n, x158c, x159, rfl, H⟩
                      refine ⟨[(Value.pointer x6), (Value.pointer (some ⟨h4.size, 0, none⟩)), (Value.pointer (some ⟨h4.size, 0, none⟩)), (Value.pointer (some ⟨h4.size, 1, none⟩)), (Value.int .u64 x151), (Value.pointer (some ⟨h20.size, 2, none⟩)), (Value.int .u64 x153), (Value.int .u64 (IntKind.u64.wrap (x151 + x153))), (Value.tuple #[.slice x158a x158n x158c, .int .i64 x159]), (Value.tuple #[.slice x158a x158n x158c, .int .i64 x159]), (Value.slice x158a x158n x158c), (Value.int .i64 x159), (Value.slice x158a x158n x158c), (Value.int .i64 x159)], rfl, (VC.agree_of [0, 1, 2, 3, 4, 5, 6, 7] rfl ⟨rfl, rfl, rfl, rfl, rfl, rfl, rfl, rfl, trivial⟩), ?_⟩
                      refine VC.plan_done rfl (VC.quiet_of [9, 10, 11, 12, 13] rfl ⟨VC.stepAt_of rfl rfl (VC.op_move (v := .tuple #[.slice x158a x158n x158c, .int .i64 x159]) rfl ⟨rfl, rfl⟩), VC.stepAt_of rfl rfl (VC.op_extract rfl rfl ⟨rfl, rfl⟩), VC.stepAt_of rfl rfl (VC.op_extract rfl rfl ⟨rfl, rfl⟩), VC.stepAt_of rfl rfl (VC.op_assign (v := .slice x158a x158n x158c) rfl ⟨rfl, rfl⟩), VC.stepAt_of rfl rfl (VC.op_assign (v := .int .i64 x159) rfl ⟨rfl, rfl⟩), trivial⟩) rfl ?_
                      refine VC.wpf_seq ?_
                      obtain ⟨x160, c161, H⟩ := H
                      obtain ⟨x162, c163, H⟩ := H
                      refine VC.wpf_draw cert_linchpinlaw19_LifePlays_30 1 [(Value.pointer (some ⟨h4.size, 0, none⟩)), (Value.pointer (some ⟨h4.size, 0, none⟩)), (Value.pointer (some ⟨h4.size, 0, none⟩)), (Value.pointer (some ⟨h4.size, 1, none⟩)), (Value.int .u64 x160), (Value.pointer (some ⟨h20.size, 2, none⟩)), (Value.int .u64 x162), (Value.int .u64 (IntKind.u64.wrap (x160 + x162))), undef, undef, undef, undef, undef, undef] (by kernel_rfl) rfl mixed_PR ?_
                      refine VC.plan_step [8] (by decide) rfl (VC.quiet_of [0, 1, 2, 3, 4, 5, 6, 7] rfl ⟨VC.stepAt_of rfl rfl (VC.op_move (v := .pointer (some ⟨h4.size, 0, none⟩)) a117_3 ⟨rfl, rfl⟩), VC.stepAt_of rfl rfl (VC.op_move (v := .pointer (some ⟨h4.size, 0, none⟩)) a117_3 ⟨rfl, rfl⟩), VC.stepAt_of rfl rfl (VC.op_nilCheck rfl ⟨rfl, rfl⟩), VC.stepAt_of rfl rfl (VC.op_fieldAddr rfl fo_54_1 ⟨rfl, rfl⟩), VC.stepAt_of rfl rfl (VC.op_load1 rfl ag_29 c161 ⟨rfl, rfl⟩), VC.stepAt_of rfl rfl (VC.op_fieldAddr a117_5 fo_41_2 ⟨rfl, rfl⟩), VC.stepAt_of rfl rfl (VC.op_load1 rfl ag_29 c163 ⟨rfl, rfl⟩), VC.stepAt_of rfl rfl (VC.op_add rfl rfl rfl ⟨rfl, rfl⟩), trivial⟩) rfl ⟨?_, trivial⟩
                      refine VC.stepAt_of rfl rfl (VC.op_call (vs := [.pointer (some ⟨h4.size, 0, none⟩), .int .u64 (IntKind.u64.wrap (x160 + x162))]) en_19 (VC.args_cons rfl (VC.args_cons rfl VC.args_nil)) (CallsH.mono H ?_))
                      clear H
                      rintro _ h165 ⟨x167a, x167n, x167c, x168, rfl, H⟩
                      refine ⟨[(Value.pointer (some ⟨h4.size, 0, none⟩)), (Value.pointer (some ⟨h4.size, 0, none⟩)), (Value.pointer (some ⟨h4.size, 0, none⟩)), (Value.pointer (some ⟨h4.size, 1, none⟩)), (Value.int .u64 x160), (Value.pointer (some ⟨h20.size, 2, none⟩)), (Value.int .u64 x162), (Value.int .u64 (IntKind.u64.wrap (x160 + x162))), (Value.tuple #[.slice x167a x167n x167c, .int .i64 x168]), (Value.tuple #[.slice x167a x167n x167c, .int .i64 x168]), (Value.slice x167a x167n x167c), (Value.int .i64 x168), (Value.slice x167a x167n x167c), (Value.int .i64 x168)], rfl, (VC.agree_of [0, 1, 2, 3, 4, 5, 6, 7] rfl ⟨rfl, rfl, rfl, rfl, rfl, rfl, rfl, rfl, trivial⟩), ?_⟩
                      refine VC.plan_done rfl (VC.quiet_of [9, 10, 11, 12, 13] rfl ⟨VC.stepAt_of rfl rfl (VC.op_move (v := .tuple #[.slice x167a x167n x167c, .int .i64 x168]) rfl ⟨rfl, rfl⟩), VC.stepAt_of rfl rfl (VC.op_extract rfl rfl ⟨rfl, rfl⟩), VC.stepAt_of rfl rfl (VC.op_extract rfl rfl ⟨rfl, rfl⟩), VC.stepAt_of rfl rfl (VC.op_assign (v := .slice x167a x167n x167c) rfl ⟨rfl, rfl⟩), VC.stepAt_of rfl rfl (VC.op_assign (v := .int .i64 x168) rfl ⟨rfl, rfl⟩), trivial⟩) rfl ?_
                      refine VC.wpf_seq ?_
                      refine VC.wpf_seq ?_
                      refine VC.wpf_region rfl ?_
                      refine VC.wpL_op (VC.op_move (v := .slice x158a x158n x158c) rfl ?_)
                      refine VC.wpL_op (VC.op_move (v := .slice x167a x167n x167c) rfl ?_)
                      refine VC.wpL_op (VC.op_call (vs := [.slice x158a x158n x158c, .slice x167a x167n x167c]) en_20 (VC.args_cons rfl (VC.args_cons rfl VC.args_nil)) (CallsH.mono H ?_))
                      clear H
                      rintro _ h169 ⟨x171, rfl, H⟩
                      refine VC.wpL_op (VC.op_not rfl ?_)
                      refine VC.wpL_nil ?_
                      refine VC.wpf_cond (!x171) rfl ?_ ?_
                      · intro hb
                        replace H := H.1 (VC.of_not_true hb)
                        refine VC.wpf_seq ?_
                        refine VC.wpf_region rfl ?_
                        refine VC.wpL_op (VC.op_assign (v := .bool false) rfl ?_)
                        refine VC.wpL_nil ?_
                        refine VC.wpf_ret ?_
                        exact VC.ret_leaf (VC.resV_tmp rfl VC.resV_nil) H
                      · intro hb
                        replace H := H.2 (VC.of_not_false hb)
                        refine VC.wpf_skip ?_
                        refine VC.wpf_seq ?_
                        refine VC.wpf_region rfl ?_
                        refine VC.wpL_op (VC.op_move (v := .int .i64 x159) rfl ?_)
                        refine VC.wpL_op (VC.op_assign (v := .int .i64 x159) rfl ?_)
                        refine VC.wpL_nil ?_
                        refine VC.wpf_region rfl ?_
                        refine VC.wpL_op (VC.op_move (v := .int .i64 x168) rfl ?_)
                        refine VC.wpL_op (VC.op_assign (v := .int .i64 x168) rfl ?_)
                        refine VC.wpL_nil ?_
                        exact hin36 _ _ _ _ rfl rfl a117_1 a117_2 a117_3 a117_4 a117_5 H
                    · intro hb
                      replace H := H.2 (of_decide_eq_false hb)
                      refine VC.wpf_seq ?_
                      refine VC.wpf_region rfl ?_
                      refine VC.wpL_op (VC.op_move (v := .pointer x6) a117_2 ?_)
                      refine VC.wpL_op (VC.op_fieldAddr a117_5 fo_41_1 ?_)
                      obtain ⟨x172, c173, H⟩ := H
                      refine VC.wpL_op (VC.op_load1 rfl ag_3 c173 ?_)
                      refine VC.wpL_op (VC.op_fieldAddr a117_5 fo_41_2 ?_)
                      obtain ⟨x174, c175, H⟩ := H
                      refine VC.wpL_op (VC.op_load1 rfl ag_29 c175 ?_)
                      refine VC.wpL_op (VC.op_call (vs := [.pointer x6, .int .i64 x172, .int .u64 x174]) en_10 (VC.args_cons rfl (VC.args_cons rfl (VC.args_cons rfl VC.args_nil))) (CallsH.mono H ?_))
                      clear H
                      rintro _ h176 ⟨x178, rfl, H⟩
                      refine VC.wpL_op (VC.op_assign (v := .int .i64 x178) rfl ?_)
                      refine VC.wpL_nil ?_
                      refine VC.wpf_region rfl ?_
                      refine VC.wpL_op (VC.op_move (v := .pointer (some ⟨h4.size, 0, none⟩)) a117_3 ?_)
                      refine VC.wpL_op (VC.op_fieldAddr a117_5 fo_41_1 ?_)
                      obtain ⟨x179, c180, H⟩ := H
                      refine VC.wpL_op (VC.op_load1 rfl ag_3 c180 ?_)
                      refine VC.wpL_op (VC.op_fieldAddr a117_5 fo_41_2 ?_)
                      obtain ⟨x181, c182, H⟩ := H
                      refine VC.wpL_op (VC.op_load1 rfl ag_29 c182 ?_)
                      refine VC.wpL_op (VC.op_call (vs := [.pointer (some ⟨h4.size, 0, none⟩), .int .i64 x179, .int .u64 x181]) en_16 (VC.args_cons rfl (VC.args_cons rfl (VC.args_cons rfl VC.args_nil))) (CallsH.mono H ?_))
                      clear H
                      rintro _ h183 ⟨x185, rfl, H⟩
                      refine VC.wpL_op (VC.op_assign (v := .int .i64 x185) rfl ?_)
                      refine VC.wpL_nil ?_
                      exact hin36 _ _ _ _ rfl rfl a117_1 a117_2 a117_3 a117_4 a117_5 H
          · clear H
            intro f h37 hf
            obtain ⟨x33, x34, a36_0, a36_1, a36_2, a36_3, a36_4, a36_5, a36_6, hJ⟩ := hout36 _ _ hf
            have H := HR x33 x34 h37 hJ
            refine VC.wpf_seq ?_
            refine VC.wpf_region rfl ?_
            refine VC.wpL_op (VC.op_move (v := .pointer x6) a36_3 ?_)
            refine VC.wpL_op (VC.op_fieldAddr a36_6 fo_41_1 ?_)
            obtain ⟨x38, c39, H⟩ := H
            refine VC.wpL_op (VC.op_load1 rfl ag_3 c39 ?_)
            refine VC.wpL_op (VC.op_call (vs := [.pointer x6, .int .i64 x38]) en_15 (VC.args_cons rfl (VC.args_cons rfl VC.args_nil)) (CallsH.mono H ?_))
            clear H
            rintro _ h40 ⟨x42, x43, rfl, H⟩
            refine VC.wpL_op (VC.op_move (v := .tuple #[.int .u64 x42, .bool x43]) rfl ?_)
            refine VC.wpL_op (VC.op_extract rfl rfl ?_)
            refine VC.wpL_op (VC.op_extract rfl rfl ?_)
            refine VC.wpL_op (VC.op_assign (v := .int .u64 x42) rfl ?_)
            refine VC.wpL_op (VC.op_assign (v := .bool x43) rfl ?_)
            refine VC.wpL_nil ?_
            refine VC.wpf_seq ?_
            refine VC.wpf_region rfl ?_
            refine VC.wpL_op (VC.op_assign (v := .int .u64 0) rfl ?_)
            refine VC.wpL_nil ?_
            refine VC.wpf_seq ?_
            refine VC.wpf_region rfl ?_
            refine VC.wpL_op (VC.op_assign (v := .bool false) rfl ?_)
            refine VC.wpL_nil ?_
            refine VC.wpf_seq ?_
            refine VC.wpf_seq ?_
            refine VC.wpf_region rfl ?_
            refine VC.wpL_op (VC.op_assign (v := .int .i64 0) rfl ?_)
            refine VC.wpL_nil ?_
            refine VC.wpf_block ?_
            obtain ⟨I47, mu48, hI, H⟩ := H
            obtain ⟨I49, mu49, hin49, hout49, hmu49⟩ : ∃ (J49 : VC.Fr → Heap → Prop) (m : VC.Fr → Heap → Nat), (∀ f hz (x44 : Int) (x45 : Bool) (x46 : Int), f 18 = .int .u64 x44 → f 19 = .bool x45 → f 20 = .int .i64 x46 → f 1 = .slice (some ⟨b24, o25, none⟩) p1n p1c → f 5 = .pointer x6 → f 7 = .pointer (some ⟨h4.size, 0, none⟩) → f 8 = .int .i64 x16 → f 9 = .pointer (some ⟨h20.size, 0, none⟩) → f 10 = .int .i64 x33 → f 11 = .int .i64 x34 → f 16 = .int .u64 x42 → f 17 = .bool x43 → I47 x44 x45 x46 hz → J49 f hz) ∧ (∀ f hz, J49 f hz → ∃ (x44 : Int) (x45 : Bool) (x46 : Int), f 18 = .int .u64 x44 ∧ f 19 = .bool x45 ∧ f 20 = .int .i64 x46 ∧ f 1 = .slice (some ⟨b24, o25, none⟩) p1n p1c ∧ f 5 = .pointer x6 ∧ f 7 = .pointer (some ⟨h4.size, 0, none⟩) ∧ f 8 = .int .i64 x16 ∧ f 9 = .pointer (some ⟨h20.size, 0, none⟩) ∧ f 10 = .int .i64 x33 ∧ f 11 = .int .i64 x34 ∧ f 16 = .int .u64 x42 ∧ f 17 = .bool x43 ∧ I47 x44 x45 x46 hz) ∧ (∀ f hz (x44 : Int) (x45 : Bool) (x46 : Int), f 18 = .int .u64 x44 → f 19 = .bool x45 → f 20 = .int .i64 x46 → m f hz = mu48 x44 x45 x46 hz) := ⟨fun f hz => ∃ (x44 : Int) (x45 : Bool) (x46 : Int), f 18 = .int .u64 x44 ∧ f 19 = .bool x45 ∧ f 20 = .int .i64 x46 ∧ f 1 = .slice (some ⟨b24, o25, none⟩) p1n p1c ∧ f 5 = .pointer x6 ∧ f 7 = .pointer (some ⟨h4.size, 0, none⟩) ∧ f 8 = .int .i64 x16 ∧ f 9 = .pointer (some ⟨h20.size, 0, none⟩) ∧ f 10 = .int .i64 x33 ∧ f 11 = .int .i64 x34 ∧ f 16 = .int .u64 x42 ∧ f 17 = .bool x43 ∧ I47 x44 x45 x46 hz, fun f hz => mu48 (VC.dInt (f 18)) (VC.dBool (f 19)) (VC.dInt (f 20)) hz, fun _ _ x44 x45 x46 a0 a1 a2 a3 a4 a5 a6 a7 a8 a9 a10 a11 z => ⟨x44, x45, x46, a0, a1, a2, a3, a4, a5, a6, a7, a8, a9, a10, a11, z⟩, fun _ _ hz => hz, fun f hz x44 x45 x46 a0 a1 a2 => by simp only [a0, a1, a2]; rfl⟩
            refine VC.wpf_loop I49 mu49 (hin49 _ _ _ _ _ rfl rfl rfl a36_2 a36_3 a36_4 a36_5 a36_6 a36_0 a36_1 rfl rfl hI) ?_
            clear hI
            intro f h50 hf
            obtain ⟨x44, x45, x46, a49_0, a49_1, a49_2, a49_3, a49_4, a49_5, a49_6, a49_7, a49_8, a49_9, a49_10, a49_11, hJ⟩ := hout49 _ _ hf
            replace H := H x44 x45 x46 h50 hJ
            refine VC.wpf_seq ?_
            refine VC.wpf_seq ?_
            refine VC.wpf_region rfl ?_
            refine VC.wpL_op (VC.op_move (v := .int .i64 x46) a49_2 ?_)
            refine VC.wpL_op (VC.op_move (v := .pointer (some ⟨h4.size, 0, none⟩)) a49_5 ?_)
            refine VC.wpL_op (VC.op_nilCheck rfl ?_)
            refine VC.wpL_op (VC.op_fieldAddr rfl fo_54_2 ?_)
            obtain ⟨x51a, x51n, x51c, c52, H⟩ := H
            refine VC.wpL_op (VC.op_load1 rfl ag_52 c52 ?_)
            refine VC.wpL_op (VC.op_len_slice rfl un_52 ?_)
            refine VC.wpL_op (VC.op_lss rfl rfl ?_)
            refine VC.wpL_nil ?_
            refine VC.wpf_cond (decide (x46 < (x51n : Int))) rfl ?_ ?_
            · intro hb
              replace H := H.1 (of_decide_eq_true hb)
              refine VC.wpf_skip ?_
              obtain ⟨J56, HR, H⟩ := H
              obtain ⟨J57, hin57, hout57⟩ : ∃ J57 : VC.Fr → Heap → Prop, (∀ f hz (x54 : Int) (x55 : Bool), f 18 = .int .u64 x54 → f 19 = .bool x55 → f 1 = .slice (some ⟨b24, o25, none⟩) p1n p1c → f 5 = .pointer x6 → f 7 = .pointer (some ⟨h4.size, 0, none⟩) → f 8 = .int .i64 x16 → f 9 = .pointer (some ⟨h20.size, 0, none⟩) → f 10 = .int .i64 x33 → f 11 = .int .i64 x34 → f 16 = .int .u64 x42 → f 17 = .bool x43 → f 20 = .int .i64 x46 → J56 x54 x55 hz → J57 f hz) ∧ (∀ f hz, J57 f hz → ∃ (x54 : Int) (x55 : Bool), f 18 = .int .u64 x54 ∧ f 19 = .bool x55 ∧ f 1 = .slice (some ⟨b24, o25, none⟩) p1n p1c ∧ f 5 = .pointer x6 ∧ f 7 = .pointer (some ⟨h4.size, 0, none⟩) ∧ f 8 = .int .i64 x16 ∧ f 9 = .pointer (some ⟨h20.size, 0, none⟩) ∧ f 10 = .int .i64 x33 ∧ f 11 = .int .i64 x34 ∧ f 16 = .int .u64 x42 ∧ f 17 = .bool x43 ∧ f 20 = .int .i64 x46 ∧ J56 x54 x55 hz) := ⟨fun f hz => ∃ (x54 : Int) (x55 : Bool), f 18 = .int .u64 x54 ∧ f 19 = .bool x55 ∧ f 1 = .slice (some ⟨b24, o25, none⟩) p1n p1c ∧ f 5 = .pointer x6 ∧ f 7 = .pointer (some ⟨h4.size, 0, none⟩) ∧ f 8 = .int .i64 x16 ∧ f 9 = .pointer (some ⟨h20.size, 0, none⟩) ∧ f 10 = .int .i64 x33 ∧ f 11 = .int .i64 x34 ∧ f 16 = .int .u64 x42 ∧ f 17 = .bool x43 ∧ f 20 = .int .i64 x46 ∧ J56 x54 x55 hz, fun _ _ x54 x55 a0 a1 a2 a3 a4 a5 a6 a7 a8 a9 a10 a11 z => ⟨x54, x55, a0, a1, a2, a3, a4, a5, a6, a7, a8, a9, a10, a11, z⟩, fun _ _ hz => hz⟩
              refine VC.wpf_seq_cut J57 ?_ ?_
              · skip
                refine VC.wpf_block ?_
                refine VC.wpf_seq ?_
                obtain ⟨x60a, x60n, x60c, c61, H⟩ := H
                obtain ⟨b63, o64, rfl, H⟩ := H
                obtain ⟨c62, H⟩ := H
                obtain ⟨x66, c67, H⟩ := H
                obtain ⟨x68, c69, H⟩ := H
                refine VC.wpf_draw cert_linchpinlaw19_LifePlays_41 0 [(Value.pointer (some ⟨h4.size, 0, none⟩)), (Value.pointer (some ⟨h4.size, 0, none⟩)), (Value.pointer (some ⟨h4.size, 2, none⟩)), (Value.slice (some ⟨b63, o64, none⟩) x60n x60c), (Value.int .i64 x46), (Value.pointer (some ⟨b63, o64 + x46.toNat * 2, none⟩)), (Value.pointer (some ⟨b63, o64 + x46.toNat * 2, none⟩)), (Value.int .i64 x66), (Value.pointer (some ⟨h20.size, 1, none⟩)), (Value.int .i64 x68), (Value.bool (decide (x66 = x68)))] (by kernel_rfl) rfl mixed_PR ?_
                refine VC.plan_done rfl (VC.quiet_of [0, 1, 2, 3, 4, 5, 6, 7, 8, 9, 10] rfl ⟨VC.stepAt_of rfl rfl (VC.op_move (v := .pointer (some ⟨h4.size, 0, none⟩)) a49_5 ⟨rfl, rfl⟩), VC.stepAt_of rfl rfl (VC.op_nilCheck rfl ⟨rfl, rfl⟩), VC.stepAt_of rfl rfl (VC.op_fieldAddr rfl fo_54_2 ⟨rfl, rfl⟩), VC.stepAt_of rfl rfl (VC.op_load1 rfl ag_52 c61 ⟨rfl, rfl⟩), VC.stepAt_of rfl rfl (VC.op_move (v := .int .i64 x46) a49_2 ⟨rfl, rfl⟩), VC.stepAt_of rfl rfl (VC.op_indexAddr_slice rfl rfl ei_52 c62 ⟨rfl, rfl⟩), VC.stepAt_of rfl rfl (VC.op_fieldAddr rfl fo_57_0 ⟨rfl, rfl⟩), VC.stepAt_of rfl rfl (VC.op_load1 rfl ag_3 c67 ⟨rfl, rfl⟩), VC.stepAt_of rfl rfl (VC.op_fieldAddr a49_7 fo_41_1 ⟨rfl, rfl⟩), VC.stepAt_of rfl rfl (VC.op_load1 rfl ag_3 c69 ⟨rfl, rfl⟩), VC.stepAt_of rfl rfl (VC.op_eql rfl rfl ⟨rfl, rfl⟩), trivial⟩) rfl ?_
                refine VC.wpf_cond (decide (x66 = x68)) rfl ?_ ?_
                · intro hb
                  replace H := H.1 (of_decide_eq_true hb)
                  refine VC.wpf_seq ?_
                  refine VC.wpf_region rfl ?_
                  refine VC.wpL_op (VC.op_move (v := .pointer (some ⟨h4.size, 0, none⟩)) a49_5 ?_)
                  refine VC.wpL_op (VC.op_nilCheck rfl ?_)
                  refine VC.wpL_op (VC.op_fieldAddr rfl fo_54_2 ?_)
                  obtain ⟨x71a, x71n, x71c, c72, H⟩ := H
                  refine VC.wpL_op (VC.op_load1 rfl ag_52 c72 ?_)
                  refine VC.wpL_op (VC.op_move (v := .int .i64 x46) a49_2 ?_)
                  obtain ⟨b74, o75, rfl, H⟩ := H
                  obtain ⟨c73, H⟩ := H
                  refine VC.wpL_op (VC.op_indexAddr_slice rfl rfl ei_52 c73 ?_)
                  refine VC.wpL_op (VC.op_fieldAddr rfl fo_57_1 ?_)
                  obtain ⟨x77, c78, H⟩ := H
                  refine VC.wpL_op (VC.op_load1 rfl ag_29 c78 ?_)
                  refine VC.wpL_op (VC.op_assign (v := .int .u64 x77) rfl ?_)
                  refine VC.wpL_nil ?_
                  refine VC.wpf_region rfl ?_
                  refine VC.wpL_op (VC.op_assign (v := .bool true) rfl ?_)
                  refine VC.wpL_nil ?_
                  exact hin57 _ _ _ _ rfl rfl a49_3 a49_4 a49_5 a49_6 a49_7 a49_8 a49_9 a49_10 a49_11 a49_2 H
                · intro hb
                  replace H := H.2 (of_decide_eq_false hb)
                  refine VC.wpf_skip ?_
                  exact hin57 _ _ _ _ a49_0 a49_1 a49_3 a49_4 a49_5 a49_6 a49_7 a49_8 a49_9 a49_10 a49_11 a49_2 H
              · clear H
                intro f h58 hf
                obtain ⟨x54, x55, a57_0, a57_1, a57_2, a57_3, a57_4, a57_5, a57_6, a57_7, a57_8, a57_9, a57_10, a57_11, hJ⟩ := hout57 _ _ hf
                have H := HR x54 x55 h58 hJ
                refine VC.wpf_region rfl ?_
                refine VC.wpL_op (VC.op_move (v := .int .i64 x46) a57_11 ?_)
                obtain ⟨c59, H⟩ := H
                refine VC.wpL_op (VC.op_add rfl rfl (VC.wrap_i64 c59) ?_)
                refine VC.wpL_op (VC.op_assign (v := .int .i64 (x46 + 1)) rfl ?_)
                refine VC.wpL_nil ?_
                exact And.intro (hin49 _ _ _ _ _ a57_0 a57_1 rfl a57_2 a57_3 a57_4 a57_5 a57_6 a57_7 a57_8 a57_9 a57_10 H.1) (lt_of (hmu49 _ _ _ _ _ a57_0 a57_1 rfl) (hmu49 _ _ _ _ _ a49_0 a49_1 a49_2) H.2)
            · intro hb
              replace H := H.2 (of_decide_eq_false hb)
              refine VC.wpf_exit ?_
              refine VC.wpf_seq ?_
              obtain ⟨x80a, x80n, x80c, c81, H⟩ := H
              refine VC.wpf_draw cert_linchpinlaw19_LifePlays_44 1 [(Value.int .i64 x33), (Value.int .i64 x34), (Value.bool (!decide (x33 = x34))), (Value.bool (!decide (x33 = x34))), (bif !(!decide (x33 = x34)) then (Value.pointer x6) else undef), undef, (bif !(!decide (x33 = x34)) then (Value.pointer (some ⟨h4.size, 0, none⟩)) else undef), (bif !(!decide (x33 = x34)) then (Value.pointer (some ⟨h4.size, 0, none⟩)) else undef), (bif !(!decide (x33 = x34)) then (Value.pointer (some ⟨h4.size, 2, none⟩)) else undef), (bif !(!decide (x33 = x34)) then (Value.slice x80a x80n x80c) else undef), (bif !(!decide (x33 = x34)) then (Value.int .i64 (x80n : Int)) else undef), undef, undef, undef, undef, undef, undef, undef, undef, undef, undef, undef, undef] (by kernel_rfl) rfl mixed_PR ?_
              refine VC.plan_step [5] (by decide) rfl (VC.quiet_of [0, 1, 2, 3, 4, 6, 7, 8, 9, 10] rfl ⟨VC.stepAt_of rfl rfl (VC.op_move (v := .int .i64 x33) a49_8 ⟨rfl, rfl⟩), VC.stepAt_of rfl rfl (VC.op_move (v := .int .i64 x34) a49_9 ⟨rfl, rfl⟩), VC.stepAt_of rfl rfl (VC.op_neq rfl rfl ⟨rfl, rfl⟩), VC.stepAt_of rfl rfl (VC.op_move (v := .bool (!decide (x33 = x34))) rfl ⟨rfl, rfl⟩), VC.stepAt_if (b := !(!decide (x33 = x34))) rfl rfl (VC.guard_slot rfl rfl) (fun hb => VC.op_move (v := .pointer x6) a49_4 ⟨VC.bif_true hb, rfl⟩) (fun hb => ⟨VC.bif_false hb, rfl⟩), VC.stepAt_if (b := !(!decide (x33 = x34))) rfl rfl (VC.guard_slot rfl rfl) (fun hb => VC.op_move (v := .pointer (some ⟨h4.size, 0, none⟩)) a49_5 ⟨VC.bif_true hb, rfl⟩) (fun hb => ⟨VC.bif_false hb, rfl⟩), VC.stepAt_if (b := !(!decide (x33 = x34))) rfl rfl (VC.guard_slot rfl rfl) (fun hb => VC.op_nilCheck (VC.gv hb) ⟨VC.bif_true hb, rfl⟩) (fun hb => ⟨VC.bif_false hb, rfl⟩), VC.stepAt_if (b := !(!decide (x33 = x34))) rfl rfl (VC.guard_slot rfl rfl) (fun hb => VC.op_fieldAddr (VC.gv hb) fo_54_2 ⟨VC.bif_true hb, rfl⟩) (fun hb => ⟨VC.bif_false hb, rfl⟩), VC.stepAt_if (b := !(!decide (x33 = x34))) rfl rfl (VC.guard_slot rfl rfl) (fun hb => VC.op_load1 (VC.gv hb) ag_52 (c81 (of_decide_eq_true (VC.of_not_false (VC.of_not_true hb)))) ⟨VC.bif_true hb, rfl⟩) (fun hb => ⟨VC.bif_false hb, rfl⟩), VC.stepAt_if (b := !(!decide (x33 = x34))) rfl rfl (VC.guard_slot rfl rfl) (fun hb => VC.op_len_slice (VC.gv hb) un_52 ⟨VC.bif_true hb, rfl⟩) (fun hb => ⟨VC.bif_false hb, rfl⟩), trivial⟩) rfl ⟨?_, trivial⟩
              obtain ⟨J85, HR, HT, HF⟩ := H
              refine VC.stepAt_gl (b := !(!decide (x33 = x34))) rfl rfl (VC.guard_slot rfl rfl) (fun v h82 => ∃ (x84 : Int), v = (bif !(!decide (x33 = x34)) then (Value.int .i64 x84) else undef) ∧ J85 x84 h82) ?_ ?_ ?_
              · rintro _ h82 ⟨x84, rfl, hJ⟩
                have H := HR x84 h82 hJ
                obtain ⟨c86, H⟩ := H
                refine ⟨[(Value.int .i64 x33), (Value.int .i64 x34), (Value.bool (!decide (x33 = x34))), (Value.bool (!decide (x33 = x34))), (bif !(!decide (x33 = x34)) then (Value.pointer x6) else undef), (bif !(!decide (x33 = x34)) then (Value.int .i64 x84) else undef), (bif !(!decide (x33 = x34)) then (Value.pointer (some ⟨h4.size, 0, none⟩)) else undef), (bif !(!decide (x33 = x34)) then (Value.pointer (some ⟨h4.size, 0, none⟩)) else undef), (bif !(!decide (x33 = x34)) then (Value.pointer (some ⟨h4.size, 2, none⟩)) else undef), (bif !(!decide (x33 = x34)) then (Value.slice x80a x80n x80c) else undef), (bif !(!decide (x33 = x34)) then (Value.int .i64 (x80n : Int)) else undef), (bif !(!decide (x33 = x34)) then (Value.bool (!decide (x84 = (x80n : Int)))) else undef), (Value.bool ((!decide (x33 = x34)) || (!decide (x84 = (x80n : Int))))), (Value.bool ((!decide (x33 = x34)) || (!decide (x84 = (x80n : Int))))), (bif !((!decide (x33 = x34)) || (!decide (x84 = (x80n : Int)))) then (Value.int .u64 x42) else undef), (bif !((!decide (x33 = x34)) || (!decide (x84 = (x80n : Int)))) then (Value.int .u64 x44) else undef), (bif !((!decide (x33 = x34)) || (!decide (x84 = (x80n : Int)))) then (Value.bool (!decide (x42 = x44))) else undef), (Value.bool (((!decide (x33 = x34)) || (!decide (x84 = (x80n : Int)))) || (!decide (x42 = x44)))), (Value.bool (((!decide (x33 = x34)) || (!decide (x84 = (x80n : Int)))) || (!decide (x42 = x44)))), (bif !(((!decide (x33 = x34)) || (!decide (x84 = (x80n : Int)))) || (!decide (x42 = x44))) then (Value.bool x43) else undef), (bif !(((!decide (x33 = x34)) || (!decide (x84 = (x80n : Int)))) || (!decide (x42 = x44))) then (Value.bool x45) else undef), (bif !(((!decide (x33 = x34)) || (!decide (x84 = (x80n : Int)))) || (!decide (x42 = x44))) then (Value.bool (!decide (x43 = x45))) else undef), (Value.bool ((((!decide (x33 = x34)) || (!decide (x84 = (x80n : Int)))) || (!decide (x42 = x44))) || (!decide (x43 = x45))))], rfl, (VC.agree_of [0, 1, 2, 3, 4, 6, 7, 8, 9, 10] rfl ⟨rfl, rfl, rfl, rfl, rfl, rfl, rfl, rfl, rfl, rfl, trivial⟩), ?_⟩
                refine VC.plan_done rfl (VC.quiet_of [6, 7, 8, 9, 10, 11, 12, 13, 14, 15, 16, 17, 18, 19, 20, 21, 22] rfl ⟨VC.stepAt_if (b := !(!decide (x33 = x34))) rfl rfl (VC.guard_slot rfl rfl) (fun hb => VC.op_move (v := .pointer (some ⟨h4.size, 0, none⟩)) a49_5 ⟨VC.bif_true hb, rfl⟩) (fun hb => ⟨VC.bif_false hb, rfl⟩), VC.stepAt_if (b := !(!decide (x33 = x34))) rfl rfl (VC.guard_slot rfl rfl) (fun hb => VC.op_nilCheck (VC.gv hb) ⟨VC.bif_true hb, rfl⟩) (fun hb => ⟨VC.bif_false hb, rfl⟩), VC.stepAt_if (b := !(!decide (x33 = x34))) rfl rfl (VC.guard_slot rfl rfl) (fun hb => VC.op_fieldAddr (VC.gv hb) fo_54_2 ⟨VC.bif_true hb, rfl⟩) (fun hb => ⟨VC.bif_false hb, rfl⟩), VC.stepAt_if (b := !(!decide (x33 = x34))) rfl rfl (VC.guard_slot rfl rfl) (fun hb => VC.op_load1 (VC.gv hb) ag_52 (c86 (of_decide_eq_true (VC.of_not_false (VC.of_not_true hb)))) ⟨VC.bif_true hb, rfl⟩) (fun hb => ⟨VC.bif_false hb, rfl⟩), VC.stepAt_if (b := !(!decide (x33 = x34))) rfl rfl (VC.guard_slot rfl rfl) (fun hb => VC.op_len_slice (VC.gv hb) un_52 ⟨VC.bif_true hb, rfl⟩) (fun hb => ⟨VC.bif_false hb, rfl⟩), VC.stepAt_if (b := !(!decide (x33 = x34))) rfl rfl (VC.guard_slot rfl rfl) (fun hb => VC.op_neq (VC.gv hb) (VC.gv hb) ⟨VC.bif_true hb, rfl⟩) (fun hb => ⟨VC.bif_false hb, rfl⟩), VC.stepAt_of rfl rfl (VC.op_pick_or rfl rfl (fun hq => (VC.gv (VC.not_of_false hq))) ⟨rfl, rfl⟩), VC.stepAt_of rfl rfl (VC.op_move (v := .bool ((!decide (x33 = x34)) || (!decide (x84 = (x80n : Int))))) rfl ⟨rfl, rfl⟩), VC.stepAt_if (b := !((!decide (x33 = x34)) || (!decide (x84 = (x80n : Int))))) rfl rfl (VC.guard_slot rfl rfl) (fun hb => VC.op_move (v := .int .u64 x42) a49_10 ⟨VC.bif_true hb, rfl⟩) (fun hb => ⟨VC.bif_false hb, rfl⟩), VC.stepAt_if (b := !((!decide (x33 = x34)) || (!decide (x84 = (x80n : Int))))) rfl rfl (VC.guard_slot rfl rfl) (fun hb => VC.op_move (v := .int .u64 x44) a49_0 ⟨VC.bif_true hb, rfl⟩) (fun hb => ⟨VC.bif_false hb, rfl⟩), VC.stepAt_if (b := !((!decide (x33 = x34)) || (!decide (x84 = (x80n : Int))))) rfl rfl (VC.guard_slot rfl rfl) (fun hb => VC.op_neq (VC.gv hb) (VC.gv hb) ⟨VC.bif_true hb, rfl⟩) (fun hb => ⟨VC.bif_false hb, rfl⟩), VC.stepAt_of rfl rfl (VC.op_pick_or rfl rfl (fun hq => (VC.gv (VC.not_of_false hq))) ⟨rfl, rfl⟩), VC.stepAt_of rfl rfl (VC.op_move (v := .bool (((!decide (x33 = x34)) || (!decide (x84 = (x80n : Int)))) || (!decide (x42 = x44)))) rfl ⟨rfl, rfl⟩), VC.stepAt_if (b := !(((!decide (x33 = x34)) || (!decide (x84 = (x80n : Int)))) || (!decide (x42 = x44)))) rfl rfl (VC.guard_slot rfl rfl) (fun hb => VC.op_move (v := .bool x43) a49_11 ⟨VC.bif_true hb, rfl⟩) (fun hb => ⟨VC.bif_false hb, rfl⟩), VC.stepAt_if (b := !(((!decide (x33 = x34)) || (!decide (x84 = (x80n : Int)))) || (!decide (x42 = x44)))) rfl rfl (VC.guard_slot rfl rfl) (fun hb => VC.op_move (v := .bool x45) a49_1 ⟨VC.bif_true hb, rfl⟩) (fun hb => ⟨VC.bif_false hb, rfl⟩), VC.stepAt_if (b := !(((!decide (x33 = x34)) || (!decide (x84 = (x80n : Int)))) || (!decide (x42 = x44)))) rfl rfl (VC.guard_slot rfl rfl) (fun hb => VC.op_neb un_4 (VC.gv hb) (VC.gv hb) ⟨VC.bif_true hb, rfl⟩) (fun hb => ⟨VC.bif_false hb, rfl⟩), VC.stepAt_of rfl rfl (VC.op_pick_or rfl rfl (fun hq => (VC.gv (VC.not_of_false hq))) ⟨rfl, rfl⟩), trivial⟩) rfl ?_
                refine VC.wpf_cond ((((!decide (x33 = x34)) || (!decide (x84 = (x80n : Int)))) || (!decide (x42 = x44))) || (!decide (x43 = x45))) rfl ?_ ?_
                · intro hb
                  replace H := H.1 hb
                  refine VC.wpf_seq ?_
                  refine VC.wpf_region rfl ?_
                  refine VC.wpL_op (VC.op_assign (v := .bool false) rfl ?_)
                  refine VC.wpL_nil ?_
                  refine VC.wpf_ret ?_
                  exact VC.ret_leaf (VC.resV_tmp rfl VC.resV_nil) H
                · intro hb
                  replace H := H.2 hb
                  refine VC.wpf_skip ?_
                  refine VC.wpf_region rfl ?_
                  refine VC.wpL_op (VC.op_move (v := .int .i64 x16) a49_6 ?_)
                  obtain ⟨c91, H⟩ := H
                  refine VC.wpL_op (VC.op_add rfl rfl (VC.wrap_i64 c91) ?_)
                  refine VC.wpL_op (VC.op_assign (v := .int .i64 (x16 + 1)) rfl ?_)
                  refine VC.wpL_nil ?_
                  exact And.intro (hin19 _ _ _ rfl a49_3 a49_4 a49_5 H.1) (lt_of (hmu19 _ _ _ rfl) (hmu19 _ _ _ a19_0) H.2)
              · intro hb
                refine VC.op_call (vs := [.pointer x6]) en_14 (VC.args_cons (VC.gv hb) VC.args_nil) (CallsH.mono (HT (of_decide_eq_true (VC.of_not_false (VC.of_not_true hb)))) ?_)
                rintro _ h82 ⟨x84, rfl, hJ⟩
                exact ⟨x84, VC.bif_true hb, hJ⟩
              · intro hb
                obtain ⟨x84, hJ⟩ := HF (of_decide_eq_false (VC.of_not_true (VC.of_not_false hb)))
                exact ⟨x84, VC.bif_false hb, hJ⟩
        · intro hb
          replace H := H.2 hb
          refine VC.wpf_exit ?_
          refine VC.wpf_seq ?_
          refine VC.wpf_region rfl ?_
          refine VC.wpL_op (VC.op_assign (v := .bool true) rfl ?_)
          refine VC.wpL_nil ?_
          refine VC.wpf_ret ?_
          exact VC.ret_leaf (VC.resV_tmp rfl VC.resV_nil) H
end Go.Proofs.Vf
