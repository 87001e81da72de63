/- Printed by a program of this claim: for each Go function named below a formula over the heap, and the proof that it gives the call of that function. No conditions. -/
import Derived.Test.YtobbagjpngkpkaaBase
namespace Go.Proofs.Vf
open Go Go.Proofs Go.VC
set_option maxRecDepth 100000
set_option maxHeartbeats 4000000
set_option linter.unusedVariables false

def cert_linchpinref19_Book_Open_9 : VC.Cert := ⟨[[], [], [1], [1, 2], [1, 2, 3], [], [5], [5, 6], [5, 6, 7], [1, 2, 3, 4, 5, 6, 7, 8], [0, 1, 2, 3, 4, 5, 6, 7, 8, 9]], [false, false, false, false, false, false, false, false, false, false, false]⟩
def cert_linchpinref19_Book_Open_14 : VC.Cert := ⟨[[], [], [], [2], [2, 3], [2, 3, 4], [], [2, 3, 4, 5, 6], [1, 2, 3, 4, 5, 6, 7], [], [], [9, 10], [9, 10, 11], [1, 2, 3, 4, 5, 6, 7, 8, 9, 10, 11, 12], [], [14], [14, 15], [14, 15, 16], [], [14, 15, 16, 17, 18], [1, 2, 3, 4, 5, 6, 7, 8, 9, 10, 11, 12, 13, 14, 15, 16, 17, 18, 19], [0, 1, 2, 3, 4, 5, 6, 7, 8, 9, 10, 11, 12, 13, 14, 15, 16, 17, 18, 19, 20], [0, 1, 2, 3, 4, 5, 6, 7, 8, 9, 10, 11, 12, 13, 14, 15, 16, 17, 18, 19, 20, 21], [0, 1, 2, 3, 4, 5, 6, 7, 8, 9, 10, 11, 12, 13, 14, 15, 16, 17, 18, 19, 20, 21, 22]], [false, true, false, false, false, false, false, false, true, false, false, false, true, true, false, false, false, false, false, false, true, false, false, true]⟩
/-- (*linchpinref19.Book).Open -/
def F_linchpinref19_Book_Open (p0 : Option Addr) (p1 : Int) (p2 : Int) (K : Int → Heap → Prop) (h : Heap) : Prop :=
  (((decide (p1 < 0)) || (decide (65535 < p1))) = true → K 1 h) ∧ (((decide (p1 < 0)) || (decide (65535 < p1))) = false → (4611686018427387904 ≤ p2 → K 2 h) ∧ ((¬ (4611686018427387904 ≤ p2)) → CallsH PR fn_linchpinref19_Book_find #[.pointer p0, .int .i64 p1] h (fun v h4 => ∃ (x6 : Int), v = (Value.int .i64 x6) ∧ (0 ≤ x6 → K 7 h4) ∧ ((¬ (0 ≤ x6)) → ∃ (b8 : Nat) (o9 : Nat), p0 = some ⟨b8, o9, none⟩ ∧ ∃ (x11a : Option Addr) (x11n : Nat) (x11c : Nat), cellH h4 b8 (o9 + 2) = some (.slice x11a x11n x11c) ∧ (64 ≤ (x11n : Int) → K 4 h4) ∧ ((¬ (64 ≤ (x11n : Int))) → ∃ (x14 : Int), cellH h4 b8 (o9 + 1) = some (.int .u64 x14) ∧ ∃ (x16 : Int), cellH h4 b8 o9 = some (.int .u64 x16) ∧ (p2 ≤ (IntKind.u64.wrap (x14 + x16)) → K 11 h4) ∧ ((¬ (p2 ≤ (IntKind.u64.wrap (x14 + x16)))) → ∃ (I21 : Int → Heap → Prop) (mu22 : Int → Heap → Nat), I21 0 h4 ∧ ∀ (x20 : Int) (h24 : Heap), I21 x20 h24 → ∃ (x25a : Option Addr) (x25n : Nat) (x25c : Nat), cellH h24 b8 (o9 + 2) = some (.slice x25a x25n x25c) ∧ ∃ (x28a : Option Addr) (x28n : Nat) (x28c : Nat), ((x20 < (x25n : Int)) → cellH h24 b8 (o9 + 2) = some (.slice x28a x28n x28c)) ∧ ∃ (b31 : Nat) (o32 : Nat), ((x20 < (x25n : Int)) → x28a = some ⟨b31, o32, none⟩) ∧ ((x20 < (x25n : Int)) → 0 ≤ x20 ∧ x20 < (x28n : Int)) ∧ ∃ (x34 : Int), ((x20 < (x25n : Int)) → cellH h24 b31 (o32 + x20.toNat * 2 + 1) = some (.int .u64 x34)) ∧ ∃ (x37a : Option Addr) (x37n : Nat) (x37c : Nat), ((((decide (x20 < (x25n : Int))) && (!(decide (x34 < p2)))) = true) → cellH h24 b8 (o9 + 2) = some (.slice x37a x37n x37c)) ∧ ∃ (b40 : Nat) (o41 : Nat), ((((decide (x20 < (x25n : Int))) && (!(decide (x34 < p2)))) = true) → x37a = some ⟨b40, o41, none⟩) ∧ ((((decide (x20 < (x25n : Int))) && (!(decide (x34 < p2)))) = true) → 0 ≤ x20 ∧ x20 < (x37n : Int)) ∧ ∃ (x43 : Int), ((((decide (x20 < (x25n : Int))) && (!(decide (x34 < p2)))) = true) → cellH h24 b40 (o41 + x20.toNat * 2 + 1) = some (.int .u64 x43)) ∧ ∃ (x46a : Option Addr) (x46n : Nat) (x46c : Nat), (((((decide (x20 < (x25n : Int))) && (!(decide (x34 < p2)))) && (decide (x43 = p2))) = true) → cellH h24 b8 (o9 + 2) = some (.slice x46a x46n x46c)) ∧ ∃ (b49 : Nat) (o50 : Nat), (((((decide (x20 < (x25n : Int))) && (!(decide (x34 < p2)))) && (decide (x43 = p2))) = true) → x46a = some ⟨b49, o50, none⟩) ∧ (((((decide (x20 < (x25n : Int))) && (!(decide (x34 < p2)))) && (decide (x43 = p2))) = true) → 0 ≤ x20 ∧ x20 < (x46n : Int)) ∧ ∃ (x52 : Int), (((((decide (x20 < (x25n : Int))) && (!(decide (x34 < p2)))) && (decide (x43 = p2))) = true) → cellH h24 b49 (o50 + x20.toNat * 2) = some (.int .i64 x52)) ∧ (((decide (x20 < (x25n : Int))) && ((decide (x34 < p2)) || ((decide (x43 = p2)) && (decide (x52 < p1))))) = true → (-9223372036854775808 ≤ x20 + 1 ∧ x20 + 1 < 9223372036854775808) ∧ (I21 (x20 + 1) h24 ∧ mu22 (x20 + 1) h24 < mu22 x20 h24)) ∧ (((decide (x20 < (x25n : Int))) && ((decide (x34 < p2)) || ((decide (x43 = p2)) && (decide (x52 < p1))))) = false → ∃ J56 : Heap → Prop, (∀ (h58 : Heap), J56 h58 → K 0 h58) ∧ ∃ (x59a : Option Addr) (x59n : Nat) (x59c : Nat), cellH h24 b8 (o9 + 2) = some (.slice x59a x59n x59c) ∧ ∃ (n61 : Nat), x20 = (n61 : Int) ∧ (0 ≤ n61 ∧ n61 ≤ x59c ∧ x59c ≤ x59c) ∧ ∃ (x64a : Option Addr) (x64n : Nat) (x64c : Nat), cellH h24 b8 (o9 + 2) = some (.slice x64a x64n x64c) ∧ ∃ (n66 : Nat), x20 = (n66 : Int) ∧ (n66 ≤ x64n ∧ x64n ≤ x64c ∧ x64c ≤ x64c) ∧ (∀ (h69 : Heap), h69 = h24.push (.cells #[] 57 (0, 0)) → cellH h69 b8 (o9 + 2) = some (Value.slice x59a x59n x59c) ∧ cellH h69 b8 (o9 + 2) = some (Value.slice x64a x64n x64c) ∧ (∃ (m73 : Nat) (ns74 : List Value), (lenH (Value.slice (cutA x59a 0 x59c 2) n61 x59c) = some m73 ∧ firstH h69 2 m73 (Value.slice (cutA x59a 0 x59c 2) n61 x59c) = some ns74) ∧ VC.appH 57 2 16 (Value.agg #[.int .i64 0, .int .u64 0]) (some ⟨h24.size, 0, none⟩) 0 0 m73 ns74 h69 (fun a77 n78 q79 h80 => cellH h80 b8 (o9 + 2) = some (Value.slice x64a x64n x64c) ∧ ∀ (h82 : Heap), h82 = h80.push (.cells #[.int .i64 p1, .int .u64 p2] 57 (0, 0)) → cellH h82 b8 (o9 + 2) = some (Value.slice x64a x64n x64c) ∧ VC.appH 57 2 16 (Value.agg #[.int .i64 0, .int .u64 0]) a77 n78 q79 1 ([.int .i64 p1, .int .u64 p2]) h82 (fun a89 n90 q91 h92 => cellH h92 b8 (o9 + 2) = some (Value.slice x64a x64n x64c) ∧ ∃ (m94 : Nat) (ns95 : List Value), (lenH (Value.slice (cutA x64a n66 x64c 2) (x64n - n66) (x64c - n66)) = some m94 ∧ firstH h92 2 m94 (Value.slice (cutA x64a n66 x64c 2) (x64n - n66) (x64c - n66)) = some ns95) ∧ VC.appH 57 2 16 (Value.agg #[.int .i64 0, .int .u64 0]) a89 n90 q91 m94 ns95 h92 (fun a98 n99 q100 h101 => ∃ (h103 : Heap), stCells b8 h101 (o9 + 2) [.slice a98 n99 q100] = some h103 ∧ J56 h103)))) ∧ (∀ (h104 : Heap), h104 = h69.push (.cells #[.int .i64 p1, .int .u64 p2] 57 (0, 0)) → cellH h104 b8 (o9 + 2) = some (Value.slice x59a x59n x59c) ∧ cellH h104 b8 (o9 + 2) = some (Value.slice x64a x64n x64c) ∧ ∃ (m108 : Nat) (ns109 : List Value), (lenH (Value.slice (cutA x59a 0 x59c 2) n61 x59c) = some m108 ∧ firstH h104 2 m108 (Value.slice (cutA x59a 0 x59c 2) n61 x59c) = some ns109) ∧ VC.appH 57 2 16 (Value.agg #[.int .i64 0, .int .u64 0]) (some ⟨h24.size, 0, none⟩) 0 0 m108 ns109 h104 (fun a112 n113 q114 h115 => cellH h115 b8 (o9 + 2) = some (Value.slice x64a x64n x64c) ∧ ∃ (m117 : Nat) (ns118 : List Value), (lenH (Value.slice (some ⟨h69.size, 0, none⟩) 1 1) = some m117 ∧ firstH h115 2 m117 (Value.slice (some ⟨h69.size, 0, none⟩) 1 1) = some ns118) ∧ VC.appH 57 2 16 (Value.agg #[.int .i64 0, .int .u64 0]) a112 n113 q114 m117 ns118 h115 (fun a121 n122 q123 h124 => cellH h124 b8 (o9 + 2) = some (Value.slice x64a x64n x64c) ∧ ∃ (m126 : Nat) (ns127 : List Value), (lenH (Value.slice (cutA x64a n66 x64c 2) (x64n - n66) (x64c - n66)) = some m126 ∧ firstH h124 2 m126 (Value.slice (cutA x64a n66 x64c 2) (x64n - n66) (x64c - n66)) = some ns127) ∧ VC.appH 57 2 16 (Value.agg #[.int .i64 0, .int .u64 0]) a121 n122 q123 m126 ns127 h124 (fun a130 n131 q132 h133 => ∃ (h135 : Heap), stCells b8 h133 (o9 + 2) [.slice a130 n131 q132] = some h135 ∧ J56 h135))))) ∧ (∀ (h136 : Heap), h136 = h24.push (.cells #[.int .i64 p1, .int .u64 p2] 57 (0, 0)) → cellH h136 b8 (o9 + 2) = some (Value.slice x59a x59n x59c) ∧ cellH h136 b8 (o9 + 2) = some (Value.slice x64a x64n x64c) ∧ ∀ (h140 : Heap), h140 = h136.push (.cells #[] 57 (0, 0)) → cellH h140 b8 (o9 + 2) = some (Value.slice x59a x59n x59c) ∧ cellH h140 b8 (o9 + 2) = some (Value.slice x64a x64n x64c) ∧ ∃ (m144 : Nat) (ns145 : List Value), (lenH (Value.slice (cutA x59a 0 x59c 2) n61 x59c) = some m144 ∧ firstH h140 2 m144 (Value.slice (cutA x59a 0 x59c 2) n61 x59c) = some ns145) ∧ VC.appH 57 2 16 (Value.agg #[.int .i64 0, .int .u64 0]) (some ⟨h136.size, 0, none⟩) 0 0 m144 ns145 h140 (fun a148 n149 q150 h151 => cellH h151 b8 (o9 + 2) = some (Value.slice x64a x64n x64c) ∧ ∃ (m153 : Nat) (ns154 : List Value), (lenH (Value.slice (some ⟨h24.size, 0, none⟩) 1 1) = some m153 ∧ firstH h151 2 m153 (Value.slice (some ⟨h24.size, 0, none⟩) 1 1) = some ns154) ∧ VC.appH 57 2 16 (Value.agg #[.int .i64 0, .int .u64 0]) a148 n149 q150 m153 ns154 h151 (fun a157 n158 q159 h160 => cellH h160 b8 (o9 + 2) = some (Value.slice x64a x64n x64c) ∧ ∃ (m162 : Nat) (ns163 : List Value), (lenH (Value.slice (cutA x64a n66 x64c 2) (x64n - n66) (x64c - n66)) = some m162 ∧ firstH h160 2 m162 (Value.slice (cutA x64a n66 x64c 2) (x64n - n66) (x64c - n66)) = some ns163) ∧ VC.appH 57 2 16 (Value.agg #[.int .i64 0, .int .u64 0]) a157 n158 q159 m162 ns163 h160 (fun a166 n167 q168 h169 => ∃ (h171 : Heap), stCells b8 h169 (o9 + 2) [.slice a166 n167 q168] = some h171 ∧ J56 h171)))))))))))
theorem F_linchpinref19_Book_Open_ok (p0 : Option Addr) (p1 : Int) (p2 : Int) (R : Value → Heap → Prop) (h : Heap) (H : F_linchpinref19_Book_Open p0 p1 p2 (fun r0 h' => R (Value.int .i64 r0) h') h) : CallsH PR fn_linchpinref19_Book_Open #[.pointer p0, .int .i64 p1, .int .u64 p2] h R := by
  refine VC.callsH_of (args := [.pointer p0, .int .i64 p1, .int .u64 p2]) Try.func16 rfl rfl ?_
  intro f hf
  have e0 := hf 0 _ rfl
  have e1 := hf 1 _ rfl
  have e2 := hf 2 _ rfl
  clear hf
  unfold F_linchpinref19_Book_Open at H
  refine VC.wpf_seq ?_
  refine VC.wpf_region rfl ?_
  refine VC.wpL_op (VC.op_assign (v := .int .i64 0) rfl ?_)
  refine VC.wpL_nil ?_
  refine VC.wpf_seq ?_
  refine VC.wpf_seq ?_
  refine VC.wpf_region rfl ?_
  refine VC.wpL_op (VC.op_move (v := .int .i64 p1) e1 ?_)
  refine VC.wpL_op (VC.op_lss rfl rfl ?_)
  refine VC.wpL_op (VC.op_move (v := .bool (decide (p1 < 0))) rfl ?_)
  refine VC.wpL_gq (b := !(decide (p1 < 0))) (VC.guard_slot rfl rfl) (Value.int .i64 p1) (fun hb N hN => VC.op_move (v := .int .i64 p1) e1 hN) ?_
  refine VC.wpL_gq (b := !(decide (p1 < 0))) (VC.guard_slot rfl rfl) (Value.bool (decide (65535 < p1))) (fun hb N hN => VC.op_gtr (VC.gv hb) rfl hN) ?_
  refine VC.wpL_op (VC.op_pick_or rfl rfl (fun hq => (VC.gv (VC.not_of_false hq))) ?_)
  refine VC.wpL_nil ?_
  refine VC.wpf_cond ((decide (p1 < 0)) || (decide (65535 < p1))) rfl ?_ ?_
  · intro hb
    replace H := H.1 hb
    refine VC.wpf_seq ?_
    refine VC.wpf_region rfl ?_
    refine VC.wpL_op (VC.op_assign (v := .int .i64 1) rfl ?_)
    refine VC.wpL_nil ?_
    refine VC.wpf_ret ?_
    exact VC.ret_leaf (VC.resV_tmp rfl VC.resV_nil) H
  · intro hb
    replace H := H.2 hb
    refine VC.wpf_skip ?_
    refine VC.wpf_seq ?_
    refine VC.wpf_seq ?_
    refine VC.wpf_region rfl ?_
    refine VC.wpL_op (VC.op_move (v := .int .u64 p2) e2 ?_)
    refine VC.wpL_op (VC.op_geq rfl rfl ?_)
    refine VC.wpL_nil ?_
    refine VC.wpf_cond (decide (4611686018427387904 ≤ p2)) rfl ?_ ?_
    · intro hb
      replace H := H.1 (of_decide_eq_true hb)
      refine VC.wpf_seq ?_
      refine VC.wpf_region rfl ?_
      refine VC.wpL_op (VC.op_assign (v := .int .i64 2) rfl ?_)
      refine VC.wpL_nil ?_
      refine VC.wpf_ret ?_
      exact VC.ret_leaf (VC.resV_tmp rfl VC.resV_nil) H
    · intro hb
      replace H := H.2 (of_decide_eq_false hb)
      refine VC.wpf_skip ?_
      refine VC.wpf_seq ?_
      refine VC.wpf_seq ?_
      refine VC.wpf_region rfl ?_
      refine VC.wpL_op (VC.op_move (v := .pointer p0) e0 ?_)
      refine VC.wpL_op (VC.op_move (v := .int .i64 p1) e1 ?_)
      refine VC.wpL_op (VC.op_call (vs := [.pointer p0, .int .i64 p1]) en_29 (VC.args_cons rfl (VC.args_cons rfl VC.args_nil)) (CallsH.mono H ?_))
      clear H
      rintro _ h4 ⟨x6, rfl, H⟩
      refine VC.wpL_op (VC.op_geq rfl rfl ?_)
      refine VC.wpL_nil ?_
      refine VC.wpf_cond (decide (0 ≤ x6)) rfl ?_ ?_
      · intro hb
        replace H := H.1 (of_decide_eq_true hb)
        refine VC.wpf_seq ?_
        refine VC.wpf_region rfl ?_
        refine VC.wpL_op (VC.op_assign (v := .int .i64 7) rfl ?_)
        refine VC.wpL_nil ?_
        refine VC.wpf_ret ?_
        exact VC.ret_leaf (VC.resV_tmp rfl VC.resV_nil) H
      · intro hb
        replace H := H.2 (of_decide_eq_false hb)
        refine VC.wpf_skip ?_
        refine VC.wpf_seq ?_
        refine VC.wpf_seq ?_
        refine VC.wpf_region rfl ?_
        refine VC.wpL_op (VC.op_move (v := .pointer p0) e0 ?_)
        obtain ⟨b8, o9, rfl, H⟩ := H
        refine VC.wpL_op (VC.op_nilCheck rfl ?_)
        refine VC.wpL_op (VC.op_fieldAddr rfl fo_54_2 ?_)
        obtain ⟨x11a, x11n, x11c, c12, H⟩ := H
        refine VC.wpL_op (VC.op_load1 rfl ag_52 c12 ?_)
        refine VC.wpL_op (VC.op_len_slice rfl un_52 ?_)
        refine VC.wpL_op (VC.op_geq rfl rfl ?_)
        refine VC.wpL_nil ?_
        refine VC.wpf_cond (decide (64 ≤ (x11n : Int))) rfl ?_ ?_
        · intro hb
          replace H := H.1 (of_decide_eq_true hb)
          refine VC.wpf_seq ?_
          refine VC.wpf_region rfl ?_
          refine VC.wpL_op (VC.op_assign (v := .int .i64 4) rfl ?_)
          refine VC.wpL_nil ?_
          refine VC.wpf_ret ?_
          exact VC.ret_leaf (VC.resV_tmp rfl VC.resV_nil) H
        · intro hb
          replace H := H.2 (of_decide_eq_false hb)
          refine VC.wpf_skip ?_
          refine VC.wpf_seq ?_
          refine VC.wpf_seq ?_
          obtain ⟨x14, c15, H⟩ := H
          obtain ⟨x16, c17, H⟩ := H
          refine VC.wpf_draw cert_linchpinref19_Book_Open_9 0 [(Value.int .u64 p2), (Value.pointer (some ⟨b8, o9, none⟩)), (Value.pointer (some ⟨b8, o9, none⟩)), (Value.pointer (some ⟨b8, o9 + 1, none⟩)), (Value.int .u64 x14), (Value.pointer (some ⟨b8, o9, none⟩)), (Value.pointer (some ⟨b8, o9, none⟩)), (Value.pointer (some ⟨b8, o9, none⟩)), (Value.int .u64 x16), (Value.int .u64 (IntKind.u64.wrap (x14 + x16))), (Value.bool (decide (p2 ≤ (IntKind.u64.wrap (x14 + x16)))))] (by kernel_rfl) rfl mixed_PR ?_
          refine VC.plan_done rfl (VC.quiet_of [0, 1, 2, 3, 4, 5, 6, 7, 8, 9, 10] rfl ⟨VC.stepAt_of rfl rfl (VC.op_move (v := .int .u64 p2) e2 ⟨rfl, rfl⟩), VC.stepAt_of rfl rfl (VC.op_move (v := .pointer (some ⟨b8, o9, none⟩)) e0 ⟨rfl, rfl⟩), VC.stepAt_of rfl rfl (VC.op_nilCheck rfl ⟨rfl, rfl⟩), VC.stepAt_of rfl rfl (VC.op_fieldAddr rfl fo_54_1 ⟨rfl, rfl⟩), VC.stepAt_of rfl rfl (VC.op_load1 rfl ag_29 c15 ⟨rfl, rfl⟩), VC.stepAt_of rfl rfl (VC.op_move (v := .pointer (some ⟨b8, o9, none⟩)) e0 ⟨rfl, rfl⟩), VC.stepAt_of rfl rfl (VC.op_nilCheck rfl ⟨rfl, rfl⟩), VC.stepAt_of rfl rfl (VC.op_fieldAddr rfl fo_54_0 ⟨rfl, rfl⟩), VC.stepAt_of rfl rfl (VC.op_load1 rfl ag_29 c17 ⟨rfl, rfl⟩), VC.stepAt_of rfl rfl (VC.op_add rfl rfl rfl ⟨rfl, rfl⟩), VC.stepAt_of rfl rfl (VC.op_leq rfl rfl ⟨rfl, rfl⟩), trivial⟩) rfl ?_
          refine VC.wpf_cond (decide (p2 ≤ (IntKind.u64.wrap (x14 + x16)))) rfl ?_ ?_
          · intro hb
            replace H := H.1 (of_decide_eq_true hb)
            refine VC.wpf_seq ?_
            refine VC.wpf_region rfl ?_
            refine VC.wpL_op (VC.op_assign (v := .int .i64 11) rfl ?_)
            refine VC.wpL_nil ?_
            refine VC.wpf_ret ?_
            exact VC.ret_leaf (VC.resV_tmp rfl VC.resV_nil) H
          · intro hb
            replace H := H.2 (of_decide_eq_false hb)
            refine VC.wpf_skip ?_
            refine VC.wpf_seq ?_
            refine VC.wpf_region rfl ?_
            refine VC.wpL_op (VC.op_assign (v := .int .i64 0) rfl ?_)
            refine VC.wpL_nil ?_
            refine VC.wpf_seq ?_
            refine VC.wpf_block ?_
            obtain ⟨I21, mu22, hI, H⟩ := H
            obtain ⟨I23, mu23, hin23, hout23, hmu23⟩ : ∃ (J23 : VC.Fr → Heap → Prop) (m : VC.Fr → Heap → Nat), (∀ f hz (x20 : Int), f 7 = .int .i64 x20 → f 0 = .pointer (some ⟨b8, o9, none⟩) → f 1 = .int .i64 p1 → f 2 = .int .u64 p2 → I21 x20 hz → J23 f hz) ∧ (∀ f hz, J23 f hz → ∃ (x20 : Int), f 7 = .int .i64 x20 ∧ f 0 = .pointer (some ⟨b8, o9, none⟩) ∧ f 1 = .int .i64 p1 ∧ f 2 = .int .u64 p2 ∧ I21 x20 hz) ∧ (∀ f hz (x20 : Int), f 7 = .int .i64 x20 → m f hz = mu22 x20 hz) := ⟨fun f hz => ∃ (x20 : Int), f 7 = .int .i64 x20 ∧ f 0 = .pointer (some ⟨b8, o9, none⟩) ∧ f 1 = .int .i64 p1 ∧ f 2 = .int .u64 p2 ∧ I21 x20 hz, fun f hz => mu22 (VC.dInt (f 7)) hz, fun _ _ x20 a0 a1 a2 a3 z => ⟨x20, a0, a1, a2, a3, z⟩, fun _ _ hz => hz, fun f hz x20 a0 => by simp only [a0]; rfl⟩
            refine VC.wpf_loop I23 mu23 (hin23 _ _ _ rfl e0 e1 e2 hI) ?_
            clear hI
            intro f h24 hf
            obtain ⟨x20, a23_0, a23_1, a23_2, a23_3, hJ⟩ := hout23 _ _ hf
            replace H := H x20 h24 hJ
            refine VC.wpf_seq ?_
            refine VC.wpf_seq ?_
            refine VC.wpf_region rfl ?_
            refine VC.wpL_op (VC.op_move (v := .int .i64 x20) a23_0 ?_)
            refine VC.wpL_op (VC.op_move (v := .pointer (some ⟨b8, o9, none⟩)) a23_1 ?_)
            refine VC.wpL_op (VC.op_nilCheck rfl ?_)
            refine VC.wpL_op (VC.op_fieldAddr rfl fo_54_2 ?_)
            obtain ⟨x25a, x25n, x25c, c26, H⟩ := H
            refine VC.wpL_op (VC.op_load1 rfl ag_52 c26 ?_)
            refine VC.wpL_op (VC.op_len_slice rfl un_52 ?_)
            refine VC.wpL_op (VC.op_lss rfl rfl ?_)
            refine VC.wpL_op (VC.op_move (v := .bool (decide (x20 < (x25n : Int)))) rfl ?_)
            refine VC.wpL_gq (b := decide (x20 < (x25n : Int))) (VC.guard_slot rfl rfl) (Value.pointer (some ⟨b8, o9, none⟩)) (fun hb N hN => VC.op_move (v := .pointer (some ⟨b8, o9, none⟩)) a23_1 hN) ?_
            refine VC.wpL_gq (b := decide (x20 < (x25n : Int))) (VC.guard_slot rfl rfl) (Value.pointer (some ⟨b8, o9, none⟩)) (fun hb N hN => VC.op_nilCheck (VC.gv hb) hN) ?_
            refine VC.wpL_gq (b := decide (x20 < (x25n : Int))) (VC.guard_slot rfl rfl) (Value.pointer (some ⟨b8, o9 + 2, none⟩)) (fun hb N hN => VC.op_fieldAddr (VC.gv hb) fo_54_2 hN) ?_
            obtain ⟨x28a, x28n, x28c, c29, H⟩ := H
            refine VC.wpL_gq (b := decide (x20 < (x25n : Int))) (VC.guard_slot rfl rfl) (Value.slice x28a x28n x28c) (fun hb N hN => VC.op_load1 (VC.gv hb) ag_52 (c29 (of_decide_eq_true hb)) hN) ?_
            refine VC.wpL_gq (b := decide (x20 < (x25n : Int))) (VC.guard_slot rfl rfl) (Value.int .i64 x20) (fun hb N hN => VC.op_move (v := .int .i64 x20) a23_0 hN) ?_
            obtain ⟨b31, o32, c33, H⟩ := H
            obtain ⟨c30, H⟩ := H
            refine VC.wpL_gq (b := decide (x20 < (x25n : Int))) (VC.guard_slot rfl rfl) (Value.pointer (some ⟨b31, o32 + x20.toNat * 2, none⟩)) (fun hb N hN => VC.op_indexAddr_slice (Eq.trans (VC.gv hb) (congrArg (fun a => Value.slice a x28n x28c) (c33 (of_decide_eq_true hb)))) (VC.gv hb) ei_52 (c30 (of_decide_eq_true hb)) hN) ?_
            refine VC.wpL_gq (b := decide (x20 < (x25n : Int))) (VC.guard_slot rfl rfl) (Value.pointer (some ⟨b31, o32 + x20.toNat * 2 + 1, none⟩)) (fun hb N hN => VC.op_fieldAddr (VC.gv hb) fo_57_1 hN) ?_
            obtain ⟨x34, c35, H⟩ := H
            refine VC.wpL_gq (b := decide (x20 < (x25n : Int))) (VC.guard_slot rfl rfl) (Value.int .u64 x34) (fun hb N hN => VC.op_load1 (VC.gv hb) ag_29 (c35 (of_decide_eq_true hb)) hN) ?_
            refine VC.wpL_gq (b := decide (x20 < (x25n : Int))) (VC.guard_slot rfl rfl) (Value.int .u64 p2) (fun hb N hN => VC.op_move (v := .int .u64 p2) a23_3 hN) ?_
            refine VC.wpL_gq (b := decide (x20 < (x25n : Int))) (VC.guard_slot rfl rfl) (Value.bool (decide (x34 < p2))) (fun hb N hN => VC.op_lss (VC.gv hb) (VC.gv hb) hN) ?_
            refine VC.wpL_gq (b := decide (x20 < (x25n : Int))) (VC.guard_slot rfl rfl) (Value.bool (decide (x34 < p2))) (fun hb N hN => VC.op_move (v := .bool (decide (x34 < p2))) (VC.gv hb) hN) ?_
            refine VC.wpL_gq (b := (decide (x20 < (x25n : Int))) && (!(decide (x34 < p2)))) (VC.guard_cond rfl rfl) (Value.pointer (some ⟨b8, o9, none⟩)) (fun hb N hN => VC.op_move (v := .pointer (some ⟨b8, o9, none⟩)) a23_1 hN) ?_
            refine VC.wpL_gq (b := (decide (x20 < (x25n : Int))) && (!(decide (x34 < p2)))) (VC.guard_cond rfl rfl) (Value.pointer (some ⟨b8, o9, none⟩)) (fun hb N hN => VC.op_nilCheck (VC.gv hb) hN) ?_
            refine VC.wpL_gq (b := (decide (x20 < (x25n : Int))) && (!(decide (x34 < p2)))) (VC.guard_cond rfl rfl) (Value.pointer (some ⟨b8, o9 + 2, none⟩)) (fun hb N hN => VC.op_fieldAddr (VC.gv hb) fo_54_2 hN) ?_
            obtain ⟨x37a, x37n, x37c, c38, H⟩ := H
            refine VC.wpL_gq (b := (decide (x20 < (x25n : Int))) && (!(decide (x34 < p2)))) (VC.guard_cond rfl rfl) (Value.slice x37a x37n x37c) (fun hb N hN => VC.op_load1 (VC.gv hb) ag_52 (c38 hb) hN) ?_
            refine VC.wpL_gq (b := (decide (x20 < (x25n : Int))) && (!(decide (x34 < p2)))) (VC.guard_cond rfl rfl) (Value.int .i64 x20) (fun hb N hN => VC.op_move (v := .int .i64 x20) a23_0 hN) ?_
            obtain ⟨b40, o41, c42, H⟩ := H
            obtain ⟨c39, H⟩ := H
            refine VC.wpL_gq (b := (decide (x20 < (x25n : Int))) && (!(decide (x34 < p2)))) (VC.guard_cond rfl rfl) (Value.pointer (some ⟨b40, o41 + x20.toNat * 2, none⟩)) (fun hb N hN => VC.op_indexAddr_slice (Eq.trans (VC.gv hb) (congrArg (fun a => Value.slice a x37n x37c) (c42 hb))) (VC.gv hb) ei_52 (c39 hb) hN) ?_
            refine VC.wpL_gq (b := (decide (x20 < (x25n : Int))) && (!(decide (x34 < p2)))) (VC.guard_cond rfl rfl) (Value.pointer (some ⟨b40, o41 + x20.toNat * 2 + 1, none⟩)) (fun hb N hN => VC.op_fieldAddr (VC.gv hb) fo_57_1 hN) ?_
            obtain ⟨x43, c44, H⟩ := H
            refine VC.wpL_gq (b := (decide (x20 < (x25n : Int))) && (!(decide (x34 < p2)))) (VC.guard_cond rfl rfl) (Value.int .u64 x43) (fun hb N hN => VC.op_load1 (VC.gv hb) ag_29 (c44 hb) hN) ?_
            refine VC.wpL_gq (b := (decide (x20 < (x25n : Int))) && (!(decide (x34 < p2)))) (VC.guard_cond rfl rfl) (Value.int .u64 p2) (fun hb N hN => VC.op_move (v := .int .u64 p2) a23_3 hN) ?_
            refine VC.wpL_gq (b := (decide (x20 < (x25n : Int))) && (!(decide (x34 < p2)))) (VC.guard_cond rfl rfl) (Value.bool (decide (x43 = p2))) (fun hb N hN => VC.op_eql (VC.gv hb) (VC.gv hb) hN) ?_
            refine VC.wpL_gq (b := (decide (x20 < (x25n : Int))) && (!(decide (x34 < p2)))) (VC.guard_cond rfl rfl) (Value.bool (decide (x43 = p2))) (fun hb N hN => VC.op_move (v := .bool (decide (x43 = p2))) (VC.gv hb) hN) ?_
            refine VC.wpL_gq (b := ((decide (x20 < (x25n : Int))) && (!(decide (x34 < p2)))) && (decide (x43 = p2))) (VC.guard_cond rfl rfl) (Value.pointer (some ⟨b8, o9, none⟩)) (fun hb N hN => VC.op_move (v := .pointer (some ⟨b8, o9, none⟩)) a23_1 hN) ?_
            refine VC.wpL_gq (b := ((decide (x20 < (x25n : Int))) && (!(decide (x34 < p2)))) && (decide (x43 = p2))) (VC.guard_cond rfl rfl) (Value.pointer (some ⟨b8, o9, none⟩)) (fun hb N hN => VC.op_nilCheck (VC.gv hb) hN) ?_
            refine VC.wpL_gq (b := ((decide (x20 < (x25n : Int))) && (!(decide (x34 < p2)))) && (decide (x43 = p2))) (VC.guard_cond rfl rfl) (Value.pointer (some ⟨b8, o9 + 2, none⟩)) (fun hb N hN => VC.op_fieldAddr (VC.gv hb) fo_54_2 hN) ?_
            obtain ⟨x46a, x46n, x46c, c47, H⟩ := H
            refine VC.wpL_gq (b := ((decide (x20 < (x25n : Int))) && (!(decide (x34 < p2)))) && (decide (x43 = p2))) (VC.guard_cond rfl rfl) (Value.slice x46a x46n x46c) (fun hb N hN => VC.op_load1 (VC.gv hb) ag_52 (c47 hb) hN) ?_
            refine VC.wpL_gq (b := ((decide (x20 < (x25n : Int))) && (!(decide (x34 < p2)))) && (decide (x43 = p2))) (VC.guard_cond rfl rfl) (Value.int .i64 x20) (fun hb N hN => VC.op_move (v := .int .i64 x20) a23_0 hN) ?_
            obtain ⟨b49, o50, c51, H⟩ := H
            obtain ⟨c48, H⟩ := H
            refine VC.wpL_gq (b := ((decide (x20 < (x25n : Int))) && (!(decide (x34 < p2)))) && (decide (x43 = p2))) (VC.guard_cond rfl rfl) (Value.pointer (some ⟨b49, o50 + x20.toNat * 2, none⟩)) (fun hb N hN => VC.op_indexAddr_slice (Eq.trans (VC.gv hb) (congrArg (fun a => Value.slice a x46n x46c) (c51 hb))) (VC.gv hb) ei_52 (c48 hb) hN) ?_
            refine VC.wpL_gq (b := ((decide (x20 < (x25n : Int))) && (!(decide (x34 < p2)))) && (decide (x43 = p2))) (VC.guard_cond rfl rfl) (Value.pointer (some ⟨b49, o50 + x20.toNat * 2, none⟩)) (fun hb N hN => VC.op_fieldAddr (VC.gv hb) fo_57_0 hN) ?_
            obtain ⟨x52, c53, H⟩ := H
            refine VC.wpL_gq (b := ((decide (x20 < (x25n : Int))) && (!(decide (x34 < p2)))) && (decide (x43 = p2))) (VC.guard_cond rfl rfl) (Value.int .i64 x52) (fun hb N hN => VC.op_load1 (VC.gv hb) ag_3 (c53 hb) hN) ?_
            refine VC.wpL_gq (b := ((decide (x20 < (x25n : Int))) && (!(decide (x34 < p2)))) && (decide (x43 = p2))) (VC.guard_cond rfl rfl) (Value.int .i64 p1) (fun hb N hN => VC.op_move (v := .int .i64 p1) a23_2 hN) ?_
            refine VC.wpL_gq (b := ((decide (x20 < (x25n : Int))) && (!(decide (x34 < p2)))) && (decide (x43 = p2))) (VC.guard_cond rfl rfl) (Value.bool (decide (x52 < p1))) (fun hb N hN => VC.op_lss (VC.gv hb) (VC.gv hb) hN) ?_
            refine VC.wpL_gq (b := (decide (x20 < (x25n : Int))) && (!(decide (x34 < p2)))) (VC.guard_cond rfl rfl) (Value.bool ((decide (x43 = p2)) && (decide (x52 < p1)))) (fun hb N hN => VC.op_pick_and (VC.gv hb) (fun hq => (VC.gv (VC.and_i hb hq))) rfl hN) ?_
            refine VC.wpL_gq (b := decide (x20 < (x25n : Int))) (VC.guard_slot rfl rfl) (Value.bool ((decide (x34 < p2)) || ((decide (x43 = p2)) && (decide (x52 < p1))))) (fun hb N hN => VC.op_pick_or (VC.gv hb) rfl (fun hq => (VC.gv (VC.and_i hb (VC.not_of_false hq)))) hN) ?_
            refine VC.wpL_op (VC.op_pick_and rfl (fun hq => (VC.gv hq)) rfl ?_)
            refine VC.wpL_nil ?_
            refine VC.wpf_cond ((decide (x20 < (x25n : Int))) && ((decide (x34 < p2)) || ((decide (x43 = p2)) && (decide (x52 < p1))))) rfl ?_ ?_
            · intro hb
              replace H := H.1 hb
              refine VC.wpf_skip ?_
              refine VC.wpf_block ?_
              refine VC.wpf_region rfl ?_
              refine VC.wpL_op (VC.op_move (v := .int .i64 x20) a23_0 ?_)
              obtain ⟨c55, H⟩ := H
              refine VC.wpL_op (VC.op_add rfl rfl (VC.wrap_i64 c55) ?_)
              refine VC.wpL_op (VC.op_assign (v := .int .i64 (x20 + 1)) rfl ?_)
              refine VC.wpL_nil ?_
              exact And.intro (hin23 _ _ _ rfl a23_1 a23_2 a23_3 H.1) (lt_of (hmu23 _ _ _ rfl) (hmu23 _ _ _ a23_0) H.2)
            · intro hb
              replace H := H.2 hb
              refine VC.wpf_exit ?_
              refine VC.wpf_seq ?_
              obtain ⟨J56, HR, H⟩ := H
              obtain ⟨J57, hin57, hout57⟩ : ∃ J57 : VC.Fr → Heap → Prop, (∀ f hz, J56 hz → J57 f hz) ∧ (∀ f hz, J57 f hz → J56 hz) := ⟨fun f hz => J56 hz, fun _ _ z => z, fun _ _ hz => hz⟩
              refine VC.wpf_cut J57 ?_ ?_
              · skip
                obtain ⟨x59a, x59n, x59c, c60, H⟩ := H
                obtain ⟨n61, c62, H⟩ := H
                obtain ⟨c63, H⟩ := H
                obtain ⟨x64a, x64n, x64c, c65, H⟩ := H
                obtain ⟨n66, c67, H⟩ := H
                obtain ⟨c68, H⟩ := H
                refine VC.wpf_draw cert_linchpinref19_Book_Open_14 6 [(Value.pointer (some ⟨b8, o9, none⟩)), undef, (Value.pointer (some ⟨b8, o9, none⟩)), (Value.pointer (some ⟨b8, o9, none⟩)), (Value.pointer (some ⟨b8, o9 + 2, none⟩)), (Value.slice x59a x59n x59c), (Value.int .i64 x20), (Value.slice (cutA x59a 0 x59c 2) n61 x59c), undef, (Value.int .i64 p1), (Value.int .u64 p2), (Value.agg #[.int .i64 p1, .int .u64 p2]), undef, undef, (Value.pointer (some ⟨b8, o9, none⟩)), (Value.pointer (some ⟨b8, o9, none⟩)), (Value.pointer (some ⟨b8, o9 + 2, none⟩)), (Value.slice x64a x64n x64c), (Value.int .i64 x20), (Value.slice (cutA x64a n66 x64c 2) (x64n - n66) (x64c - n66)), undef, undef, undef, undef] (by kernel_rfl) rfl mixed_PR ?_
                refine VC.plan_step [1, 12] (by decide) rfl (VC.quiet_of [0, 2, 3, 4, 5, 6, 7, 9, 10, 11, 14, 15, 16, 17, 18, 19] rfl ⟨VC.stepAt_of rfl rfl (VC.op_move (v := .pointer (some ⟨b8, o9, none⟩)) a23_1 ⟨rfl, rfl⟩), VC.stepAt_of rfl rfl (VC.op_move (v := .pointer (some ⟨b8, o9, none⟩)) a23_1 ⟨rfl, rfl⟩), VC.stepAt_of rfl rfl (VC.op_nilCheck rfl ⟨rfl, rfl⟩), VC.stepAt_of rfl rfl (VC.op_fieldAddr rfl fo_54_2 ⟨rfl, rfl⟩), VC.stepAt_of rfl rfl (VC.op_load1 rfl ag_52 c60 ⟨rfl, rfl⟩), VC.stepAt_of rfl rfl (VC.op_move (v := .int .i64 x20) a23_0 ⟨rfl, rfl⟩), VC.stepAt_of rfl rfl (VC.op_slice_sl ei_52 rfl rfl ⟨_, Eq.trans rfl (congrArg (Value.int .i64) c62)⟩ rfl (.inl rfl) c63.1 c63.2.1 c63.2.2 ⟨rfl, rfl⟩), VC.stepAt_of rfl rfl (VC.op_move (v := .int .i64 p1) a23_2 ⟨rfl, rfl⟩), VC.stepAt_of rfl rfl (VC.op_move (v := .int .u64 p2) a23_3 ⟨rfl, rfl⟩), VC.stepAt_of rfl rfl (VC.op_build' (vs := [(0, .int .i64 p1), (1, .int .u64 p2)]) (cs := #[.int .i64 p1, .int .u64 p2]) z_57 fs_57 (VC.parts_cons rfl (VC.parts_cons rfl VC.parts_nil)) rfl ⟨rfl, rfl⟩), VC.stepAt_of rfl rfl (VC.op_move (v := .pointer (some ⟨b8, o9, none⟩)) a23_1 ⟨rfl, rfl⟩), VC.stepAt_of rfl rfl (VC.op_nilCheck rfl ⟨rfl, rfl⟩), VC.stepAt_of rfl rfl (VC.op_fieldAddr rfl fo_54_2 ⟨rfl, rfl⟩), VC.stepAt_of rfl rfl (VC.op_load1 rfl ag_52 c65 ⟨rfl, rfl⟩), VC.stepAt_of rfl rfl (VC.op_move (v := .int .i64 x20) a23_0 ⟨rfl, rfl⟩), VC.stepAt_of rfl rfl (VC.op_slice_sl ei_52 rfl ⟨_, Eq.trans rfl (congrArg (Value.int .i64) c67)⟩ rfl rfl (.inl rfl) c68.1 c68.2.1 c68.2.2 ⟨rfl, rfl⟩), trivial⟩) rfl ⟨?_, ?_, trivial⟩
                · replace H := H.1
                  obtain ⟨h69, c70⟩ : ∃ h69, h69 = h24.push (.cells #[] 57 (0, 0)) := ⟨_, rfl⟩
                  replace H := H h69 c70
                  refine VC.stepAt_of rfl rfl (VC.op_buildSlice' (cs := #[]) (vs := []) (zl := [.int .i64 0, .int .u64 0]) ri_52 (by decide) rfl rfl VC.parts_nil rfl c70 ?_)
                  obtain ⟨c71, H⟩ := H
                  obtain ⟨c72, H⟩ := H
                  refine ⟨[(Value.pointer (some ⟨b8, o9, none⟩)), (Value.slice (some ⟨h24.size, 0, none⟩) 0 0), (Value.pointer (some ⟨b8, o9, none⟩)), (Value.pointer (some ⟨b8, o9, none⟩)), (Value.pointer (some ⟨b8, o9 + 2, none⟩)), (Value.slice x59a x59n x59c), (Value.int .i64 x20), (Value.slice (cutA x59a 0 x59c 2) n61 x59c), undef, (Value.int .i64 p1), (Value.int .u64 p2), (Value.agg #[.int .i64 p1, .int .u64 p2]), undef, undef, (Value.pointer (some ⟨b8, o9, none⟩)), (Value.pointer (some ⟨b8, o9, none⟩)), (Value.pointer (some ⟨b8, o9 + 2, none⟩)), (Value.slice x64a x64n x64c), (Value.int .i64 x20), (Value.slice (cutA x64a n66 x64c 2) (x64n - n66) (x64c - n66)), undef, undef, undef, undef], rfl, (VC.agree_of [0, 2, 3, 4, 5, 6, 7, 9, 10, 11, 14, 15, 16, 17, 18, 19] rfl ⟨rfl, rfl, rfl, rfl, rfl, rfl, rfl, rfl, rfl, rfl, rfl, rfl, rfl, rfl, rfl, rfl, trivial⟩), ?_⟩
                  refine VC.plan_step [8, 12] (by decide) rfl (VC.quiet_of [0, 2, 3, 4, 5, 6, 7, 9, 10, 11, 14, 15, 16, 17, 18, 19] rfl ⟨VC.stepAt_of rfl rfl (VC.op_move (v := .pointer (some ⟨b8, o9, none⟩)) a23_1 ⟨rfl, rfl⟩), VC.stepAt_of rfl rfl (VC.op_move (v := .pointer (some ⟨b8, o9, none⟩)) a23_1 ⟨rfl, rfl⟩), VC.stepAt_of rfl rfl (VC.op_nilCheck rfl ⟨rfl, rfl⟩), VC.stepAt_of rfl rfl (VC.op_fieldAddr rfl fo_54_2 ⟨rfl, rfl⟩), VC.stepAt_of rfl rfl (VC.op_load1 rfl ag_52 c71 ⟨rfl, rfl⟩), VC.stepAt_of rfl rfl (VC.op_move (v := .int .i64 x20) a23_0 ⟨rfl, rfl⟩), VC.stepAt_of rfl rfl (VC.op_slice_sl ei_52 rfl rfl ⟨_, Eq.trans rfl (congrArg (Value.int .i64) c62)⟩ rfl (.inl rfl) c63.1 c63.2.1 c63.2.2 ⟨rfl, rfl⟩), VC.stepAt_of rfl rfl (VC.op_move (v := .int .i64 p1) a23_2 ⟨rfl, rfl⟩), VC.stepAt_of rfl rfl (VC.op_move (v := .int .u64 p2) a23_3 ⟨rfl, rfl⟩), VC.stepAt_of rfl rfl (VC.op_build' (vs := [(0, .int .i64 p1), (1, .int .u64 p2)]) (cs := #[.int .i64 p1, .int .u64 p2]) z_57 fs_57 (VC.parts_cons rfl (VC.parts_cons rfl VC.parts_nil)) rfl ⟨rfl, rfl⟩), VC.stepAt_of rfl rfl (VC.op_move (v := .pointer (some ⟨b8, o9, none⟩)) a23_1 ⟨rfl, rfl⟩), VC.stepAt_of rfl rfl (VC.op_nilCheck rfl ⟨rfl, rfl⟩), VC.stepAt_of rfl rfl (VC.op_fieldAddr rfl fo_54_2 ⟨rfl, rfl⟩), VC.stepAt_of rfl rfl (VC.op_load1 rfl ag_52 c72 ⟨rfl, rfl⟩), VC.stepAt_of rfl rfl (VC.op_move (v := .int .i64 x20) a23_0 ⟨rfl, rfl⟩), VC.stepAt_of rfl rfl (VC.op_slice_sl ei_52 rfl ⟨_, Eq.trans rfl (congrArg (Value.int .i64) c67)⟩ rfl rfl (.inl rfl) c68.1 c68.2.1 c68.2.2 ⟨rfl, rfl⟩), trivial⟩) rfl ⟨?_, ?_, trivial⟩
                  · replace H := H.1
                    obtain ⟨m73, ns74, c75, H⟩ := H
                    refine VC.stepAt_of rfl rfl (VC.op_append' (src := (Value.slice (cutA x59a 0 x59c 2) n61 x59c)) (news := ns74) ri_52 (.inl ⟨_, un_52⟩) rfl rfl c75.1 c75.2 (VC.appH.mono H ?_))
                    clear H
                    intro a77 n78 q79 h80 H
                    obtain ⟨c81, H⟩ := H
                    refine ⟨[(Value.pointer (some ⟨b8, o9, none⟩)), (Value.slice (some ⟨h24.size, 0, none⟩) 0 0), (Value.pointer (some ⟨b8, o9, none⟩)), (Value.pointer (some ⟨b8, o9, none⟩)), (Value.pointer (some ⟨b8, o9 + 2, none⟩)), (Value.slice x59a x59n x59c), (Value.int .i64 x20), (Value.slice (cutA x59a 0 x59c 2) n61 x59c), (Value.slice a77 n78 q79), (Value.int .i64 p1), (Value.int .u64 p2), (Value.agg #[.int .i64 p1, .int .u64 p2]), undef, undef, (Value.pointer (some ⟨b8, o9, none⟩)), (Value.pointer (some ⟨b8, o9, none⟩)), (Value.pointer (some ⟨b8, o9 + 2, none⟩)), (Value.slice x64a x64n x64c), (Value.int .i64 x20), (Value.slice (cutA x64a n66 x64c 2) (x64n - n66) (x64c - n66)), undef, undef, undef, undef], rfl, (VC.agree_of [0, 1, 2, 3, 4, 5, 6, 7, 9, 10, 11, 14, 15, 16, 17, 18, 19] rfl ⟨rfl, rfl, rfl, rfl, rfl, rfl, rfl, rfl, rfl, rfl, rfl, rfl, rfl, rfl, rfl, rfl, rfl, trivial⟩), ?_⟩
                    refine VC.plan_step [12] (by decide) rfl (VC.quiet_of [0, 9, 10, 11, 14, 15, 16, 17, 18, 19] rfl ⟨VC.stepAt_of rfl rfl (VC.op_move (v := .pointer (some ⟨b8, o9, none⟩)) a23_1 ⟨rfl, rfl⟩), VC.stepAt_of rfl rfl (VC.op_move (v := .int .i64 p1) a23_2 ⟨rfl, rfl⟩), VC.stepAt_of rfl rfl (VC.op_move (v := .int .u64 p2) a23_3 ⟨rfl, rfl⟩), VC.stepAt_of rfl rfl (VC.op_build' (vs := [(0, .int .i64 p1), (1, .int .u64 p2)]) (cs := #[.int .i64 p1, .int .u64 p2]) z_57 fs_57 (VC.parts_cons rfl (VC.parts_cons rfl VC.parts_nil)) rfl ⟨rfl, rfl⟩), VC.stepAt_of rfl rfl (VC.op_move (v := .pointer (some ⟨b8, o9, none⟩)) a23_1 ⟨rfl, rfl⟩), VC.stepAt_of rfl rfl (VC.op_nilCheck rfl ⟨rfl, rfl⟩), VC.stepAt_of rfl rfl (VC.op_fieldAddr rfl fo_54_2 ⟨rfl, rfl⟩), VC.stepAt_of rfl rfl (VC.op_load1 rfl ag_52 c81 ⟨rfl, rfl⟩), VC.stepAt_of rfl rfl (VC.op_move (v := .int .i64 x20) a23_0 ⟨rfl, rfl⟩), VC.stepAt_of rfl rfl (VC.op_slice_sl ei_52 rfl ⟨_, Eq.trans rfl (congrArg (Value.int .i64) c67)⟩ rfl rfl (.inl rfl) c68.1 c68.2.1 c68.2.2 ⟨rfl, rfl⟩), trivial⟩) rfl ⟨?_, trivial⟩
                    obtain ⟨h82, c83⟩ : ∃ h82, h82 = h80.push (.cells #[.int .i64 p1, .int .u64 p2] 57 (0, 0)) := ⟨_, rfl⟩
                    replace H := H h82 c83
                    refine VC.stepAt_of rfl rfl (VC.op_buildSlice' (cs := #[.int .i64 p1, .int .u64 p2]) (vs := [(0, .agg #[.int .i64 p1, .int .u64 p2])]) (zl := [.int .i64 0, .int .u64 0]) ri_52 (by decide) rfl rfl (VC.parts_cons rfl VC.parts_nil) rfl c83 ?_)
                    obtain ⟨c84, H⟩ := H
                    refine ⟨[(Value.pointer (some ⟨b8, o9, none⟩)), (Value.slice (some ⟨h24.size, 0, none⟩) 0 0), (Value.pointer (some ⟨b8, o9, none⟩)), (Value.pointer (some ⟨b8, o9, none⟩)), (Value.pointer (some ⟨b8, o9 + 2, none⟩)), (Value.slice x59a x59n x59c), (Value.int .i64 x20), (Value.slice (cutA x59a 0 x59c 2) n61 x59c), (Value.slice a77 n78 q79), (Value.int .i64 p1), (Value.int .u64 p2), (Value.agg #[.int .i64 p1, .int .u64 p2]), (Value.slice (some ⟨h80.size, 0, none⟩) 1 1), undef, (Value.pointer (some ⟨b8, o9, none⟩)), (Value.pointer (some ⟨b8, o9, none⟩)), (Value.pointer (some ⟨b8, o9 + 2, none⟩)), (Value.slice x64a x64n x64c), (Value.int .i64 x20), (Value.slice (cutA x64a n66 x64c 2) (x64n - n66) (x64c - n66)), undef, undef, undef, undef], rfl, (VC.agree_of [0, 1, 2, 3, 4, 5, 6, 7, 8, 9, 10, 11, 14, 15, 16, 17, 18, 19] rfl ⟨rfl, rfl, rfl, rfl, rfl, rfl, rfl, rfl, rfl, rfl, rfl, rfl, rfl, rfl, rfl, rfl, rfl, rfl, trivial⟩), ?_⟩
                    refine VC.plan_step [13] (by decide) rfl (VC.quiet_of [0, 14, 15, 16, 17, 18, 19] rfl ⟨VC.stepAt_of rfl rfl (VC.op_move (v := .pointer (some ⟨b8, o9, none⟩)) a23_1 ⟨rfl, rfl⟩), VC.stepAt_of rfl rfl (VC.op_move (v := .pointer (some ⟨b8, o9, none⟩)) a23_1 ⟨rfl, rfl⟩), VC.stepAt_of rfl rfl (VC.op_nilCheck rfl ⟨rfl, rfl⟩), VC.stepAt_of rfl rfl (VC.op_fieldAddr rfl fo_54_2 ⟨rfl, rfl⟩), VC.stepAt_of rfl rfl (VC.op_load1 rfl ag_52 c84 ⟨rfl, rfl⟩), VC.stepAt_of rfl rfl (VC.op_move (v := .int .i64 x20) a23_0 ⟨rfl, rfl⟩), VC.stepAt_of rfl rfl (VC.op_slice_sl ei_52 rfl ⟨_, Eq.trans rfl (congrArg (Value.int .i64) c67)⟩ rfl rfl (.inl rfl) c68.1 c68.2.1 c68.2.2 ⟨rfl, rfl⟩), trivial⟩) rfl ⟨?_, trivial⟩
                    refine VC.stepAt_of rfl rfl (VC.op_append' (src := (Value.slice (some ⟨h80.size, 0, none⟩) 1 1)) (news := [.int .i64 p1, .int .u64 p2]) ri_52 (.inl ⟨_, un_52⟩) rfl rfl rfl (VC.first_fresh c83 rfl rfl rfl) (VC.appH.mono H ?_))
                    clear H
                    intro a89 n90 q91 h92 H
                    obtain ⟨c93, H⟩ := H
                    refine ⟨[(Value.pointer (some ⟨b8, o9, none⟩)), (Value.slice (some ⟨h24.size, 0, none⟩) 0 0), (Value.pointer (some ⟨b8, o9, none⟩)), (Value.pointer (some ⟨b8, o9, none⟩)), (Value.pointer (some ⟨b8, o9 + 2, none⟩)), (Value.slice x59a x59n x59c), (Value.int .i64 x20), (Value.slice (cutA x59a 0 x59c 2) n61 x59c), (Value.slice a77 n78 q79), (Value.int .i64 p1), (Value.int .u64 p2), (Value.agg #[.int .i64 p1, .int .u64 p2]), (Value.slice (some ⟨h80.size, 0, none⟩) 1 1), (Value.slice a89 n90 q91), (Value.pointer (some ⟨b8, o9, none⟩)), (Value.pointer (some ⟨b8, o9, none⟩)), (Value.pointer (some ⟨b8, o9 + 2, none⟩)), (Value.slice x64a x64n x64c), (Value.int .i64 x20), (Value.slice (cutA x64a n66 x64c 2) (x64n - n66) (x64c - n66)), undef, undef, undef, undef], rfl, (VC.agree_of [0, 1, 2, 3, 4, 5, 6, 7, 8, 9, 10, 11, 12, 14, 15, 16, 17, 18, 19] rfl ⟨rfl, rfl, rfl, rfl, rfl, rfl, rfl, rfl, rfl, rfl, rfl, rfl, rfl, rfl, rfl, rfl, rfl, rfl, rfl, trivial⟩), ?_⟩
                    refine VC.plan_step [20] (by decide) rfl (VC.quiet_of [0, 14, 15, 16, 17, 18, 19] rfl ⟨VC.stepAt_of rfl rfl (VC.op_move (v := .pointer (some ⟨b8, o9, none⟩)) a23_1 ⟨rfl, rfl⟩), VC.stepAt_of rfl rfl (VC.op_move (v := .pointer (some ⟨b8, o9, none⟩)) a23_1 ⟨rfl, rfl⟩), VC.stepAt_of rfl rfl (VC.op_nilCheck rfl ⟨rfl, rfl⟩), VC.stepAt_of rfl rfl (VC.op_fieldAddr rfl fo_54_2 ⟨rfl, rfl⟩), VC.stepAt_of rfl rfl (VC.op_load1 rfl ag_52 c93 ⟨rfl, rfl⟩), VC.stepAt_of rfl rfl (VC.op_move (v := .int .i64 x20) a23_0 ⟨rfl, rfl⟩), VC.stepAt_of rfl rfl (VC.op_slice_sl ei_52 rfl ⟨_, Eq.trans rfl (congrArg (Value.int .i64) c67)⟩ rfl rfl (.inl rfl) c68.1 c68.2.1 c68.2.2 ⟨rfl, rfl⟩), trivial⟩) rfl ⟨?_, trivial⟩
                    obtain ⟨m94, ns95, c96, H⟩ := H
                    refine VC.stepAt_of rfl rfl (VC.op_append' (src := (Value.slice (cutA x64a n66 x64c 2) (x64n - n66) (x64c - n66))) (news := ns95) ri_52 (.inl ⟨_, un_52⟩) rfl rfl c96.1 c96.2 (VC.appH.mono H ?_))
                    clear H
                    intro a98 n99 q100 h101 H
                    refine ⟨[(Value.pointer (some ⟨b8, o9, none⟩)), (Value.slice (some ⟨h24.size, 0, none⟩) 0 0), (Value.pointer (some ⟨b8, o9, none⟩)), (Value.pointer (some ⟨b8, o9, none⟩)), (Value.pointer (some ⟨b8, o9 + 2, none⟩)), (Value.slice x59a x59n x59c), (Value.int .i64 x20), (Value.slice (cutA x59a 0 x59c 2) n61 x59c), (Value.slice a77 n78 q79), (Value.int .i64 p1), (Value.int .u64 p2), (Value.agg #[.int .i64 p1, .int .u64 p2]), (Value.slice (some ⟨h80.size, 0, none⟩) 1 1), (Value.slice a89 n90 q91), (Value.pointer (some ⟨b8, o9, none⟩)), (Value.pointer (some ⟨b8, o9, none⟩)), (Value.pointer (some ⟨b8, o9 + 2, none⟩)), (Value.slice x64a x64n x64c), (Value.int .i64 x20), (Value.slice (cutA x64a n66 x64c 2) (x64n - n66) (x64c - n66)), (Value.slice a98 n99 q100), (Value.pointer (some ⟨b8, o9, none⟩)), (Value.pointer (some ⟨b8, o9 + 2, none⟩)), undef], rfl, (VC.agree_of [0, 1, 2, 3, 4, 5, 6, 7, 8, 9, 10, 11, 12, 13, 14, 15, 16, 17, 18, 19] rfl ⟨rfl, rfl, rfl, rfl, rfl, rfl, rfl, rfl, rfl, rfl, rfl, rfl, rfl, rfl, rfl, rfl, rfl, rfl, rfl, rfl, trivial⟩), ?_⟩
                    refine VC.plan_step [23] (by decide) rfl (VC.quiet_of [0, 21, 22] rfl ⟨VC.stepAt_of rfl rfl (VC.op_move (v := .pointer (some ⟨b8, o9, none⟩)) a23_1 ⟨rfl, rfl⟩), VC.stepAt_of rfl rfl (VC.op_nilCheck rfl ⟨rfl, rfl⟩), VC.stepAt_of rfl rfl (VC.op_fieldAddr rfl fo_54_2 ⟨rfl, rfl⟩), trivial⟩) rfl ⟨?_, trivial⟩
                    obtain ⟨h103, c102, H⟩ := H
                    refine VC.stepAt_of rfl rfl (VC.op_store (v := .slice a98 n99 q100) rfl rfl sz_52 rfl c102 ?_)
                    refine ⟨[(Value.pointer (some ⟨b8, o9, none⟩)), (Value.slice (some ⟨h24.size, 0, none⟩) 0 0), (Value.pointer (some ⟨b8, o9, none⟩)), (Value.pointer (some ⟨b8, o9, none⟩)), (Value.pointer (some ⟨b8, o9 + 2, none⟩)), (Value.slice x59a x59n x59c), (Value.int .i64 x20), (Value.slice (cutA x59a 0 x59c 2) n61 x59c), (Value.slice a77 n78 q79), (Value.int .i64 p1), (Value.int .u64 p2), (Value.agg #[.int .i64 p1, .int .u64 p2]), (Value.slice (some ⟨h80.size, 0, none⟩) 1 1), (Value.slice a89 n90 q91), (Value.pointer (some ⟨b8, o9, none⟩)), (Value.pointer (some ⟨b8, o9, none⟩)), (Value.pointer (some ⟨b8, o9 + 2, none⟩)), (Value.slice x64a x64n x64c), (Value.int .i64 x20), (Value.slice (cutA x64a n66 x64c 2) (x64n - n66) (x64c - n66)), (Value.slice a98 n99 q100), (Value.pointer (some ⟨b8, o9, none⟩)), (Value.pointer (some ⟨b8, o9 + 2, none⟩)), undef], rfl, (VC.agree_of [0, 1, 2, 3, 4, 5, 6, 7, 8, 9, 10, 11, 12, 13, 14, 15, 16, 17, 18, 19, 20, 21, 22] rfl ⟨rfl, rfl, rfl, rfl, rfl, rfl, rfl, rfl, rfl, rfl, rfl, rfl, rfl, rfl, rfl, rfl, rfl, rfl, rfl, rfl, rfl, rfl, rfl, trivial⟩), ?_⟩
                    refine VC.plan_done rfl (VC.quiet_of [] rfl trivial) rfl ?_
                    exact hin57 _ _  H
                  · replace H := H.2
                    obtain ⟨h104, c105⟩ : ∃ h104, h104 = h69.push (.cells #[.int .i64 p1, .int .u64 p2] 57 (0, 0)) := ⟨_, rfl⟩
                    replace H := H h104 c105
                    refine VC.stepAt_of rfl rfl (VC.op_buildSlice' (cs := #[.int .i64 p1, .int .u64 p2]) (vs := [(0, .agg #[.int .i64 p1, .int .u64 p2])]) (zl := [.int .i64 0, .int .u64 0]) ri_52 (by decide) rfl rfl (VC.parts_cons rfl VC.parts_nil) rfl c105 ?_)
                    obtain ⟨c106, H⟩ := H
                    obtain ⟨c107, H⟩ := H
                    refine ⟨[(Value.pointer (some ⟨b8, o9, none⟩)), (Value.slice (some ⟨h24.size, 0, none⟩) 0 0), (Value.pointer (some ⟨b8, o9, none⟩)), (Value.pointer (some ⟨b8, o9, none⟩)), (Value.pointer (some ⟨b8, o9 + 2, none⟩)), (Value.slice x59a x59n x59c), (Value.int .i64 x20), (Value.slice (cutA x59a 0 x59c 2) n61 x59c), undef, (Value.int .i64 p1), (Value.int .u64 p2), (Value.agg #[.int .i64 p1, .int .u64 p2]), (Value.slice (some ⟨h69.size, 0, none⟩) 1 1), undef, (Value.pointer (some ⟨b8, o9, none⟩)), (Value.pointer (some ⟨b8, o9, none⟩)), (Value.pointer (some ⟨b8, o9 + 2, none⟩)), (Value.slice x64a x64n x64c), (Value.int .i64 x20), (Value.slice (cutA x64a n66 x64c 2) (x64n - n66) (x64c - n66)), undef, undef, undef, undef], rfl, (VC.agree_of [0, 1, 2, 3, 4, 5, 6, 7, 9, 10, 11, 14, 15, 16, 17, 18, 19] rfl ⟨rfl, rfl, rfl, rfl, rfl, rfl, rfl, rfl, rfl, rfl, rfl, rfl, rfl, rfl, rfl, rfl, rfl, trivial⟩), ?_⟩
                    refine VC.plan_step [8] (by decide) rfl (VC.quiet_of [0, 2, 3, 4, 5, 6, 7, 14, 15, 16, 17, 18, 19] rfl ⟨VC.stepAt_of rfl rfl (VC.op_move (v := .pointer (some ⟨b8, o9, none⟩)) a23_1 ⟨rfl, rfl⟩), VC.stepAt_of rfl rfl (VC.op_move (v := .pointer (some ⟨b8, o9, none⟩)) a23_1 ⟨rfl, rfl⟩), VC.stepAt_of rfl rfl (VC.op_nilCheck rfl ⟨rfl, rfl⟩), VC.stepAt_of rfl rfl (VC.op_fieldAddr rfl fo_54_2 ⟨rfl, rfl⟩), VC.stepAt_of rfl rfl (VC.op_load1 rfl ag_52 c106 ⟨rfl, rfl⟩), VC.stepAt_of rfl rfl (VC.op_move (v := .int .i64 x20) a23_0 ⟨rfl, rfl⟩), VC.stepAt_of rfl rfl (VC.op_slice_sl ei_52 rfl rfl ⟨_, Eq.trans rfl (congrArg (Value.int .i64) c62)⟩ rfl (.inl rfl) c63.1 c63.2.1 c63.2.2 ⟨rfl, rfl⟩), VC.stepAt_of rfl rfl (VC.op_move (v := .pointer (some ⟨b8, o9, none⟩)) a23_1 ⟨rfl, rfl⟩), VC.stepAt_of rfl rfl (VC.op_nilCheck rfl ⟨rfl, rfl⟩), VC.stepAt_of rfl rfl (VC.op_fieldAddr rfl fo_54_2 ⟨rfl, rfl⟩), VC.stepAt_of rfl rfl (VC.op_load1 rfl ag_52 c107 ⟨rfl, rfl⟩), VC.stepAt_of rfl rfl (VC.op_move (v := .int .i64 x20) a23_0 ⟨rfl, rfl⟩), VC.stepAt_of rfl rfl (VC.op_slice_sl ei_52 rfl ⟨_, Eq.trans rfl (congrArg (Value.int .i64) c67)⟩ rfl rfl (.inl rfl) c68.1 c68.2.1 c68.2.2 ⟨rfl, rfl⟩), trivial⟩) rfl ⟨?_, trivial⟩
                    obtain ⟨m108, ns109, c110, H⟩ := H
                    refine VC.stepAt_of rfl rfl (VC.op_append' (src := (Value.slice (cutA x59a 0 x59c 2) n61 x59c)) (news := ns109) ri_52 (.inl ⟨_, un_52⟩) rfl rfl c110.1 c110.2 (VC.appH.mono H ?_))
                    clear H
                    intro a112 n113 q114 h115 H
                    obtain ⟨c116, H⟩ := H
                    refine ⟨[(Value.pointer (some ⟨b8, o9, none⟩)), (Value.slice (some ⟨h24.size, 0, none⟩) 0 0), (Value.pointer (some ⟨b8, o9, none⟩)), (Value.pointer (some ⟨b8, o9, none⟩)), (Value.pointer (some ⟨b8, o9 + 2, none⟩)), (Value.slice x59a x59n x59c), (Value.int .i64 x20), (Value.slice (cutA x59a 0 x59c 2) n61 x59c), (Value.slice a112 n113 q114), (Value.int .i64 p1), (Value.int .u64 p2), (Value.agg #[.int .i64 p1, .int .u64 p2]), (Value.slice (some ⟨h69.size, 0, none⟩) 1 1), undef, (Value.pointer (some ⟨b8, o9, none⟩)), (Value.pointer (some ⟨b8, o9, none⟩)), (Value.pointer (some ⟨b8, o9 + 2, none⟩)), (Value.slice x64a x64n x64c), (Value.int .i64 x20), (Value.slice (cutA x64a n66 x64c 2) (x64n - n66) (x64c - n66)), undef, undef, undef, undef], rfl, (VC.agree_of [0, 1, 2, 3, 4, 5, 6, 7, 9, 10, 11, 12, 14, 15, 16, 17, 18, 19] rfl ⟨rfl, rfl, rfl, rfl, rfl, rfl, rfl, rfl, rfl, rfl, rfl, rfl, rfl, rfl, rfl, rfl, rfl, rfl, trivial⟩), ?_⟩
                    refine VC.plan_step [13] (by decide) rfl (VC.quiet_of [0, 14, 15, 16, 17, 18, 19] rfl ⟨VC.stepAt_of rfl rfl (VC.op_move (v := .pointer (some ⟨b8, o9, none⟩)) a23_1 ⟨rfl, rfl⟩), VC.stepAt_of rfl rfl (VC.op_move (v := .pointer (some ⟨b8, o9, none⟩)) a23_1 ⟨rfl, rfl⟩), VC.stepAt_of rfl rfl (VC.op_nilCheck rfl ⟨rfl, rfl⟩), VC.stepAt_of rfl rfl (VC.op_fieldAddr rfl fo_54_2 ⟨rfl, rfl⟩), VC.stepAt_of rfl rfl (VC.op_load1 rfl ag_52 c116 ⟨rfl, rfl⟩), VC.stepAt_of rfl rfl (VC.op_move (v := .int .i64 x20) a23_0 ⟨rfl, rfl⟩), VC.stepAt_of rfl rfl (VC.op_slice_sl ei_52 rfl ⟨_, Eq.trans rfl (congrArg (Value.int .i64) c67)⟩ rfl rfl (.inl rfl) c68.1 c68.2.1 c68.2.2 ⟨rfl, rfl⟩), trivial⟩) rfl ⟨?_, trivial⟩
                    obtain ⟨m117, ns118, c119, H⟩ := H
                    refine VC.stepAt_of rfl rfl (VC.op_append' (src := (Value.slice (some ⟨h69.size, 0, none⟩) 1 1)) (news := ns118) ri_52 (.inl ⟨_, un_52⟩) rfl rfl c119.1 c119.2 (VC.appH.mono H ?_))
                    clear H
                    intro a121 n122 q123 h124 H
                    obtain ⟨c125, H⟩ := H
                    refine ⟨[(Value.pointer (some ⟨b8, o9, none⟩)), (Value.slice (some ⟨h24.size, 0, none⟩) 0 0), (Value.pointer (some ⟨b8, o9, none⟩)), (Value.pointer (some ⟨b8, o9, none⟩)), (Value.pointer (some ⟨b8, o9 + 2, none⟩)), (Value.slice x59a x59n x59c), (Value.int .i64 x20), (Value.slice (cutA x59a 0 x59c 2) n61 x59c), (Value.slice a112 n113 q114), (Value.int .i64 p1), (Value.int .u64 p2), (Value.agg #[.int .i64 p1, .int .u64 p2]), (Value.slice (some ⟨h69.size, 0, none⟩) 1 1), (Value.slice a121 n122 q123), (Value.pointer (some ⟨b8, o9, none⟩)), (Value.pointer (some ⟨b8, o9, none⟩)), (Value.pointer (some ⟨b8, o9 + 2, none⟩)), (Value.slice x64a x64n x64c), (Value.int .i64 x20), (Value.slice (cutA x64a n66 x64c 2) (x64n - n66) (x64c - n66)), undef, undef, undef, undef], rfl, (VC.agree_of [0, 1, 2, 3, 4, 5, 6, 7, 8, 9, 10, 11, 12, 14, 15, 16, 17, 18, 19] rfl ⟨rfl, rfl, rfl, rfl, rfl, rfl, rfl, rfl, rfl, rfl, rfl, rfl, rfl, rfl, rfl, rfl, rfl, rfl, rfl, trivial⟩), ?_⟩
                    refine VC.plan_step [20] (by decide) rfl (VC.quiet_of [0, 14, 15, 16, 17, 18, 19] rfl ⟨VC.stepAt_of rfl rfl (VC.op_move (v := .pointer (some ⟨b8, o9, none⟩)) a23_1 ⟨rfl, rfl⟩), VC.stepAt_of rfl rfl (VC.op_move (v := .pointer (some ⟨b8, o9, none⟩)) a23_1 ⟨rfl, rfl⟩), VC.stepAt_of rfl rfl (VC.op_nilCheck rfl ⟨rfl, rfl⟩), VC.stepAt_of rfl rfl (VC.op_fieldAddr rfl fo_54_2 ⟨rfl, rfl⟩), VC.stepAt_of rfl rfl (VC.op_load1 rfl ag_52 c125 ⟨rfl, rfl⟩), VC.stepAt_of rfl rfl (VC.op_move (v := .int .i64 x20) a23_0 ⟨rfl, rfl⟩), VC.stepAt_of rfl rfl (VC.op_slice_sl ei_52 rfl ⟨_, Eq.trans rfl (congrArg (Value.int .i64) c67)⟩ rfl rfl (.inl rfl) c68.1 c68.2.1 c68.2.2 ⟨rfl, rfl⟩), trivial⟩) rfl ⟨?_, trivial⟩
                    obtain ⟨m126, ns127, c128, H⟩ := H
                    refine VC.stepAt_of rfl rfl (VC.op_append' (src := (Value.slice (cutA x64a n66 x64c 2) (x64n - n66) (x64c - n66))) (news := ns127) ri_52 (.inl ⟨_, un_52⟩) rfl rfl c128.1 c128.2 (VC.appH.mono H ?_))
                    clear H
                    intro a130 n131 q132 h133 H
                    refine ⟨[(Value.pointer (some ⟨b8, o9, none⟩)), (Value.slice (some ⟨h24.size, 0, none⟩) 0 0), (Value.pointer (some ⟨b8, o9, none⟩)), (Value.pointer (some ⟨b8, o9, none⟩)), (Value.pointer (some ⟨b8, o9 + 2, none⟩)), (Value.slice x59a x59n x59c), (Value.int .i64 x20), (Value.slice (cutA x59a 0 x59c 2) n61 x59c), (Value.slice a112 n113 q114), (Value.int .i64 p1), (Value.int .u64 p2), (Value.agg #[.int .i64 p1, .int .u64 p2]), (Value.slice (some ⟨h69.size, 0, none⟩) 1 1), (Value.slice a121 n122 q123), (Value.pointer (some ⟨b8, o9, none⟩)), (Value.pointer (some ⟨b8, o9, none⟩)), (Value.pointer (some ⟨b8, o9 + 2, none⟩)), (Value.slice x64a x64n x64c), (Value.int .i64 x20), (Value.slice (cutA x64a n66 x64c 2) (x64n - n66) (x64c - n66)), (Value.slice a130 n131 q132), (Value.pointer (some ⟨b8, o9, none⟩)), (Value.pointer (some ⟨b8, o9 + 2, none⟩)), undef], rfl, (VC.agree_of [0, 1, 2, 3, 4, 5, 6, 7, 8, 9, 10, 11, 12, 13, 14, 15, 16, 17, 18, 19] rfl ⟨rfl, rfl, rfl, rfl, rfl, rfl, rfl, rfl, rfl, rfl, rfl, rfl, rfl, rfl, rfl, rfl, rfl, rfl, rfl, rfl, trivial⟩), ?_⟩
                    refine VC.plan_step [23] (by decide) rfl (VC.quiet_of [0, 21, 22] rfl ⟨VC.stepAt_of rfl rfl (VC.op_move (v := .pointer (some ⟨b8, o9, none⟩)) a23_1 ⟨rfl, rfl⟩), VC.stepAt_of rfl rfl (VC.op_nilCheck rfl ⟨rfl, rfl⟩), VC.stepAt_of rfl rfl (VC.op_fieldAddr rfl fo_54_2 ⟨rfl, rfl⟩), trivial⟩) rfl ⟨?_, trivial⟩
                    obtain ⟨h135, c134, H⟩ := H
                    refine VC.stepAt_of rfl rfl (VC.op_store (v := .slice a130 n131 q132) rfl rfl sz_52 rfl c134 ?_)
                    refine ⟨[(Value.pointer (some ⟨b8, o9, none⟩)), (Value.slice (some ⟨h24.size, 0, none⟩) 0 0), (Value.pointer (some ⟨b8, o9, none⟩)), (Value.pointer (some ⟨b8, o9, none⟩)), (Value.pointer (some ⟨b8, o9 + 2, none⟩)), (Value.slice x59a x59n x59c), (Value.int .i64 x20), (Value.slice (cutA x59a 0 x59c 2) n61 x59c), (Value.slice a112 n113 q114), (Value.int .i64 p1), (Value.int .u64 p2), (Value.agg #[.int .i64 p1, .int .u64 p2]), (Value.slice (some ⟨h69.size, 0, none⟩) 1 1), (Value.slice a121 n122 q123), (Value.pointer (some ⟨b8, o9, none⟩)), (Value.pointer (some ⟨b8, o9, none⟩)), (Value.pointer (some ⟨b8, o9 + 2, none⟩)), (Value.slice x64a x64n x64c), (Value.int .i64 x20), (Value.slice (cutA x64a n66 x64c 2) (x64n - n66) (x64c - n66)), (Value.slice a130 n131 q132), (Value.pointer (some ⟨b8, o9, none⟩)), (Value.pointer (some ⟨b8, o9 + 2, none⟩)), undef], rfl, (VC.agree_of [0, 1, 2, 3, 4, 5, 6, 7, 8, 9, 10, 11, 12, 13, 14, 15, 16, 17, 18, 19, 20, 21, 22] rfl ⟨rfl, rfl, rfl, rfl, rfl, rfl, rfl, rfl, rfl, rfl, rfl, rfl, rfl, rfl, rfl, rfl, rfl, rfl, rfl, rfl, rfl, rfl, rfl, trivial⟩), ?_⟩
                    refine VC.plan_done rfl (VC.quiet_of [] rfl trivial) rfl ?_
                    exact hin57 _ _  H
                · replace H := H.2
                  obtain ⟨h136, c137⟩ : ∃ h136, h136 = h24.push (.cells #[.int .i64 p1, .int .u64 p2] 57 (0, 0)) := ⟨_, rfl⟩
                  replace H := H h136 c137
                  refine VC.stepAt_of rfl rfl (VC.op_buildSlice' (cs := #[.int .i64 p1, .int .u64 p2]) (vs := [(0, .agg #[.int .i64 p1, .int .u64 p2])]) (zl := [.int .i64 0, .int .u64 0]) ri_52 (by decide) rfl rfl (VC.parts_cons rfl VC.parts_nil) rfl c137 ?_)
                  obtain ⟨c138, H⟩ := H
                  obtain ⟨c139, H⟩ := H
                  refine ⟨[(Value.pointer (some ⟨b8, o9, none⟩)), undef, (Value.pointer (some ⟨b8, o9, none⟩)), (Value.pointer (some ⟨b8, o9, none⟩)), (Value.pointer (some ⟨b8, o9 + 2, none⟩)), (Value.slice x59a x59n x59c), (Value.int .i64 x20), (Value.slice (cutA x59a 0 x59c 2) n61 x59c), undef, (Value.int .i64 p1), (Value.int .u64 p2), (Value.agg #[.int .i64 p1, .int .u64 p2]), (Value.slice (some ⟨h24.size, 0, none⟩) 1 1), undef, (Value.pointer (some ⟨b8, o9, none⟩)), (Value.pointer (some ⟨b8, o9, none⟩)), (Value.pointer (some ⟨b8, o9 + 2, none⟩)), (Value.slice x64a x64n x64c), (Value.int .i64 x20), (Value.slice (cutA x64a n66 x64c 2) (x64n - n66) (x64c - n66)), undef, undef, undef, undef], rfl, (VC.agree_of [0, 2, 3, 4, 5, 6, 7, 9, 10, 11, 14, 15, 16, 17, 18, 19] rfl ⟨rfl, rfl, rfl, rfl, rfl, rfl, rfl, rfl, rfl, rfl, rfl, rfl, rfl, rfl, rfl, rfl, trivial⟩), ?_⟩
                  refine VC.plan_step [1] (by decide) rfl (VC.quiet_of [0, 2, 3, 4, 5, 6, 7, 14, 15, 16, 17, 18, 19] rfl ⟨VC.stepAt_of rfl rfl (VC.op_move (v := .pointer (some ⟨b8, o9, none⟩)) a23_1 ⟨rfl, rfl⟩), VC.stepAt_of rfl rfl (VC.op_move (v := .pointer (some ⟨b8, o9, none⟩)) a23_1 ⟨rfl, rfl⟩), VC.stepAt_of rfl rfl (VC.op_nilCheck rfl ⟨rfl, rfl⟩), VC.stepAt_of rfl rfl (VC.op_fieldAddr rfl fo_54_2 ⟨rfl, rfl⟩), VC.stepAt_of rfl rfl (VC.op_load1 rfl ag_52 c138 ⟨rfl, rfl⟩), VC.stepAt_of rfl rfl (VC.op_move (v := .int .i64 x20) a23_0 ⟨rfl, rfl⟩), VC.stepAt_of rfl rfl (VC.op_slice_sl ei_52 rfl rfl ⟨_, Eq.trans rfl (congrArg (Value.int .i64) c62)⟩ rfl (.inl rfl) c63.1 c63.2.1 c63.2.2 ⟨rfl, rfl⟩), VC.stepAt_of rfl rfl (VC.op_move (v := .pointer (some ⟨b8, o9, none⟩)) a23_1 ⟨rfl, rfl⟩), VC.stepAt_of rfl rfl (VC.op_nilCheck rfl ⟨rfl, rfl⟩), VC.stepAt_of rfl rfl (VC.op_fieldAddr rfl fo_54_2 ⟨rfl, rfl⟩), VC.stepAt_of rfl rfl (VC.op_load1 rfl ag_52 c139 ⟨rfl, rfl⟩), VC.stepAt_of rfl rfl (VC.op_move (v := .int .i64 x20) a23_0 ⟨rfl, rfl⟩), VC.stepAt_of rfl rfl (VC.op_slice_sl ei_52 rfl ⟨_, Eq.trans rfl (congrArg (Value.int .i64) c67)⟩ rfl rfl (.inl rfl) c68.1 c68.2.1 c68.2.2 ⟨rfl, rfl⟩), trivial⟩) rfl ⟨?_, trivial⟩
                  obtain ⟨h140, c141⟩ : ∃ h140, h140 = h136.push (.cells #[] 57 (0, 0)) := ⟨_, rfl⟩
                  replace H := H h140 c141
                  refine VC.stepAt_of rfl rfl (VC.op_buildSlice' (cs := #[]) (vs := []) (zl := [.int .i64 0, .int .u64 0]) ri_52 (by decide) rfl rfl VC.parts_nil rfl c141 ?_)
                  obtain ⟨c142, H⟩ := H
                  obtain ⟨c143, H⟩ := H
                  refine ⟨[(Value.pointer (some ⟨b8, o9, none⟩)), (Value.slice (some ⟨h136.size, 0, none⟩) 0 0), (Value.pointer (some ⟨b8, o9, none⟩)), (Value.pointer (some ⟨b8, o9, none⟩)), (Value.pointer (some ⟨b8, o9 + 2, none⟩)), (Value.slice x59a x59n x59c), (Value.int .i64 x20), (Value.slice (cutA x59a 0 x59c 2) n61 x59c), undef, (Value.int .i64 p1), (Value.int .u64 p2), (Value.agg #[.int .i64 p1, .int .u64 p2]), (Value.slice (some ⟨h24.size, 0, none⟩) 1 1), undef, (Value.pointer (some ⟨b8, o9, none⟩)), (Value.pointer (some ⟨b8, o9, none⟩)), (Value.pointer (some ⟨b8, o9 + 2, none⟩)), (Value.slice x64a x64n x64c), (Value.int .i64 x20), (Value.slice (cutA x64a n66 x64c 2) (x64n - n66) (x64c - n66)), undef, undef, undef, undef], rfl, (VC.agree_of [0, 2, 3, 4, 5, 6, 7, 9, 10, 11, 12, 14, 15, 16, 17, 18, 19] rfl ⟨rfl, rfl, rfl, rfl, rfl, rfl, rfl, rfl, rfl, rfl, rfl, rfl, rfl, rfl, rfl, rfl, rfl, trivial⟩), ?_⟩
                  refine VC.plan_step [8] (by decide) rfl (VC.quiet_of [0, 2, 3, 4, 5, 6, 7, 14, 15, 16, 17, 18, 19] rfl ⟨VC.stepAt_of rfl rfl (VC.op_move (v := .pointer (some ⟨b8, o9, none⟩)) a23_1 ⟨rfl, rfl⟩), VC.stepAt_of rfl rfl (VC.op_move (v := .pointer (some ⟨b8, o9, none⟩)) a23_1 ⟨rfl, rfl⟩), VC.stepAt_of rfl rfl (VC.op_nilCheck rfl ⟨rfl, rfl⟩), VC.stepAt_of rfl rfl (VC.op_fieldAddr rfl fo_54_2 ⟨rfl, rfl⟩), VC.stepAt_of rfl rfl (VC.op_load1 rfl ag_52 c142 ⟨rfl, rfl⟩), VC.stepAt_of rfl rfl (VC.op_move (v := .int .i64 x20) a23_0 ⟨rfl, rfl⟩), VC.stepAt_of rfl rfl (VC.op_slice_sl ei_52 rfl rfl ⟨_, Eq.trans rfl (congrArg (Value.int .i64) c62)⟩ rfl (.inl rfl) c63.1 c63.2.1 c63.2.2 ⟨rfl, rfl⟩), VC.stepAt_of rfl rfl (VC.op_move (v := .pointer (some ⟨b8, o9, none⟩)) a23_1 ⟨rfl, rfl⟩), VC.stepAt_of rfl rfl (VC.op_nilCheck rfl ⟨rfl, rfl⟩), VC.stepAt_of rfl rfl (VC.op_fieldAddr rfl fo_54_2 ⟨rfl, rfl⟩), VC.stepAt_of rfl rfl (VC.op_load1 rfl ag_52 c143 ⟨rfl, rfl⟩), VC.stepAt_of rfl rfl (VC.op_move (v := .int .i64 x20) a23_0 ⟨rfl, rfl⟩), VC.stepAt_of rfl rfl (VC.op_slice_sl ei_52 rfl ⟨_, Eq.trans rfl (congrArg (Value.int .i64) c67)⟩ rfl rfl (.inl rfl) c68.1 c68.2.1 c68.2.2 ⟨rfl, rfl⟩), trivial⟩) rfl ⟨?_, trivial⟩
                  obtain ⟨m144, ns145, c146, H⟩ := H
                  refine VC.stepAt_of rfl rfl (VC.op_append' (src := (Value.slice (cutA x59a 0 x59c 2) n61 x59c)) (news := ns145) ri_52 (.inl ⟨_, un_52⟩) rfl rfl c146.1 c146.2 (VC.appH.mono H ?_))
                  clear H
                  intro a148 n149 q150 h151 H
                  obtain ⟨c152, H⟩ := H
                  refine ⟨[(Value.pointer (some ⟨b8, o9, none⟩)), (Value.slice (some ⟨h136.size, 0, none⟩) 0 0), (Value.pointer (some ⟨b8, o9, none⟩)), (Value.pointer (some ⟨b8, o9, none⟩)), (Value.pointer (some ⟨b8, o9 + 2, none⟩)), (Value.slice x59a x59n x59c), (Value.int .i64 x20), (Value.slice (cutA x59a 0 x59c 2) n61 x59c), (Value.slice a148 n149 q150), (Value.int .i64 p1), (Value.int .u64 p2), (Value.agg #[.int .i64 p1, .int .u64 p2]), (Value.slice (some ⟨h24.size, 0, none⟩) 1 1), undef, (Value.pointer (some ⟨b8, o9, none⟩)), (Value.pointer (some ⟨b8, o9, none⟩)), (Value.pointer (some ⟨b8, o9 + 2, none⟩)), (Value.slice x64a x64n x64c), (Value.int .i64 x20), (Value.slice (cutA x64a n66 x64c 2) (x64n - n66) (x64c - n66)), undef, undef, undef, undef], rfl, (VC.agree_of [0, 1, 2, 3, 4, 5, 6, 7, 9, 10, 11, 12, 14, 15, 16, 17, 18, 19] rfl ⟨rfl, rfl, rfl, rfl, rfl, rfl, rfl, rfl, rfl, rfl, rfl, rfl, rfl, rfl, rfl, rfl, rfl, rfl, trivial⟩), ?_⟩
                  refine VC.plan_step [13] (by decide) rfl (VC.quiet_of [0, 14, 15, 16, 17, 18, 19] rfl ⟨VC.stepAt_of rfl rfl (VC.op_move (v := .pointer (some ⟨b8, o9, none⟩)) a23_1 ⟨rfl, rfl⟩), VC.stepAt_of rfl rfl (VC.op_move (v := .pointer (some ⟨b8, o9, none⟩)) a23_1 ⟨rfl, rfl⟩), VC.stepAt_of rfl rfl (VC.op_nilCheck rfl ⟨rfl, rfl⟩), VC.stepAt_of rfl rfl (VC.op_fieldAddr rfl fo_54_2 ⟨rfl, rfl⟩), VC.stepAt_of rfl rfl (VC.op_load1 rfl ag_52 c152 ⟨rfl, rfl⟩), VC.stepAt_of rfl rfl (VC.op_move (v := .int .i64 x20) a23_0 ⟨rfl, rfl⟩), VC.stepAt_of rfl rfl (VC.op_slice_sl ei_52 rfl ⟨_, Eq.trans rfl (congrArg (Value.int .i64) c67)⟩ rfl rfl (.inl rfl) c68.1 c68.2.1 c68.2.2 ⟨rfl, rfl⟩), trivial⟩) rfl ⟨?_, trivial⟩
                  obtain ⟨m153, ns154, c155, H⟩ := H
                  refine VC.stepAt_of rfl rfl (VC.op_append' (src := (Value.slice (some ⟨h24.size, 0, none⟩) 1 1)) (news := ns154) ri_52 (.inl ⟨_, un_52⟩) rfl rfl c155.1 c155.2 (VC.appH.mono H ?_))
                  clear H
                  intro a157 n158 q159 h160 H
                  obtain ⟨c161, H⟩ := H
                  refine ⟨[(Value.pointer (some ⟨b8, o9, none⟩)), (Value.slice (some ⟨h136.size, 0, none⟩) 0 0), (Value.pointer (some ⟨b8, o9, none⟩)), (Value.pointer (some ⟨b8, o9, none⟩)), (Value.pointer (some ⟨b8, o9 + 2, none⟩)), (Value.slice x59a x59n x59c), (Value.int .i64 x20), (Value.slice (cutA x59a 0 x59c 2) n61 x59c), (Value.slice a148 n149 q150), (Value.int .i64 p1), (Value.int .u64 p2), (Value.agg #[.int .i64 p1, .int .u64 p2]), (Value.slice (some ⟨h24.size, 0, none⟩) 1 1), (Value.slice a157 n158 q159), (Value.pointer (some ⟨b8, o9, none⟩)), (Value.pointer (some ⟨b8, o9, none⟩)), (Value.pointer (some ⟨b8, o9 + 2, none⟩)), (Value.slice x64a x64n x64c), (Value.int .i64 x20), (Value.slice (cutA x64a n66 x64c 2) (x64n - n66) (x64c - n66)), undef, undef, undef, undef], rfl, (VC.agree_of [0, 1, 2, 3, 4, 5, 6, 7, 8, 9, 10, 11, 12, 14, 15, 16, 17, 18, 19] rfl ⟨rfl, rfl, rfl, rfl, rfl, rfl, rfl, rfl, rfl, rfl, rfl, rfl, rfl, rfl, rfl, rfl, rfl, rfl, rfl, trivial⟩), ?_⟩
                  refine VC.plan_step [20] (by decide) rfl (VC.quiet_of [0, 14, 15, 16, 17, 18, 19] rfl ⟨VC.stepAt_of rfl rfl (VC.op_move (v := .pointer (some ⟨b8, o9, none⟩)) a23_1 ⟨rfl, rfl⟩), VC.stepAt_of rfl rfl (VC.op_move (v := .pointer (some ⟨b8, o9, none⟩)) a23_1 ⟨rfl, rfl⟩), VC.stepAt_of rfl rfl (VC.op_nilCheck rfl ⟨rfl, rfl⟩), VC.stepAt_of rfl rfl (VC.op_fieldAddr rfl fo_54_2 ⟨rfl, rfl⟩), VC.stepAt_of rfl rfl (VC.op_load1 rfl ag_52 c161 ⟨rfl, rfl⟩), VC.stepAt_of rfl rfl (VC.op_move (v := .int .i64 x20) a23_0 ⟨rfl, rfl⟩), VC.stepAt_of rfl rfl (VC.op_slice_sl ei_52 rfl ⟨_, Eq.trans rfl (congrArg (Value.int .i64) c67)⟩ rfl rfl (.inl rfl) c68.1 c68.2.1 c68.2.2 ⟨rfl, rfl⟩), trivial⟩) rfl ⟨?_, trivial⟩
                  obtain ⟨m162, ns163, c164, H⟩ := H
                  refine VC.stepAt_of rfl rfl (VC.op_append' (src := (Value.slice (cutA x64a n66 x64c 2) (x64n - n66) (x64c - n66))) (news := ns163) ri_52 (.inl ⟨_, un_52⟩) rfl rfl c164.1 c164.2 (VC.appH.mono H ?_))
                  clear H
                  intro a166 n167 q168 h169 H
                  refine ⟨[(Value.pointer (some ⟨b8, o9, none⟩)), (Value.slice (some ⟨h136.size, 0, none⟩) 0 0), (Value.pointer (some ⟨b8, o9, none⟩)), (Value.pointer (some ⟨b8, o9, none⟩)), (Value.pointer (some ⟨b8, o9 + 2, none⟩)), (Value.slice x59a x59n x59c), (Value.int .i64 x20), (Value.slice (cutA x59a 0 x59c 2) n61 x59c), (Value.slice a148 n149 q150), (Value.int .i64 p1), (Value.int .u64 p2), (Value.agg #[.int .i64 p1, .int .u64 p2]), (Value.slice (some ⟨h24.size, 0, none⟩) 1 1), (Value.slice a157 n158 q159), (Value.pointer (some ⟨b8, o9, none⟩)), (Value.pointer (some ⟨b8, o9, none⟩)), (Value.pointer (some ⟨b8, o9 + 2, none⟩)), (Value.slice x64a x64n x64c), (Value.int .i64 x20), (Value.slice (cutA x64a n66 x64c 2) (x64n - n66) (x64c - n66)), (Value.slice a166 n167 q168), (Value.pointer (some ⟨b8, o9, none⟩)), (Value.pointer (some ⟨b8, o9 + 2, none⟩)), undef], rfl, (VC.agree_of [0, 1, 2, 3, 4, 5, 6, 7, 8, 9, 10, 11, 12, 13, 14, 15, 16, 17, 18, 19] rfl ⟨rfl, rfl, rfl, rfl, rfl, rfl, rfl, rfl, rfl, rfl, rfl, rfl, rfl, rfl, rfl, rfl, rfl, rfl, rfl, rfl, trivial⟩), ?_⟩
                  refine VC.plan_step [23] (by decide) rfl (VC.quiet_of [0, 21, 22] rfl ⟨VC.stepAt_of rfl rfl (VC.op_move (v := .pointer (some ⟨b8, o9, none⟩)) a23_1 ⟨rfl, rfl⟩), VC.stepAt_of rfl rfl (VC.op_nilCheck rfl ⟨rfl, rfl⟩), VC.stepAt_of rfl rfl (VC.op_fieldAddr rfl fo_54_2 ⟨rfl, rfl⟩), trivial⟩) rfl ⟨?_, trivial⟩
                  obtain ⟨h171, c170, H⟩ := H
                  refine VC.stepAt_of rfl rfl (VC.op_store (v := .slice a166 n167 q168) rfl rfl sz_52 rfl c170 ?_)
                  refine ⟨[(Value.pointer (some ⟨b8, o9, none⟩)), (Value.slice (some ⟨h136.size, 0, none⟩) 0 0), (Value.pointer (some ⟨b8, o9, none⟩)), (Value.pointer (some ⟨b8, o9, none⟩)), (Value.pointer (some ⟨b8, o9 + 2, none⟩)), (Value.slice x59a x59n x59c), (Value.int .i64 x20), (Value.slice (cutA x59a 0 x59c 2) n61 x59c), (Value.slice a148 n149 q150), (Value.int .i64 p1), (Value.int .u64 p2), (Value.agg #[.int .i64 p1, .int .u64 p2]), (Value.slice (some ⟨h24.size, 0, none⟩) 1 1), (Value.slice a157 n158 q159), (Value.pointer (some ⟨b8, o9, none⟩)), (Value.pointer (some ⟨b8, o9, none⟩)), (Value.pointer (some ⟨b8, o9 + 2, none⟩)), (Value.slice x64a x64n x64c), (Value.int .i64 x20), (Value.slice (cutA x64a n66 x64c 2) (x64n - n66) (x64c - n66)), (Value.slice a166 n167 q168), (Value.pointer (some ⟨b8, o9, none⟩)), (Value.pointer (some ⟨b8, o9 + 2, none⟩)), undef], rfl, (VC.agree_of [0, 1, 2, 3, 4, 5, 6, 7, 8, 9, 10, 11, 12, 13, 14, 15, 16, 17, 18, 19, 20, 21, 22] rfl ⟨rfl, rfl, rfl, rfl, rfl, rfl, rfl, rfl, rfl, rfl, rfl, rfl, rfl, rfl, rfl, rfl, rfl, rfl, rfl, rfl, rfl, rfl, rfl, trivial⟩), ?_⟩
                  refine VC.plan_done rfl (VC.quiet_of [] rfl trivial) rfl ?_
                  exact hin57 _ _  H
              · clear H
                intro f h58 hf
                have hJ := hout57 _ _ hf
                have H := HR h58 hJ
                refine VC.wpf_seq ?_
                refine VC.wpf_region rfl ?_
                refine VC.wpL_op (VC.op_assign (v := .int .i64 0) rfl ?_)
                refine VC.wpL_nil ?_
                refine VC.wpf_ret ?_
                exact VC.ret_leaf (VC.resV_tmp rfl VC.resV_nil) H

/-- (*linchpinref19.Book).Answer -/
def F_linchpinref19_Book_Answer (p0 : Option Addr) (p1 : Int) (p2 : Int) (p3 : Bool) (K : Int → Heap → Prop) (h : Heap) : Prop :=
  (((decide (p2 < 0)) || (decide (255 < p2))) = true → K 1 h) ∧ (((decide (p2 < 0)) || (decide (255 < p2))) = false → (p3 = true → CallsH PR fn_linchpinref19_Book_out #[.pointer p0, .int .i64 p1, .int .i64 2, .int .i64 2] h (fun v h3 => ∃ (x5 : Int), v = (Value.int .i64 x5) ∧ K x5 h3)) ∧ (p3 = false → CallsH PR fn_linchpinref19_Book_out #[.pointer p0, .int .i64 p1, .int .i64 1, .int .i64 p2] h (fun v h6 => ∃ (x8 : Int), v = (Value.int .i64 x8) ∧ K x8 h6)))
theorem F_linchpinref19_Book_Answer_ok (p0 : Option Addr) (p1 : Int) (p2 : Int) (p3 : Bool) (R : Value → Heap → Prop) (h : Heap) (H : F_linchpinref19_Book_Answer p0 p1 p2 p3 (fun r0 h' => R (Value.int .i64 r0) h') h) : CallsH PR fn_linchpinref19_Book_Answer #[.pointer p0, .int .i64 p1, .int .i64 p2, .bool p3] h R := by
  refine VC.callsH_of (args := [.pointer p0, .int .i64 p1, .int .i64 p2, .bool p3]) Try.func17 rfl rfl ?_
  intro f hf
  have e0 := hf 0 _ rfl
  have e1 := hf 1 _ rfl
  have e2 := hf 2 _ rfl
  have e3 := hf 3 _ rfl
  clear hf
  unfold F_linchpinref19_Book_Answer at H
  refine VC.wpf_seq ?_
  refine VC.wpf_region rfl ?_
  refine VC.wpL_op (VC.op_assign (v := .int .i64 0) rfl ?_)
  refine VC.wpL_nil ?_
  refine VC.wpf_seq ?_
  refine VC.wpf_seq ?_
  refine VC.wpf_region rfl ?_
  refine VC.wpL_op (VC.op_move (v := .int .i64 p2) e2 ?_)
  refine VC.wpL_op (VC.op_lss rfl rfl ?_)
  refine VC.wpL_op (VC.op_move (v := .bool (decide (p2 < 0))) rfl ?_)
  refine VC.wpL_gq (b := !(decide (p2 < 0))) (VC.guard_slot rfl rfl) (Value.int .i64 p2) (fun hb N hN => VC.op_move (v := .int .i64 p2) e2 hN) ?_
  refine VC.wpL_gq (b := !(decide (p2 < 0))) (VC.guard_slot rfl rfl) (Value.bool (decide (255 < p2))) (fun hb N hN => VC.op_gtr (VC.gv hb) rfl hN) ?_
  refine VC.wpL_op (VC.op_pick_or rfl rfl (fun hq => (VC.gv (VC.not_of_false hq))) ?_)
  refine VC.wpL_nil ?_
  refine VC.wpf_cond ((decide (p2 < 0)) || (decide (255 < p2))) rfl ?_ ?_
  · intro hb
    replace H := H.1 hb
    refine VC.wpf_seq ?_
    refine VC.wpf_region rfl ?_
    refine VC.wpL_op (VC.op_assign (v := .int .i64 1) rfl ?_)
    refine VC.wpL_nil ?_
    refine VC.wpf_ret ?_
    exact VC.ret_leaf (VC.resV_tmp rfl VC.resV_nil) H
  · intro hb
    replace H := H.2 hb
    refine VC.wpf_skip ?_
    refine VC.wpf_seq ?_
    refine VC.wpf_seq ?_
    refine VC.wpf_region rfl ?_
    refine VC.wpL_op (VC.op_move (v := .bool p3) e3 ?_)
    refine VC.wpL_nil ?_
    refine VC.wpf_cond (p3) rfl ?_ ?_
    · intro hb
      replace H := H.1 hb
      refine VC.wpf_seq ?_
      refine VC.wpf_region rfl ?_
      refine VC.wpL_op (VC.op_move (v := .pointer p0) e0 ?_)
      refine VC.wpL_op (VC.op_move (v := .int .i64 p1) e1 ?_)
      refine VC.wpL_op (VC.op_call (vs := [.pointer p0, .int .i64 p1, .int .i64 2, .int .i64 2]) en_30 (VC.args_cons rfl (VC.args_cons rfl (VC.args_cons rfl (VC.args_cons rfl VC.args_nil)))) (CallsH.mono H ?_))
      clear H
      rintro _ h3 ⟨x5, rfl, H⟩
      refine VC.wpL_op (VC.op_assign (v := .int .i64 x5) rfl ?_)
      refine VC.wpL_nil ?_
      refine VC.wpf_ret ?_
      exact VC.ret_leaf (VC.resV_tmp rfl VC.resV_nil) H
    · intro hb
      replace H := H.2 hb
      refine VC.wpf_skip ?_
      refine VC.wpf_seq ?_
      refine VC.wpf_region rfl ?_
      refine VC.wpL_op (VC.op_move (v := .pointer p0) e0 ?_)
      refine VC.wpL_op (VC.op_move (v := .int .i64 p1) e1 ?_)
      refine VC.wpL_op (VC.op_move (v := .int .i64 p2) e2 ?_)
      refine VC.wpL_op (VC.op_call (vs := [.pointer p0, .int .i64 p1, .int .i64 1, .int .i64 p2]) en_30 (VC.args_cons rfl (VC.args_cons rfl (VC.args_cons rfl (VC.args_cons rfl VC.args_nil)))) (CallsH.mono H ?_))
      clear H
      rintro _ h6 ⟨x8, rfl, H⟩
      refine VC.wpL_op (VC.op_assign (v := .int .i64 x8) rfl ?_)
      refine VC.wpL_nil ?_
      refine VC.wpf_ret ?_
      exact VC.ret_leaf (VC.resV_tmp rfl VC.resV_nil) H

/-- (*linchpinref19.Book).Cancel -/
def F_linchpinref19_Book_Cancel (p0 : Option Addr) (p1 : Int) (K : Int → Heap → Prop) (h : Heap) : Prop :=
  CallsH PR fn_linchpinref19_Book_out #[.pointer p0, .int .i64 p1, .int .i64 2, .int .i64 3] h (fun v h1 => ∃ (x3 : Int), v = (Value.int .i64 x3) ∧ K x3 h1)
theorem F_linchpinref19_Book_Cancel_ok (p0 : Option Addr) (p1 : Int) (R : Value → Heap → Prop) (h : Heap) (H : F_linchpinref19_Book_Cancel p0 p1 (fun r0 h' => R (Value.int .i64 r0) h') h) : CallsH PR fn_linchpinref19_Book_Cancel #[.pointer p0, .int .i64 p1] h R := by
  refine VC.callsH_of (args := [.pointer p0, .int .i64 p1]) Try.func18 rfl rfl ?_
  intro f hf
  have e0 := hf 0 _ rfl
  have e1 := hf 1 _ rfl
  clear hf
  unfold F_linchpinref19_Book_Cancel at H
  refine VC.wpf_seq ?_
  refine VC.wpf_region rfl ?_
  refine VC.wpL_op (VC.op_assign (v := .int .i64 0) rfl ?_)
  refine VC.wpL_nil ?_
  refine VC.wpf_seq ?_
  refine VC.wpf_region rfl ?_
  refine VC.wpL_op (VC.op_move (v := .pointer p0) e0 ?_)
  refine VC.wpL_op (VC.op_move (v := .int .i64 p1) e1 ?_)
  refine VC.wpL_op (VC.op_call (vs := [.pointer p0, .int .i64 p1, .int .i64 2, .int .i64 3]) en_30 (VC.args_cons rfl (VC.args_cons rfl (VC.args_cons rfl (VC.args_cons rfl VC.args_nil)))) (CallsH.mono H ?_))
  clear H
  rintro _ h1 ⟨x3, rfl, H⟩
  refine VC.wpL_op (VC.op_assign (v := .int .i64 x3) rfl ?_)
  refine VC.wpL_nil ?_
  refine VC.wpf_ret ?_
  exact VC.ret_leaf (VC.resV_tmp rfl VC.resV_nil) H

def cert_linchpinref19_Book_Go_6 : VC.Cert := ⟨[[], [0], [0, 1], [0, 1, 2], [0, 1, 2, 3], [0, 1, 2, 3, 4], [0, 1, 2, 3, 4, 5], [0, 1, 2, 3, 4, 5, 6], [0, 1, 2, 3, 4, 5, 6, 7], [0, 1, 2, 3, 4, 5, 6, 7, 8], [0, 1, 2, 3, 4, 5, 6, 7, 8, 9], [0, 1, 2, 3, 4, 5, 6, 7, 8, 9, 10], [0, 1, 2, 3, 4, 5, 6, 7, 8, 9, 10, 11], [0, 1, 2, 3, 4, 5, 6, 7, 8, 9, 10, 11, 12], [0, 1, 2, 3, 4, 5, 6], [0, 1, 2, 3, 4, 5, 6, 14], [0, 1, 2, 3, 4, 5, 6, 14, 15], [0, 1, 2, 3, 4, 5, 6, 14, 15, 16], [0, 1, 2, 3, 4, 5, 6, 7, 8, 9, 10, 11, 12, 13, 14, 15, 16, 17], [0, 1, 2, 3, 4, 5, 6], [0, 1, 2, 3, 4, 5, 6, 7, 8, 9, 10, 11, 12, 13, 14, 15, 16, 17, 18, 19], [0, 1, 2, 3, 4, 5, 6, 7, 8, 9, 10, 11, 12, 13, 14, 15, 16, 17, 18, 19, 20]], [false, false, false, false, false, false, false, false, false, false, false, false, false, false, false, false, false, false, false, false, false, false]⟩
/-- (*linchpinref19.Book).Go -/
def F_linchpinref19_Book_Go (p0 : Option Addr) (p1 : Int) (K : Option Addr → Nat → Nat → Int → Heap → Prop) (h : Heap) : Prop :=
  (4611686018427387904 ≤ p1 → K none 0 0 2 h) ∧ ((¬ (4611686018427387904 ≤ p1)) → ∃ (b2 : Nat) (o3 : Nat), p0 = some ⟨b2, o3, none⟩ ∧ ∃ (x5 : Int), cellH h b2 (o3 + 1) = some (.int .u64 x5) ∧ (p1 < x5 → K none 0 0 1 h) ∧ ((¬ (p1 < x5)) → ∃ (h9 : Heap), stCells b2 h (o3 + 1) [.int .u64 p1] = some h9 ∧ ∃ (I10 : Heap → Prop) (mu11 : Heap → Nat), I10 h9 ∧ ∀ (h13 : Heap), I10 h13 → ∃ (x14a : Option Addr) (x14n : Nat) (x14c : Nat), cellH h13 b2 (o3 + 2) = some (.slice x14a x14n x14c) ∧ ∃ (x17a : Option Addr) (x17n : Nat) (x17c : Nat), ((0 < (x14n : Int)) → cellH h13 b2 (o3 + 2) = some (.slice x17a x17n x17c)) ∧ ∃ (b20 : Nat) (o21 : Nat), ((0 < (x14n : Int)) → x17a = some ⟨b20, o21, none⟩) ∧ ((0 < (x14n : Int)) → 0 ≤ (0 : Int) ∧ (0 : Int) < (x17n : Int)) ∧ ∃ (x23 : Int), ((0 < (x14n : Int)) → cellH h13 b20 (o21 + 1) = some (.int .u64 x23)) ∧ ∃ (x25 : Int), ((0 < (x14n : Int)) → cellH h13 b2 o3 = some (.int .u64 x25)) ∧ (((decide (0 < (x14n : Int))) && (decide ((IntKind.u64.wrap (x23 - x25)) ≤ p1))) = true → ∃ (x29a : Option Addr) (x29n : Nat) (x29c : Nat), cellH h13 b2 (o3 + 2) = some (.slice x29a x29n x29c) ∧ ∃ (b32 : Nat) (o33 : Nat), x29a = some ⟨b32, o33, none⟩ ∧ (0 ≤ (0 : Int) ∧ (0 : Int) < (x29n : Int)) ∧ ∃ (x35 : Int), cellH h13 b32 o33 = some (.int .i64 x35) ∧ CallsH PR fn_linchpinref19_Book_out #[.pointer (some ⟨b2, o3, none⟩), .int .i64 x35, .int .i64 2, .int .i64 1] h13 (fun v h37 => ∃ (x39 : Int), v = (Value.int .i64 x39) ∧ (I10 h37 ∧ mu11 h37 < mu11 h13))) ∧ (((decide (0 < (x14n : Int))) && (decide ((IntKind.u64.wrap (x23 - x25)) ≤ p1))) = false → ∃ (x40a : Option Addr) (x40n : Nat) (x40c : Nat), cellH h13 b2 (o3 + 3) = some (.slice x40a x40n x40c) ∧ ∃ (h43 : Heap), stCells b2 h13 (o3 + 3) [.slice none 0 0] = some h43 ∧ K x40a x40n x40c 0 h43)))
theorem F_linchpinref19_Book_Go_ok (p0 : Option Addr) (p1 : Int) (R : Value → Heap → Prop) (h : Heap) (H : F_linchpinref19_Book_Go p0 p1 (fun r0a r0n r0c r1 h' => R (Value.tuple #[.slice r0a r0n r0c, .int .i64 r1]) h') h) : CallsH PR fn_linchpinref19_Book_Go #[.pointer p0, .int .u64 p1] h R := by
  refine VC.callsH_of (args := [.pointer p0, .int .u64 p1]) Try.func19 rfl rfl ?_
  intro f hf
  have e0 := hf 0 _ rfl
  have e1 := hf 1 _ rfl
  clear hf
  unfold F_linchpinref19_Book_Go at H
  refine VC.wpf_seq ?_
  refine VC.wpf_region rfl ?_
  refine VC.wpL_op (VC.op_assign (v := .slice none 0 0) rfl ?_)
  refine VC.wpL_op (VC.op_assign (v := .int .i64 0) rfl ?_)
  refine VC.wpL_nil ?_
  refine VC.wpf_seq ?_
  refine VC.wpf_seq ?_
  refine VC.wpf_region rfl ?_
  refine VC.wpL_op (VC.op_move (v := .int .u64 p1) e1 ?_)
  refine VC.wpL_op (VC.op_geq rfl rfl ?_)
  refine VC.wpL_nil ?_
  refine VC.wpf_cond (decide (4611686018427387904 ≤ p1)) rfl ?_ ?_
  · intro hb
    replace H := H.1 (of_decide_eq_true hb)
    refine VC.wpf_seq ?_
    refine VC.wpf_region rfl ?_
    refine VC.wpL_op (VC.op_assign (v := .slice none 0 0) rfl ?_)
    refine VC.wpL_op (VC.op_assign (v := .int .i64 2) rfl ?_)
    refine VC.wpL_nil ?_
    refine VC.wpf_ret ?_
    exact VC.ret_leaf (VC.resV_tmp rfl (VC.resV_tmp rfl VC.resV_nil)) H
  · intro hb
    replace H := H.2 (of_decide_eq_false hb)
    refine VC.wpf_skip ?_
    refine VC.wpf_seq ?_
    refine VC.wpf_seq ?_
    refine VC.wpf_region rfl ?_
    refine VC.wpL_op (VC.op_move (v := .int .u64 p1) e1 ?_)
    refine VC.wpL_op (VC.op_move (v := .pointer p0) e0 ?_)
    obtain ⟨b2, o3, rfl, H⟩ := H
    refine VC.wpL_op (VC.op_nilCheck rfl ?_)
    refine VC.wpL_op (VC.op_fieldAddr rfl fo_54_1 ?_)
    obtain ⟨x5, c6, H⟩ := H
    refine VC.wpL_op (VC.op_load1 rfl ag_29 c6 ?_)
    refine VC.wpL_op (VC.op_lss rfl rfl ?_)
    refine VC.wpL_nil ?_
    refine VC.wpf_cond (decide (p1 < x5)) rfl ?_ ?_
    · intro hb
      replace H := H.1 (of_decide_eq_true hb)
      refine VC.wpf_seq ?_
      refine VC.wpf_region rfl ?_
      refine VC.wpL_op (VC.op_assign (v := .slice none 0 0) rfl ?_)
      refine VC.wpL_op (VC.op_assign (v := .int .i64 1) rfl ?_)
      refine VC.wpL_nil ?_
      refine VC.wpf_ret ?_
      exact VC.ret_leaf (VC.resV_tmp rfl (VC.resV_tmp rfl VC.resV_nil)) H
    · intro hb
      replace H := H.2 (of_decide_eq_false hb)
      refine VC.wpf_skip ?_
      refine VC.wpf_seq ?_
      refine VC.wpf_region rfl ?_
      refine VC.wpL_op (VC.op_move (v := .pointer (some ⟨b2, o3, none⟩)) e0 ?_)
      refine VC.wpL_op (VC.op_move (v := .int .u64 p1) e1 ?_)
      refine VC.wpL_op (VC.op_nilCheck rfl ?_)
      refine VC.wpL_op (VC.op_fieldAddr rfl fo_54_1 ?_)
      obtain ⟨h9, c8, H⟩ := H
      refine VC.wpL_op (VC.op_store (v := .int .u64 p1) rfl rfl sz_29 rfl c8 ?_)
      refine VC.wpL_nil ?_
      refine VC.wpf_seq ?_
      refine VC.wpf_block ?_
      obtain ⟨I10, mu11, hI, H⟩ := H
      obtain ⟨I12, mu12, hin12, hout12, hmu12⟩ : ∃ (J12 : VC.Fr → Heap → Prop) (m : VC.Fr → Heap → Nat), (∀ f hz, f 0 = .pointer (some ⟨b2, o3, none⟩) → f 1 = .int .u64 p1 → I10 hz → J12 f hz) ∧ (∀ f hz, J12 f hz → f 0 = .pointer (some ⟨b2, o3, none⟩) ∧ f 1 = .int .u64 p1 ∧ I10 hz) ∧ (∀ f hz, m f hz = mu11 hz) := ⟨fun f hz => f 0 = .pointer (some ⟨b2, o3, none⟩) ∧ f 1 = .int .u64 p1 ∧ I10 hz, fun f hz => mu11 hz, fun _ _ a0 a1 z => ⟨a0, a1, z⟩, fun _ _ hz => hz, fun f hz  => by rfl⟩
      refine VC.wpf_loop I12 mu12 (hin12 _ _ e0 e1 hI) ?_
      clear hI
      intro f h13 hf
      obtain ⟨a12_0, a12_1, hJ⟩ := hout12 _ _ hf
      replace H := H h13 hJ
      refine VC.wpf_seq ?_
      refine VC.wpf_seq ?_
      obtain ⟨x14a, x14n, x14c, c15, H⟩ := H
      obtain ⟨x17a, x17n, x17c, c18, H⟩ := H
      obtain ⟨b20, o21, c22, H⟩ := H
      obtain ⟨c19, H⟩ := H
      obtain ⟨x23, c24, H⟩ := H
      obtain ⟨x25, c26, H⟩ := H
      refine VC.wpf_draw cert_linchpinref19_Book_Go_6 0 [(Value.pointer (some ⟨b2, o3, none⟩)), (Value.pointer (some ⟨b2, o3, none⟩)), (Value.pointer (some ⟨b2, o3 + 2, none⟩)), (Value.slice x14a x14n x14c), (Value.int .i64 (x14n : Int)), (Value.bool (decide (0 < (x14n : Int)))), (Value.bool (decide (0 < (x14n : Int)))), (bif decide (0 < (x14n : Int)) then (Value.pointer (some ⟨b2, o3, none⟩)) else undef), (bif decide (0 < (x14n : Int)) then (Value.pointer (some ⟨b2, o3, none⟩)) else undef), (bif decide (0 < (x14n : Int)) then (Value.pointer (some ⟨b2, o3 + 2, none⟩)) else undef), (bif decide (0 < (x14n : Int)) then (Value.slice x17a x17n x17c) else undef), (bif decide (0 < (x14n : Int)) then (Value.pointer (some ⟨b20, o21, none⟩)) else undef), (bif decide (0 < (x14n : Int)) then (Value.pointer (some ⟨b20, o21 + 1, none⟩)) else undef), (bif decide (0 < (x14n : Int)) then (Value.int .u64 x23) else undef), (bif decide (0 < (x14n : Int)) then (Value.pointer (some ⟨b2, o3, none⟩)) else undef), (bif decide (0 < (x14n : Int)) then (Value.pointer (some ⟨b2, o3, none⟩)) else undef), (bif decide (0 < (x14n : Int)) then (Value.pointer (some ⟨b2, o3, none⟩)) else undef), (bif decide (0 < (x14n : Int)) then (Value.int .u64 x25) else undef), (bif decide (0 < (x14n : Int)) then (Value.int .u64 (IntKind.u64.wrap (x23 - x25))) else undef), (bif decide (0 < (x14n : Int)) then (Value.int .u64 p1) else undef), (bif decide (0 < (x14n : Int)) then (Value.bool (decide ((IntKind.u64.wrap (x23 - x25)) ≤ p1))) else undef), (Value.bool ((decide (0 < (x14n : Int))) && (decide ((IntKind.u64.wrap (x23 - x25)) ≤ p1))))] (by kernel_rfl) rfl mixed_PR ?_
      refine VC.plan_done rfl (VC.quiet_of [0, 1, 2, 3, 4, 5, 6, 7, 8, 9, 10, 11, 12, 13, 14, 15, 16, 17, 18, 19, 20, 21] rfl ⟨VC.stepAt_of rfl rfl (VC.op_move (v := .pointer (some ⟨b2, o3, none⟩)) a12_0 ⟨rfl, rfl⟩), VC.stepAt_of rfl rfl (VC.op_nilCheck rfl ⟨rfl, rfl⟩), VC.stepAt_of rfl rfl (VC.op_fieldAddr rfl fo_54_2 ⟨rfl, rfl⟩), VC.stepAt_of rfl rfl (VC.op_load1 rfl ag_52 c15 ⟨rfl, rfl⟩), VC.stepAt_of rfl rfl (VC.op_len_slice rfl un_52 ⟨rfl, rfl⟩), VC.stepAt_of rfl rfl (VC.op_gtr rfl rfl ⟨rfl, rfl⟩), VC.stepAt_of rfl rfl (VC.op_move (v := .bool (decide (0 < (x14n : Int)))) rfl ⟨rfl, rfl⟩), VC.stepAt_if (b := decide (0 < (x14n : Int))) rfl rfl (VC.guard_slot rfl rfl) (fun hb => VC.op_move (v := .pointer (some ⟨b2, o3, none⟩)) a12_0 ⟨VC.bif_true hb, rfl⟩) (fun hb => ⟨VC.bif_false hb, rfl⟩), VC.stepAt_if (b := decide (0 < (x14n : Int))) rfl rfl (VC.guard_slot rfl rfl) (fun hb => VC.op_nilCheck (VC.gv hb) ⟨VC.bif_true hb, rfl⟩) (fun hb => ⟨VC.bif_false hb, rfl⟩), VC.stepAt_if (b := decide (0 < (x14n : Int))) rfl rfl (VC.guard_slot rfl rfl) (fun hb => VC.op_fieldAddr (VC.gv hb) fo_54_2 ⟨VC.bif_true hb, rfl⟩) (fun hb => ⟨VC.bif_false hb, rfl⟩), VC.stepAt_if (b := decide (0 < (x14n : Int))) rfl rfl (VC.guard_slot rfl rfl) (fun hb => VC.op_load1 (VC.gv hb) ag_52 (c18 (of_decide_eq_true hb)) ⟨VC.bif_true hb, rfl⟩) (fun hb => ⟨VC.bif_false hb, rfl⟩), VC.stepAt_if (b := decide (0 < (x14n : Int))) rfl rfl (VC.guard_slot rfl rfl) (fun hb => VC.op_indexAddr_slice (Eq.trans (VC.gv hb) (congrArg (fun a => Value.slice a x17n x17c) (c22 (of_decide_eq_true hb)))) rfl ei_52 (c19 (of_decide_eq_true hb)) ⟨VC.bif_true hb, rfl⟩) (fun hb => ⟨VC.bif_false hb, rfl⟩), VC.stepAt_if (b := decide (0 < (x14n : Int))) rfl rfl (VC.guard_slot rfl rfl) (fun hb => VC.op_fieldAddr (VC.gv hb) fo_57_1 ⟨VC.bif_true hb, rfl⟩) (fun hb => ⟨VC.bif_false hb, rfl⟩), VC.stepAt_if (b := decide (0 < (x14n : Int))) rfl rfl (VC.guard_slot rfl rfl) (fun hb => VC.op_load1 (VC.gv hb) ag_29 (c24 (of_decide_eq_true hb)) ⟨VC.bif_true hb, rfl⟩) (fun hb => ⟨VC.bif_false hb, rfl⟩), VC.stepAt_if (b := decide (0 < (x14n : Int))) rfl rfl (VC.guard_slot rfl rfl) (fun hb => VC.op_move (v := .pointer (some ⟨b2, o3, none⟩)) a12_0 ⟨VC.bif_true hb, rfl⟩) (fun hb => ⟨VC.bif_false hb, rfl⟩), VC.stepAt_if (b := decide (0 < (x14n : Int))) rfl rfl (VC.guard_slot rfl rfl) (fun hb => VC.op_nilCheck (VC.gv hb) ⟨VC.bif_true hb, rfl⟩) (fun hb => ⟨VC.bif_false hb, rfl⟩), VC.stepAt_if (b := decide (0 < (x14n : Int))) rfl rfl (VC.guard_slot rfl rfl) (fun hb => VC.op_fieldAddr (VC.gv hb) fo_54_0 ⟨VC.bif_true hb, rfl⟩) (fun hb => ⟨VC.bif_false hb, rfl⟩), VC.stepAt_if (b := decide (0 < (x14n : Int))) rfl rfl (VC.guard_slot rfl rfl) (fun hb => VC.op_load1 (VC.gv hb) ag_29 (c26 (of_decide_eq_true hb)) ⟨VC.bif_true hb, rfl⟩) (fun hb => ⟨VC.bif_false hb, rfl⟩), VC.stepAt_if (b := decide (0 < (x14n : Int))) rfl rfl (VC.guard_slot rfl rfl) (fun hb => VC.op_sub (VC.gv hb) (VC.gv hb) rfl ⟨VC.bif_true hb, rfl⟩) (fun hb => ⟨VC.bif_false hb, rfl⟩), VC.stepAt_if (b := decide (0 < (x14n : Int))) rfl rfl (VC.guard_slot rfl rfl) (fun hb => VC.op_move (v := .int .u64 p1) a12_1 ⟨VC.bif_true hb, rfl⟩) (fun hb => ⟨VC.bif_false hb, rfl⟩), VC.stepAt_if (b := decide (0 < (x14n : Int))) rfl rfl (VC.guard_slot rfl rfl) (fun hb => VC.op_leq (VC.gv hb) (VC.gv hb) ⟨VC.bif_true hb, rfl⟩) (fun hb => ⟨VC.bif_false hb, rfl⟩), VC.stepAt_of rfl rfl (VC.op_pick_and rfl (fun hq => (VC.gv hq)) rfl ⟨rfl, rfl⟩), trivial⟩) rfl ?_
      refine VC.wpf_cond ((decide (0 < (x14n : Int))) && (decide ((IntKind.u64.wrap (x23 - x25)) ≤ p1))) rfl ?_ ?_
      · intro hb
        replace H := H.1 hb
        refine VC.wpf_skip ?_
        refine VC.wpf_block ?_
        refine VC.wpf_region rfl ?_
        refine VC.wpL_op (VC.op_move (v := .pointer (some ⟨b2, o3, none⟩)) a12_0 ?_)
        refine VC.wpL_op (VC.op_move (v := .pointer (some ⟨b2, o3, none⟩)) a12_0 ?_)
        refine VC.wpL_op (VC.op_nilCheck rfl ?_)
        refine VC.wpL_op (VC.op_fieldAddr rfl fo_54_2 ?_)
        obtain ⟨x29a, x29n, x29c, c30, H⟩ := H
        refine VC.wpL_op (VC.op_load1 rfl ag_52 c30 ?_)
        obtain ⟨b32, o33, rfl, H⟩ := H
        obtain ⟨c31, H⟩ := H
        refine VC.wpL_op (VC.op_indexAddr_slice rfl rfl ei_52 c31 ?_)
        refine VC.wpL_op (VC.op_fieldAddr rfl fo_57_0 ?_)
        obtain ⟨x35, c36, H⟩ := H
        refine VC.wpL_op (VC.op_load1 rfl ag_3 c36 ?_)
        refine VC.wpL_op (VC.op_call (vs := [.pointer (some ⟨b2, o3, none⟩), .int .i64 x35, .int .i64 2, .int .i64 1]) en_30 (VC.args_cons rfl (VC.args_cons rfl (VC.args_cons rfl (VC.args_cons rfl VC.args_nil)))) (CallsH.mono H ?_))
        clear H
        rintro _ h37 ⟨x39, rfl, H⟩
        refine VC.wpL_nil ?_
        exact And.intro (hin12 _ _ a12_0 a12_1 H.1) (lt_of (hmu12 _ _ ) (hmu12 _ _ ) H.2)
      · intro hb
        replace H := H.2 hb
        refine VC.wpf_exit ?_
        refine VC.wpf_seq ?_
        refine VC.wpf_region rfl ?_
        refine VC.wpL_op (VC.op_move (v := .pointer (some ⟨b2, o3, none⟩)) a12_0 ?_)
        refine VC.wpL_op (VC.op_nilCheck rfl ?_)
        refine VC.wpL_op (VC.op_fieldAddr rfl fo_54_3 ?_)
        obtain ⟨x40a, x40n, x40c, c41, H⟩ := H
        refine VC.wpL_op (VC.op_load1 rfl ag_32 c41 ?_)
        refine VC.wpL_op (VC.op_assign (v := .slice x40a x40n x40c) rfl ?_)
        refine VC.wpL_nil ?_
        refine VC.wpf_seq ?_
        refine VC.wpf_region rfl ?_
        refine VC.wpL_op (VC.op_move (v := .pointer (some ⟨b2, o3, none⟩)) a12_0 ?_)
        refine VC.wpL_op (VC.op_nilCheck rfl ?_)
        refine VC.wpL_op (VC.op_fieldAddr rfl fo_54_3 ?_)
        obtain ⟨h43, c42, H⟩ := H
        refine VC.wpL_op (VC.op_store (v := .slice none 0 0) rfl rfl sz_32 rfl c42 ?_)
        refine VC.wpL_nil ?_
        refine VC.wpf_seq ?_
        refine VC.wpf_region rfl ?_
        refine VC.wpL_op (VC.op_move (v := .slice x40a x40n x40c) rfl ?_)
        refine VC.wpL_op (VC.op_assign (v := .slice x40a x40n x40c) rfl ?_)
        refine VC.wpL_op (VC.op_assign (v := .int .i64 0) rfl ?_)
        refine VC.wpL_nil ?_
        refine VC.wpf_ret ?_
        exact VC.ret_leaf (VC.resV_tmp rfl (VC.resV_tmp rfl VC.resV_nil)) H

/-- (*linchpinref19.Book).find -/
def F_linchpinref19_Book_find (p0 : Option Addr) (p1 : Int) (K : Int → Heap → Prop) (h : Heap) : Prop :=
  ∃ (I2 : Int → Heap → Prop) (mu3 : Int → Heap → Nat), I2 0 h ∧ ∀ (x1 : Int) (h5 : Heap), I2 x1 h5 → ∃ (b6 : Nat) (o7 : Nat), p0 = some ⟨b6, o7, none⟩ ∧ ∃ (x9a : Option Addr) (x9n : Nat) (x9c : Nat), cellH h5 b6 (o7 + 2) = some (.slice x9a x9n x9c) ∧ (x1 < (x9n : Int) → ∃ (x12a : Option Addr) (x12n : Nat) (x12c : Nat), cellH h5 b6 (o7 + 2) = some (.slice x12a x12n x12c) ∧ ∃ (b15 : Nat) (o16 : Nat), x12a = some ⟨b15, o16, none⟩ ∧ (0 ≤ x1 ∧ x1 < (x12n : Int)) ∧ ∃ (x18 : Int), cellH h5 b15 (o16 + x1.toNat * 2) = some (.int .i64 x18) ∧ (x18 = p1 → K x1 h5) ∧ ((¬ (x18 = p1)) → (-9223372036854775808 ≤ x1 + 1 ∧ x1 + 1 < 9223372036854775808) ∧ (I2 (x1 + 1) h5 ∧ mu3 (x1 + 1) h5 < mu3 x1 h5))) ∧ ((¬ (x1 < (x9n : Int))) → K (-1) h5)
theorem F_linchpinref19_Book_find_ok (p0 : Option Addr) (p1 : Int) (R : Value → Heap → Prop) (h : Heap) (H : F_linchpinref19_Book_find p0 p1 (fun r0 h' => R (Value.int .i64 r0) h') h) : CallsH PR fn_linchpinref19_Book_find #[.pointer p0, .int .i64 p1] h R := by
  refine VC.callsH_of (args := [.pointer p0, .int .i64 p1]) Try.func29 rfl rfl ?_
  intro f hf
  have e0 := hf 0 _ rfl
  have e1 := hf 1 _ rfl
  clear hf
  unfold F_linchpinref19_Book_find at H
  refine VC.wpf_seq ?_
  refine VC.wpf_region rfl ?_
  refine VC.wpL_op (VC.op_assign (v := .int .i64 0) rfl ?_)
  refine VC.wpL_nil ?_
  refine VC.wpf_seq ?_
  refine VC.wpf_seq ?_
  refine VC.wpf_region rfl ?_
  refine VC.wpL_op (VC.op_assign (v := .int .i64 0) rfl ?_)
  refine VC.wpL_nil ?_
  refine VC.wpf_block ?_
  obtain ⟨I2, mu3, hI, H⟩ := H
  obtain ⟨I4, mu4, hin4, hout4, hmu4⟩ : ∃ (J4 : VC.Fr → Heap → Prop) (m : VC.Fr → Heap → Nat), (∀ f hz (x1 : Int), f 5 = .int .i64 x1 → f 0 = .pointer p0 → f 1 = .int .i64 p1 → I2 x1 hz → J4 f hz) ∧ (∀ f hz, J4 f hz → ∃ (x1 : Int), f 5 = .int .i64 x1 ∧ f 0 = .pointer p0 ∧ f 1 = .int .i64 p1 ∧ I2 x1 hz) ∧ (∀ f hz (x1 : Int), f 5 = .int .i64 x1 → m f hz = mu3 x1 hz) := ⟨fun f hz => ∃ (x1 : Int), f 5 = .int .i64 x1 ∧ f 0 = .pointer p0 ∧ f 1 = .int .i64 p1 ∧ I2 x1 hz, fun f hz => mu3 (VC.dInt (f 5)) hz, fun _ _ x1 a0 a1 a2 z => ⟨x1, a0, a1, a2, z⟩, fun _ _ hz => hz, fun f hz x1 a0 => by simp only [a0]; rfl⟩
  refine VC.wpf_loop I4 mu4 (hin4 _ _ _ rfl e0 e1 hI) ?_
  clear hI
  intro f h5 hf
  obtain ⟨x1, a4_0, a4_1, a4_2, hJ⟩ := hout4 _ _ hf
  replace H := H x1 h5 hJ
  refine VC.wpf_seq ?_
  refine VC.wpf_seq ?_
  refine VC.wpf_region rfl ?_
  refine VC.wpL_op (VC.op_move (v := .int .i64 x1) a4_0 ?_)
  refine VC.wpL_op (VC.op_move (v := .pointer p0) a4_1 ?_)
  obtain ⟨b6, o7, rfl, H⟩ := H
  refine VC.wpL_op (VC.op_nilCheck rfl ?_)
  refine VC.wpL_op (VC.op_fieldAddr rfl fo_54_2 ?_)
  obtain ⟨x9a, x9n, x9c, c10, H⟩ := H
  refine VC.wpL_op (VC.op_load1 rfl ag_52 c10 ?_)
  refine VC.wpL_op (VC.op_len_slice rfl un_52 ?_)
  refine VC.wpL_op (VC.op_lss rfl rfl ?_)
  refine VC.wpL_nil ?_
  refine VC.wpf_cond (decide (x1 < (x9n : Int))) rfl ?_ ?_
  · intro hb
    replace H := H.1 (of_decide_eq_true hb)
    refine VC.wpf_skip ?_
    refine VC.wpf_seq ?_
    refine VC.wpf_block ?_
    refine VC.wpf_seq ?_
    refine VC.wpf_region rfl ?_
    refine VC.wpL_op (VC.op_move (v := .pointer (some ⟨b6, o7, none⟩)) a4_1 ?_)
    refine VC.wpL_op (VC.op_nilCheck rfl ?_)
    refine VC.wpL_op (VC.op_fieldAddr rfl fo_54_2 ?_)
    obtain ⟨x12a, x12n, x12c, c13, H⟩ := H
    refine VC.wpL_op (VC.op_load1 rfl ag_52 c13 ?_)
    refine VC.wpL_op (VC.op_move (v := .int .i64 x1) a4_0 ?_)
    obtain ⟨b15, o16, rfl, H⟩ := H
    obtain ⟨c14, H⟩ := H
    refine VC.wpL_op (VC.op_indexAddr_slice rfl rfl ei_52 c14 ?_)
    refine VC.wpL_op (VC.op_fieldAddr rfl fo_57_0 ?_)
    obtain ⟨x18, c19, H⟩ := H
    refine VC.wpL_op (VC.op_load1 rfl ag_3 c19 ?_)
    refine VC.wpL_op (VC.op_move (v := .int .i64 p1) a4_2 ?_)
    refine VC.wpL_op (VC.op_eql rfl rfl ?_)
    refine VC.wpL_nil ?_
    refine VC.wpf_cond (decide (x18 = p1)) rfl ?_ ?_
    · intro hb
      replace H := H.1 (of_decide_eq_true hb)
      refine VC.wpf_seq ?_
      refine VC.wpf_region rfl ?_
      refine VC.wpL_op (VC.op_move (v := .int .i64 x1) a4_0 ?_)
      refine VC.wpL_op (VC.op_assign (v := .int .i64 x1) rfl ?_)
      refine VC.wpL_nil ?_
      refine VC.wpf_ret ?_
      exact VC.ret_leaf (VC.resV_tmp rfl VC.resV_nil) H
    · intro hb
      replace H := H.2 (of_decide_eq_false hb)
      refine VC.wpf_skip ?_
      refine VC.wpf_region rfl ?_
      refine VC.wpL_op (VC.op_move (v := .int .i64 x1) a4_0 ?_)
      obtain ⟨c21, H⟩ := H
      refine VC.wpL_op (VC.op_add rfl rfl (VC.wrap_i64 c21) ?_)
      refine VC.wpL_op (VC.op_assign (v := .int .i64 (x1 + 1)) rfl ?_)
      refine VC.wpL_nil ?_
      exact And.intro (hin4 _ _ _ rfl a4_1 a4_2 H.1) (lt_of (hmu4 _ _ _ rfl) (hmu4 _ _ _ a4_0) H.2)
  · intro hb
    replace H := H.2 (of_decide_eq_false hb)
    refine VC.wpf_exit ?_
    refine VC.wpf_seq ?_
    refine VC.wpf_region rfl ?_
    refine VC.wpL_op (VC.op_assign (v := .int .i64 (-1)) rfl ?_)
    refine VC.wpL_nil ?_
    refine VC.wpf_ret ?_
    exact VC.ret_leaf (VC.resV_tmp rfl VC.resV_nil) H

def cert_linchpinref19_Book_out_4 : VC.Cert := ⟨[[], [], [], [2], [2, 3], [2, 3, 4], [], [2, 3, 4, 5, 6], [1, 2, 3, 4, 5, 6, 7], [], [9], [9, 10], [9, 10, 11], [], [13], [9, 10, 11, 12, 13, 14], [1, 2, 3, 4, 5, 6, 7, 8, 9, 10, 11, 12, 13, 14, 15], [0, 1, 2, 3, 4, 5, 6, 7, 8, 9, 10, 11, 12, 13, 14, 15, 16], [0, 1, 2, 3, 4, 5, 6, 7, 8, 9, 10, 11, 12, 13, 14, 15, 16, 17], [0, 1, 2, 3, 4, 5, 6, 7, 8, 9, 10, 11, 12, 13, 14, 15, 16, 17, 18]], [false, true, false, false, false, false, false, false, true, false, false, false, false, false, false, false, true, false, false, true]⟩
/-- (*linchpinref19.Book).out -/
def F_linchpinref19_Book_out (p0 : Option Addr) (p1 : Int) (p2 : Int) (p3 : Int) (K : Int → Heap → Prop) (h : Heap) : Prop :=
  CallsH PR fn_linchpinref19_Book_find #[.pointer p0, .int .i64 p1] h (fun v h1 => ∃ (x3 : Int), v = (Value.int .i64 x3) ∧ (x3 < 0 → K 6 h1) ∧ ((¬ (x3 < 0)) → ∃ (b5 : Nat) (o6 : Nat), p0 = some ⟨b5, o6, none⟩ ∧ ∃ (x8a : Option Addr) (x8n : Nat) (x8c : Nat), cellH h1 b5 (o6 + 2) = some (.slice x8a x8n x8c) ∧ ∃ (n10 : Nat), x3 = (n10 : Int) ∧ (0 ≤ n10 ∧ n10 ≤ x8c ∧ x8c ≤ x8c) ∧ ∃ (x13a : Option Addr) (x13n : Nat) (x13c : Nat), cellH h1 b5 (o6 + 2) = some (.slice x13a x13n x13c) ∧ (-9223372036854775808 ≤ x3 + 1 ∧ x3 + 1 < 9223372036854775808) ∧ ∃ (n16 : Nat), x3 + 1 = (n16 : Int) ∧ (n16 ≤ x13n ∧ x13n ≤ x13c ∧ x13c ≤ x13c) ∧ ∀ (h19 : Heap), h19 = h1.push (.cells #[] 57 (0, 0)) → cellH h19 b5 (o6 + 2) = some (Value.slice x8a x8n x8c) ∧ cellH h19 b5 (o6 + 2) = some (Value.slice x13a x13n x13c) ∧ ∃ (m23 : Nat) (ns24 : List Value), (lenH (Value.slice (cutA x8a 0 x8c 2) n10 x8c) = some m23 ∧ firstH h19 2 m23 (Value.slice (cutA x8a 0 x8c 2) n10 x8c) = some ns24) ∧ VC.appH 57 2 16 (Value.agg #[.int .i64 0, .int .u64 0]) (some ⟨h1.size, 0, none⟩) 0 0 m23 ns24 h19 (fun a27 n28 q29 h30 => cellH h30 b5 (o6 + 2) = some (Value.slice x13a x13n x13c) ∧ ∃ (m32 : Nat) (ns33 : List Value), (lenH (Value.slice (cutA x13a n16 x13c 2) (x13n - n16) (x13c - n16)) = some m32 ∧ firstH h30 2 m32 (Value.slice (cutA x13a n16 x13c 2) (x13n - n16) (x13c - n16)) = some ns33) ∧ VC.appH 57 2 16 (Value.agg #[.int .i64 0, .int .u64 0]) a27 n28 q29 m32 ns33 h30 (fun a36 n37 q38 h39 => ∃ (h41 : Heap), stCells b5 h39 (o6 + 2) [.slice a36 n37 q38] = some h41 ∧ ∃ (x42a : Option Addr) (x42n : Nat) (x42c : Nat), cellH h41 b5 (o6 + 3) = some (.slice x42a x42n x42c) ∧ ∀ (h44 : Heap), h44 = h41.push (.cells #[.int .i64 p1, .int .i64 p2, .int .i64 p3] 36 (0, 0)) → VC.appH 36 3 24 (Value.agg #[.int .i64 0, .int .i64 0, .int .i64 0]) x42a x42n x42c 1 ([.int .i64 p1, .int .i64 p2, .int .i64 p3]) h44 (fun a50 n51 q52 h53 => ∃ (h55 : Heap), stCells b5 h53 (o6 + 3) [.slice a50 n51 q52] = some h55 ∧ K 0 h55)))))
theorem F_linchpinref19_Book_out_ok (p0 : Option Addr) (p1 : Int) (p2 : Int) (p3 : Int) (R : Value → Heap → Prop) (h : Heap) (H : F_linchpinref19_Book_out p0 p1 p2 p3 (fun r0 h' => R (Value.int .i64 r0) h') h) : CallsH PR fn_linchpinref19_Book_out #[.pointer p0, .int .i64 p1, .int .i64 p2, .int .i64 p3] h R := by
  refine VC.callsH_of (args := [.pointer p0, .int .i64 p1, .int .i64 p2, .int .i64 p3]) Try.func30 rfl rfl ?_
  intro f hf
  have e0 := hf 0 _ rfl
  have e1 := hf 1 _ rfl
  have e2 := hf 2 _ rfl
  have e3 := hf 3 _ rfl
  clear hf
  unfold F_linchpinref19_Book_out at H
  refine VC.wpf_seq ?_
  refine VC.wpf_region rfl ?_
  refine VC.wpL_op (VC.op_assign (v := .int .i64 0) rfl ?_)
  refine VC.wpL_nil ?_
  refine VC.wpf_seq ?_
  refine VC.wpf_region rfl ?_
  refine VC.wpL_op (VC.op_move (v := .pointer p0) e0 ?_)
  refine VC.wpL_op (VC.op_move (v := .int .i64 p1) e1 ?_)
  refine VC.wpL_op (VC.op_call (vs := [.pointer p0, .int .i64 p1]) en_29 (VC.args_cons rfl (VC.args_cons rfl VC.args_nil)) (CallsH.mono H ?_))
  clear H
  rintro _ h1 ⟨x3, rfl, H⟩
  refine VC.wpL_op (VC.op_assign (v := .int .i64 x3) rfl ?_)
  refine VC.wpL_nil ?_
  refine VC.wpf_seq ?_
  refine VC.wpf_seq ?_
  refine VC.wpf_region rfl ?_
  refine VC.wpL_op (VC.op_move (v := .int .i64 x3) rfl ?_)
  refine VC.wpL_op (VC.op_lss rfl rfl ?_)
  refine VC.wpL_nil ?_
  refine VC.wpf_cond (decide (x3 < 0)) rfl ?_ ?_
  · intro hb
    replace H := H.1 (of_decide_eq_true hb)
    refine VC.wpf_seq ?_
    refine VC.wpf_region rfl ?_
    refine VC.wpL_op (VC.op_assign (v := .int .i64 6) rfl ?_)
    refine VC.wpL_nil ?_
    refine VC.wpf_ret ?_
    exact VC.ret_leaf (VC.resV_tmp rfl VC.resV_nil) H
  · intro hb
    replace H := H.2 (of_decide_eq_false hb)
    refine VC.wpf_skip ?_
    refine VC.wpf_seq ?_
    obtain ⟨b5, o6, rfl, H⟩ := H
    obtain ⟨x8a, x8n, x8c, c9, H⟩ := H
    obtain ⟨n10, c11, H⟩ := H
    obtain ⟨c12, H⟩ := H
    obtain ⟨x13a, x13n, x13c, c14, H⟩ := H
    obtain ⟨c15, H⟩ := H
    obtain ⟨n16, c17, H⟩ := H
    obtain ⟨c18, H⟩ := H
    refine VC.wpf_draw cert_linchpinref19_Book_out_4 4 [(Value.pointer (some ⟨b5, o6, none⟩)), undef, (Value.pointer (some ⟨b5, o6, none⟩)), (Value.pointer (some ⟨b5, o6, none⟩)), (Value.pointer (some ⟨b5, o6 + 2, none⟩)), (Value.slice x8a x8n x8c), (Value.int .i64 x3), (Value.slice (cutA x8a 0 x8c 2) n10 x8c), undef, (Value.pointer (some ⟨b5, o6, none⟩)), (Value.pointer (some ⟨b5, o6, none⟩)), (Value.pointer (some ⟨b5, o6 + 2, none⟩)), (Value.slice x13a x13n x13c), (Value.int .i64 x3), (Value.int .i64 (x3 + 1)), (Value.slice (cutA x13a n16 x13c 2) (x13n - n16) (x13c - n16)), undef, undef, undef, undef] (by kernel_rfl) rfl mixed_PR ?_
    refine VC.plan_step [1] (by decide) rfl (VC.quiet_of [0, 2, 3, 4, 5, 6, 7, 9, 10, 11, 12, 13, 14, 15] rfl ⟨VC.stepAt_of rfl rfl (VC.op_move (v := .pointer (some ⟨b5, o6, none⟩)) e0 ⟨rfl, rfl⟩), VC.stepAt_of rfl rfl (VC.op_move (v := .pointer (some ⟨b5, o6, none⟩)) e0 ⟨rfl, rfl⟩), VC.stepAt_of rfl rfl (VC.op_nilCheck rfl ⟨rfl, rfl⟩), VC.stepAt_of rfl rfl (VC.op_fieldAddr rfl fo_54_2 ⟨rfl, rfl⟩), VC.stepAt_of rfl rfl (VC.op_load1 rfl ag_52 c9 ⟨rfl, rfl⟩), VC.stepAt_of rfl rfl (VC.op_move (v := .int .i64 x3) rfl ⟨rfl, rfl⟩), VC.stepAt_of rfl rfl (VC.op_slice_sl ei_52 rfl rfl ⟨_, Eq.trans rfl (congrArg (Value.int .i64) c11)⟩ rfl (.inl rfl) c12.1 c12.2.1 c12.2.2 ⟨rfl, rfl⟩), VC.stepAt_of rfl rfl (VC.op_move (v := .pointer (some ⟨b5, o6, none⟩)) e0 ⟨rfl, rfl⟩), VC.stepAt_of rfl rfl (VC.op_nilCheck rfl ⟨rfl, rfl⟩), VC.stepAt_of rfl rfl (VC.op_fieldAddr rfl fo_54_2 ⟨rfl, rfl⟩), VC.stepAt_of rfl rfl (VC.op_load1 rfl ag_52 c14 ⟨rfl, rfl⟩), VC.stepAt_of rfl rfl (VC.op_move (v := .int .i64 x3) rfl ⟨rfl, rfl⟩), VC.stepAt_of rfl rfl (VC.op_add rfl rfl (VC.wrap_i64 c15) ⟨rfl, rfl⟩), VC.stepAt_of rfl rfl (VC.op_slice_sl ei_52 rfl ⟨_, Eq.trans rfl (congrArg (Value.int .i64) c17)⟩ rfl rfl (.inl rfl) c18.1 c18.2.1 c18.2.2 ⟨rfl, rfl⟩), trivial⟩) rfl ⟨?_, trivial⟩
    obtain ⟨h19, c20⟩ : ∃ h19, h19 = h1.push (.cells #[] 57 (0, 0)) := ⟨_, rfl⟩
    replace H := H h19 c20
    refine VC.stepAt_of rfl rfl (VC.op_buildSlice' (cs := #[]) (vs := []) (zl := [.int .i64 0, .int .u64 0]) ri_52 (by decide) rfl rfl VC.parts_nil rfl c20 ?_)
    obtain ⟨c21, H⟩ := H
    obtain ⟨c22, H⟩ := H
    refine ⟨[(Value.pointer (some ⟨b5, o6, none⟩)), (Value.slice (some ⟨h1.size, 0, none⟩) 0 0), (Value.pointer (some ⟨b5, o6, none⟩)), (Value.pointer (some ⟨b5, o6, none⟩)), (Value.pointer (some ⟨b5, o6 + 2, none⟩)), (Value.slice x8a x8n x8c), (Value.int .i64 x3), (Value.slice (cutA x8a 0 x8c 2) n10 x8c), undef, (Value.pointer (some ⟨b5, o6, none⟩)), (Value.pointer (some ⟨b5, o6, none⟩)), (Value.pointer (some ⟨b5, o6 + 2, none⟩)), (Value.slice x13a x13n x13c), (Value.int .i64 x3), (Value.int .i64 (x3 + 1)), (Value.slice (cutA x13a n16 x13c 2) (x13n - n16) (x13c - n16)), undef, undef, undef, undef], rfl, (VC.agree_of [0, 2, 3, 4, 5, 6, 7, 9, 10, 11, 12, 13, 14, 15] rfl ⟨rfl, rfl, rfl, rfl, rfl, rfl, rfl, rfl, rfl, rfl, rfl, rfl, rfl, rfl, trivial⟩), ?_⟩
    refine VC.plan_step [8] (by decide) rfl (VC.quiet_of [0, 2, 3, 4, 5, 6, 7, 9, 10, 11, 12, 13, 14, 15] rfl ⟨VC.stepAt_of rfl rfl (VC.op_move (v := .pointer (some ⟨b5, o6, none⟩)) e0 ⟨rfl, rfl⟩), VC.stepAt_of rfl rfl (VC.op_move (v := .pointer (some ⟨b5, o6, none⟩)) e0 ⟨rfl, rfl⟩), VC.stepAt_of rfl rfl (VC.op_nilCheck rfl ⟨rfl, rfl⟩), VC.stepAt_of rfl rfl (VC.op_fieldAddr rfl fo_54_2 ⟨rfl, rfl⟩), VC.stepAt_of rfl rfl (VC.op_load1 rfl ag_52 c21 ⟨rfl, rfl⟩), VC.stepAt_of rfl rfl (VC.op_move (v := .int .i64 x3) rfl ⟨rfl, rfl⟩), VC.stepAt_of rfl rfl (VC.op_slice_sl ei_52 rfl rfl ⟨_, Eq.trans rfl (congrArg (Value.int .i64) c11)⟩ rfl (.inl rfl) c12.1 c12.2.1 c12.2.2 ⟨rfl, rfl⟩), VC.stepAt_of rfl rfl (VC.op_move (v := .pointer (some ⟨b5, o6, none⟩)) e0 ⟨rfl, rfl⟩), VC.stepAt_of rfl rfl (VC.op_nilCheck rfl ⟨rfl, rfl⟩), VC.stepAt_of rfl rfl (VC.op_fieldAddr rfl fo_54_2 ⟨rfl, rfl⟩), VC.stepAt_of rfl rfl (VC.op_load1 rfl ag_52 c22 ⟨rfl, rfl⟩), VC.stepAt_of rfl rfl (VC.op_move (v := .int .i64 x3) rfl ⟨rfl, rfl⟩), VC.stepAt_of rfl rfl (VC.op_add rfl rfl (VC.wrap_i64 c15) ⟨rfl, rfl⟩), VC.stepAt_of rfl rfl (VC.op_slice_sl ei_52 rfl ⟨_, Eq.trans rfl (congrArg (Value.int .i64) c17)⟩ rfl rfl (.inl rfl) c18.1 c18.2.1 c18.2.2 ⟨rfl, rfl⟩), trivial⟩) rfl ⟨?_, trivial⟩
    obtain ⟨m23, ns24, c25, H⟩ := H
    refine VC.stepAt_of rfl rfl (VC.op_append' (src := (Value.slice (cutA x8a 0 x8c 2) n10 x8c)) (news := ns24) ri_52 (.inl ⟨_, un_52⟩) rfl rfl c25.1 c25.2 (VC.appH.mono H ?_))
    clear H
    intro a27 n28 q29 h30 H
    obtain ⟨c31, H⟩ := H
    refine ⟨[(Value.pointer (some ⟨b5, o6, none⟩)), (Value.slice (some ⟨h1.size, 0, none⟩) 0 0), (Value.pointer (some ⟨b5, o6, none⟩)), (Value.pointer (some ⟨b5, o6, none⟩)), (Value.pointer (some ⟨b5, o6 + 2, none⟩)), (Value.slice x8a x8n x8c), (Value.int .i64 x3), (Value.slice (cutA x8a 0 x8c 2) n10 x8c), (Value.slice a27 n28 q29), (Value.pointer (some ⟨b5, o6, none⟩)), (Value.pointer (some ⟨b5, o6, none⟩)), (Value.pointer (some ⟨b5, o6 + 2, none⟩)), (Value.slice x13a x13n x13c), (Value.int .i64 x3), (Value.int .i64 (x3 + 1)), (Value.slice (cutA x13a n16 x13c 2) (x13n - n16) (x13c - n16)), undef, undef, undef, undef], rfl, (VC.agree_of [0, 1, 2, 3, 4, 5, 6, 7, 9, 10, 11, 12, 13, 14, 15] rfl ⟨rfl, rfl, rfl, rfl, rfl, rfl, rfl, rfl, rfl, rfl, rfl, rfl, rfl, rfl, rfl, trivial⟩), ?_⟩
    refine VC.plan_step [16] (by decide) rfl (VC.quiet_of [0, 9, 10, 11, 12, 13, 14, 15] rfl ⟨VC.stepAt_of rfl rfl (VC.op_move (v := .pointer (some ⟨b5, o6, none⟩)) e0 ⟨rfl, rfl⟩), VC.stepAt_of rfl rfl (VC.op_move (v := .pointer (some ⟨b5, o6, none⟩)) e0 ⟨rfl, rfl⟩), VC.stepAt_of rfl rfl (VC.op_nilCheck rfl ⟨rfl, rfl⟩), VC.stepAt_of rfl rfl (VC.op_fieldAddr rfl fo_54_2 ⟨rfl, rfl⟩), VC.stepAt_of rfl rfl (VC.op_load1 rfl ag_52 c31 ⟨rfl, rfl⟩), VC.stepAt_of rfl rfl (VC.op_move (v := .int .i64 x3) rfl ⟨rfl, rfl⟩), VC.stepAt_of rfl rfl (VC.op_add rfl rfl (VC.wrap_i64 c15) ⟨rfl, rfl⟩), VC.stepAt_of rfl rfl (VC.op_slice_sl ei_52 rfl ⟨_, Eq.trans rfl (congrArg (Value.int .i64) c17)⟩ rfl rfl (.inl rfl) c18.1 c18.2.1 c18.2.2 ⟨rfl, rfl⟩), trivial⟩) rfl ⟨?_, trivial⟩
    obtain ⟨m32, ns33, c34, H⟩ := H
    refine VC.stepAt_of rfl rfl (VC.op_append' (src := (Value.slice (cutA x13a n16 x13c 2) (x13n - n16) (x13c - n16))) (news := ns33) ri_52 (.inl ⟨_, un_52⟩) rfl rfl c34.1 c34.2 (VC.appH.mono H ?_))
    clear H
    intro a36 n37 q38 h39 H
    refine ⟨[(Value.pointer (some ⟨b5, o6, none⟩)), (Value.slice (some ⟨h1.size, 0, none⟩) 0 0), (Value.pointer (some ⟨b5, o6, none⟩)), (Value.pointer (some ⟨b5, o6, none⟩)), (Value.pointer (some ⟨b5, o6 + 2, none⟩)), (Value.slice x8a x8n x8c), (Value.int .i64 x3), (Value.slice (cutA x8a 0 x8c 2) n10 x8c), (Value.slice a27 n28 q29), (Value.pointer (some ⟨b5, o6, none⟩)), (Value.pointer (some ⟨b5, o6, none⟩)), (Value.pointer (some ⟨b5, o6 + 2, none⟩)), (Value.slice x13a x13n x13c), (Value.int .i64 x3), (Value.int .i64 (x3 + 1)), (Value.slice (cutA x13a n16 x13c 2) (x13n - n16) (x13c - n16)), (Value.slice a36 n37 q38), (Value.pointer (some ⟨b5, o6, none⟩)), (Value.pointer (some ⟨b5, o6 + 2, none⟩)), undef], rfl, (VC.agree_of [0, 1, 2, 3, 4, 5, 6, 7, 8, 9, 10, 11, 12, 13, 14, 15] rfl ⟨rfl, rfl, rfl, rfl, rfl, rfl, rfl, rfl, rfl, rfl, rfl, rfl, rfl, rfl, rfl, rfl, trivial⟩), ?_⟩
    refine VC.plan_step [19] (by decide) rfl (VC.quiet_of [0, 17, 18] rfl ⟨VC.stepAt_of rfl rfl (VC.op_move (v := .pointer (some ⟨b5, o6, none⟩)) e0 ⟨rfl, rfl⟩), VC.stepAt_of rfl rfl (VC.op_nilCheck rfl ⟨rfl, rfl⟩), VC.stepAt_of rfl rfl (VC.op_fieldAddr rfl fo_54_2 ⟨rfl, rfl⟩), trivial⟩) rfl ⟨?_, trivial⟩
    obtain ⟨h41, c40, H⟩ := H
    refine VC.stepAt_of rfl rfl (VC.op_store (v := .slice a36 n37 q38) rfl rfl sz_52 rfl c40 ?_)
    refine ⟨[(Value.pointer (some ⟨b5, o6, none⟩)), (Value.slice (some ⟨h1.size, 0, none⟩) 0 0), (Value.pointer (some ⟨b5, o6, none⟩)), (Value.pointer (some ⟨b5, o6, none⟩)), (Value.pointer (some ⟨b5, o6 + 2, none⟩)), (Value.slice x8a x8n x8c), (Value.int .i64 x3), (Value.slice (cutA x8a 0 x8c 2) n10 x8c), (Value.slice a27 n28 q29), (Value.pointer (some ⟨b5, o6, none⟩)), (Value.pointer (some ⟨b5, o6, none⟩)), (Value.pointer (some ⟨b5, o6 + 2, none⟩)), (Value.slice x13a x13n x13c), (Value.int .i64 x3), (Value.int .i64 (x3 + 1)), (Value.slice (cutA x13a n16 x13c 2) (x13n - n16) (x13c - n16)), (Value.slice a36 n37 q38), (Value.pointer (some ⟨b5, o6, none⟩)), (Value.pointer (some ⟨b5, o6 + 2, none⟩)), undef], rfl, (VC.agree_of [0, 1, 2, 3, 4, 5, 6, 7, 8, 9, 10, 11, 12, 13, 14, 15, 16, 17, 18] rfl ⟨rfl, rfl, rfl, rfl, rfl, rfl, rfl, rfl, rfl, rfl, rfl, rfl, rfl, rfl, rfl, rfl, rfl, rfl, rfl, trivial⟩), ?_⟩
    refine VC.plan_done rfl (VC.quiet_of [] rfl trivial) rfl ?_
    refine VC.wpf_seq ?_
    refine VC.wpf_region rfl ?_
    refine VC.wpL_op (VC.op_move (v := .pointer (some ⟨b5, o6, none⟩)) e0 ?_)
    refine VC.wpL_op (VC.op_move (v := .pointer (some ⟨b5, o6, none⟩)) e0 ?_)
    refine VC.wpL_op (VC.op_nilCheck rfl ?_)
    refine VC.wpL_op (VC.op_fieldAddr rfl fo_54_3 ?_)
    obtain ⟨x42a, x42n, x42c, c43, H⟩ := H
    refine VC.wpL_op (VC.op_load1 rfl ag_32 c43 ?_)
    refine VC.wpL_op (VC.op_move (v := .int .i64 p1) e1 ?_)
    refine VC.wpL_op (VC.op_move (v := .int .i64 p2) e2 ?_)
    refine VC.wpL_op (VC.op_move (v := .int .i64 p3) e3 ?_)
    refine VC.wpL_op (VC.op_build' (vs := [(0, .int .i64 p1), (1, .int .i64 p2), (2, .int .i64 p3)]) (cs := #[.int .i64 p1, .int .i64 p2, .int .i64 p3]) z_36 fs_36 (VC.parts_cons rfl (VC.parts_cons rfl (VC.parts_cons rfl VC.parts_nil))) rfl ?_)
    obtain ⟨h44, c45⟩ : ∃ h44, h44 = h41.push (.cells #[.int .i64 p1, .int .i64 p2, .int .i64 p3] 36 (0, 0)) := ⟨_, rfl⟩
    replace H := H h44 c45
    refine VC.wpL_op (VC.op_buildSlice' (cs := #[.int .i64 p1, .int .i64 p2, .int .i64 p3]) (vs := [(0, .agg #[.int .i64 p1, .int .i64 p2, .int .i64 p3])]) (zl := [.int .i64 0, .int .i64 0, .int .i64 0]) ri_32 (by decide) rfl rfl (VC.parts_cons rfl VC.parts_nil) rfl c45 ?_)
    refine VC.wpL_op (VC.op_append' (src := (Value.slice (some ⟨h41.size, 0, none⟩) 1 1)) (news := [.int .i64 p1, .int .i64 p2, .int .i64 p3]) ri_32 (.inl ⟨_, un_32⟩) rfl rfl rfl (VC.first_fresh c45 rfl rfl rfl) (VC.appH.mono H ?_))
    clear H
    intro a50 n51 q52 h53 H
    refine VC.wpL_op (VC.op_nilCheck rfl ?_)
    refine VC.wpL_op (VC.op_fieldAddr rfl fo_54_3 ?_)
    obtain ⟨h55, c54, H⟩ := H
    refine VC.wpL_op (VC.op_store (v := .slice a50 n51 q52) rfl rfl sz_32 rfl c54 ?_)
    refine VC.wpL_nil ?_
    refine VC.wpf_seq ?_
    refine VC.wpf_region rfl ?_
    refine VC.wpL_op (VC.op_assign (v := .int .i64 0) rfl ?_)
    refine VC.wpL_nil ?_
    refine VC.wpf_ret ?_
    exact VC.ret_leaf (VC.resV_tmp rfl VC.resV_nil) H

def cert_linchpinref19_Same_6 : VC.Cert := ⟨[[], [], [0, 1], [0, 1, 2], [], [], [4, 5], [4, 5, 6], [0, 1, 2, 3, 4, 5, 6, 7]], [false, false, false, false, false, false, false, false, false]⟩
/-- linchpinref19.Same -/
def F_linchpinref19_Same (p0a : Option Addr) (p0n : Nat) (p0c : Nat) (p1a : Option Addr) (p1n : Nat) (p1c : Nat) (K : Bool → Heap → Prop) (h : Heap) : Prop :=
  ((¬ ((p0n : Int) = (p1n : Int))) → K false h) ∧ ((p0n : Int) = (p1n : Int) → ∃ (I3 : Int → Heap → Prop) (mu4 : Int → Heap → Nat), I3 0 h ∧ ∀ (x2 : Int) (h6 : Heap), I3 x2 h6 → (x2 < (p0n : Int) → ∃ (b9 : Nat) (o10 : Nat), p0a = some ⟨b9, o10, none⟩ ∧ (0 ≤ x2 ∧ x2 < (p0n : Int)) ∧ ∃ (x12_0 : Int) (x12_1 : Int) (x12_2 : Int), ldCells h6 b9 (o10 + x2.toNat * 3) 3 = some [.int .i64 x12_0, .int .i64 x12_1, .int .i64 x12_2] ∧ ∃ (b15 : Nat) (o16 : Nat), p1a = some ⟨b15, o16, none⟩ ∧ (0 ≤ x2 ∧ x2 < (p1n : Int)) ∧ ∃ (x18_0 : Int) (x18_1 : Int) (x18_2 : Int), ldCells h6 b15 (o16 + x2.toNat * 3) 3 = some [.int .i64 x18_0, .int .i64 x18_1, .int .i64 x18_2] ∧ (((decide (x12_0 = x18_0)) && ((decide (x12_1 = x18_1)) && ((decide (x12_2 = x18_2)) && true))) = false → K false h6) ∧ (((decide (x12_0 = x18_0)) && ((decide (x12_1 = x18_1)) && ((decide (x12_2 = x18_2)) && true))) = true → (-9223372036854775808 ≤ x2 + 1 ∧ x2 + 1 < 9223372036854775808) ∧ (I3 (x2 + 1) h6 ∧ mu4 (x2 + 1) h6 < mu4 x2 h6))) ∧ ((¬ (x2 < (p0n : Int))) → K true h6))
theorem F_linchpinref19_Same_ok (p0a : Option Addr) (p0n : Nat) (p0c : Nat) (p1a : Option Addr) (p1n : Nat) (p1c : Nat) (R : Value → Heap → Prop) (h : Heap) (H : F_linchpinref19_Same p0a p0n p0c p1a p1n p1c (fun r0 h' => R (Value.bool r0) h') h) : CallsH PR fn_linchpinref19_Same #[.slice p0a p0n p0c, .slice p1a p1n p1c] h R := by
  refine VC.callsH_of (args := [.slice p0a p0n p0c, .slice p1a p1n p1c]) Try.func20 rfl rfl ?_
  intro f hf
  have e0 := hf 0 _ rfl
  have e1 := hf 1 _ rfl
  clear hf
  unfold F_linchpinref19_Same at H
  refine VC.wpf_seq ?_
  refine VC.wpf_region rfl ?_
  refine VC.wpL_op (VC.op_assign (v := .bool false) rfl ?_)
  refine VC.wpL_nil ?_
  refine VC.wpf_seq ?_
  refine VC.wpf_seq ?_
  refine VC.wpf_region rfl ?_
  refine VC.wpL_op (VC.op_move (v := .slice p0a p0n p0c) e0 ?_)
  refine VC.wpL_op (VC.op_len_slice rfl un_32 ?_)
  refine VC.wpL_op (VC.op_move (v := .slice p1a p1n p1c) e1 ?_)
  refine VC.wpL_op (VC.op_len_slice rfl un_32 ?_)
  refine VC.wpL_op (VC.op_neq rfl rfl ?_)
  refine VC.wpL_nil ?_
  refine VC.wpf_cond (!decide ((p0n : Int) = (p1n : Int))) rfl ?_ ?_
  · intro hb
    replace H := H.1 (of_decide_eq_false (VC.of_not_true hb))
    refine VC.wpf_seq ?_
    refine VC.wpf_region rfl ?_
    refine VC.wpL_op (VC.op_assign (v := .bool false) rfl ?_)
    refine VC.wpL_nil ?_
    refine VC.wpf_ret ?_
    exact VC.ret_leaf (VC.resV_tmp rfl VC.resV_nil) H
  · intro hb
    replace H := H.2 (of_decide_eq_true (VC.of_not_false hb))
    refine VC.wpf_skip ?_
    refine VC.wpf_seq ?_
    refine VC.wpf_seq ?_
    refine VC.wpf_region rfl ?_
    refine VC.wpL_op (VC.op_assign (v := .int .i64 0) rfl ?_)
    refine VC.wpL_nil ?_
    refine VC.wpf_block ?_
    obtain ⟨I3, mu4, hI, H⟩ := H
    obtain ⟨I5, mu5, hin5, hout5, hmu5⟩ : ∃ (J5 : VC.Fr → Heap → Prop) (m : VC.Fr → Heap → Nat), (∀ f hz (x2 : Int), f 5 = .int .i64 x2 → f 0 = .slice p0a p0n p0c → f 1 = .slice p1a p1n p1c → I3 x2 hz → J5 f hz) ∧ (∀ f hz, J5 f hz → ∃ (x2 : Int), f 5 = .int .i64 x2 ∧ f 0 = .slice p0a p0n p0c ∧ f 1 = .slice p1a p1n p1c ∧ I3 x2 hz) ∧ (∀ f hz (x2 : Int), f 5 = .int .i64 x2 → m f hz = mu4 x2 hz) := ⟨fun f hz => ∃ (x2 : Int), f 5 = .int .i64 x2 ∧ f 0 = .slice p0a p0n p0c ∧ f 1 = .slice p1a p1n p1c ∧ I3 x2 hz, fun f hz => mu4 (VC.dInt (f 5)) hz, fun _ _ x2 a0 a1 a2 z => ⟨x2, a0, a1, a2, z⟩, fun _ _ hz => hz, fun f hz x2 a0 => by simp only [a0]; rfl⟩
    refine VC.wpf_loop I5 mu5 (hin5 _ _ _ rfl e0 e1 hI) ?_
    clear hI
    intro f h6 hf
    obtain ⟨x2, a5_0, a5_1, a5_2, hJ⟩ := hout5 _ _ hf
    replace H := H x2 h6 hJ
    refine VC.wpf_seq ?_
    refine VC.wpf_seq ?_
    refine VC.wpf_region rfl ?_
    refine VC.wpL_op (VC.op_move (v := .int .i64 x2) a5_0 ?_)
    refine VC.wpL_op (VC.op_move (v := .slice p0a p0n p0c) a5_1 ?_)
    refine VC.wpL_op (VC.op_len_slice rfl un_32 ?_)
    refine VC.wpL_op (VC.op_lss rfl rfl ?_)
    refine VC.wpL_nil ?_
    refine VC.wpf_cond (decide (x2 < (p0n : Int))) rfl ?_ ?_
    · intro hb
      replace H := H.1 (of_decide_eq_true hb)
      refine VC.wpf_skip ?_
      refine VC.wpf_seq ?_
      refine VC.wpf_block ?_
      refine VC.wpf_seq ?_
      obtain ⟨b9, o10, rfl, H⟩ := H
      obtain ⟨c8, H⟩ := H
      obtain ⟨x12_0, x12_1, x12_2, c13, H⟩ := H
      obtain ⟨b15, o16, rfl, H⟩ := H
      obtain ⟨c14, H⟩ := H
      obtain ⟨x18_0, x18_1, x18_2, c19, H⟩ := H
      refine VC.wpf_draw cert_linchpinref19_Same_6 0 [(Value.slice (some ⟨b9, o10, none⟩) p0n p0c), (Value.int .i64 x2), (Value.pointer (some ⟨b9, o10 + x2.toNat * 3, none⟩)), (Value.agg #[.int .i64 x12_0, .int .i64 x12_1, .int .i64 x12_2]), (Value.slice (some ⟨b15, o16, none⟩) p1n p1c), (Value.int .i64 x2), (Value.pointer (some ⟨b15, o16 + x2.toNat * 3, none⟩)), (Value.agg #[.int .i64 x18_0, .int .i64 x18_1, .int .i64 x18_2]), (Value.bool (!((decide (x12_0 = x18_0)) && ((decide (x12_1 = x18_1)) && ((decide (x12_2 = x18_2)) && true)))))] (by kernel_rfl) rfl mixed_PR ?_
      refine VC.plan_done rfl (VC.quiet_of [0, 1, 2, 3, 4, 5, 6, 7, 8] rfl ⟨VC.stepAt_of rfl rfl (VC.op_move (v := .slice (some ⟨b9, o10, none⟩) p0n p0c) a5_1 ⟨rfl, rfl⟩), VC.stepAt_of rfl rfl (VC.op_move (v := .int .i64 x2) a5_0 ⟨rfl, rfl⟩), VC.stepAt_of rfl rfl (VC.op_indexAddr_slice rfl rfl ei_32 c8 ⟨rfl, rfl⟩), VC.stepAt_of rfl rfl (VC.op_loadN rfl ag_36 c13 ⟨rfl, rfl⟩), VC.stepAt_of rfl rfl (VC.op_move (v := .slice (some ⟨b15, o16, none⟩) p1n p1c) a5_2 ⟨rfl, rfl⟩), VC.stepAt_of rfl rfl (VC.op_move (v := .int .i64 x2) a5_0 ⟨rfl, rfl⟩), VC.stepAt_of rfl rfl (VC.op_indexAddr_slice rfl rfl ei_32 c14 ⟨rfl, rfl⟩), VC.stepAt_of rfl rfl (VC.op_loadN rfl ag_36 c19 ⟨rfl, rfl⟩), VC.stepAt_of rfl rfl (VC.op_nes (a := [.int .i64 x12_0, .int .i64 x12_1, .int .i64 x12_2]) (b := [.int .i64 x18_0, .int .i64 x18_1, .int .i64 x18_2]) rfl rfl eg_36 (VC.eq_of_plan eqp_36 fun w => (VC.eqRun_int w un_3 ag_3 rfl rfl (VC.eqRun_int w un_3 ag_3 rfl rfl (VC.eqRun_int w un_3 ag_3 rfl rfl (VC.eqRun_nil w))))) ⟨rfl, rfl⟩), trivial⟩) rfl ?_
      refine VC.wpf_cond (!((decide (x12_0 = x18_0)) && ((decide (x12_1 = x18_1)) && ((decide (x12_2 = x18_2)) && true)))) rfl ?_ ?_
      · intro hb
        replace H := H.1 (VC.of_not_true hb)
        refine VC.wpf_seq ?_
        refine VC.wpf_region rfl ?_
        refine VC.wpL_op (VC.op_assign (v := .bool false) rfl ?_)
        refine VC.wpL_nil ?_
        refine VC.wpf_ret ?_
        exact VC.ret_leaf (VC.resV_tmp rfl VC.resV_nil) H
      · intro hb
        replace H := H.2 (VC.of_not_false hb)
        refine VC.wpf_skip ?_
        refine VC.wpf_region rfl ?_
        refine VC.wpL_op (VC.op_move (v := .int .i64 x2) a5_0 ?_)
        obtain ⟨c21, H⟩ := H
        refine VC.wpL_op (VC.op_add rfl rfl (VC.wrap_i64 c21) ?_)
        refine VC.wpL_op (VC.op_assign (v := .int .i64 (x2 + 1)) rfl ?_)
        refine VC.wpL_nil ?_
        exact And.intro (hin5 _ _ _ rfl a5_1 a5_2 H.1) (lt_of (hmu5 _ _ _ rfl) (hmu5 _ _ _ a5_0) H.2)
    · intro hb
      replace H := H.2 (of_decide_eq_false hb)
      refine VC.wpf_exit ?_
      refine VC.wpf_seq ?_
      refine VC.wpf_region rfl ?_
      refine VC.wpL_op (VC.op_assign (v := .bool true) rfl ?_)
      refine VC.wpL_nil ?_
      refine VC.wpf_ret ?_
      exact VC.ret_leaf (VC.resV_tmp rfl VC.resV_nil) H
end Go.Proofs.Vf
