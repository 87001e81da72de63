/- Printed by a program of this claim: for each Go function named below a formula over the heap, and the proof that it gives the call of that function. No conditions. -/
import Derived.Test.YtobbagjpngkpkaaProg
import Derived.Test.YtobbagjpngkpkaaVcMore
namespace Go.Proofs.Vf
open Go Go.Proofs Go.VC
noncomputable abbrev PR : Program := Try.prog
theorem mixed_PR : PR.follows .mixedOrders = true := by kernel_rfl
abbrev fn_main_main : Nat := 0
abbrev fn_gosem_cut : Nat := 1
abbrev fn_gosem_cut_init : Nat := 2
abbrev fn_linchpinlaw19_LifeSteps : Nat := 3
abbrev fn_linchpinlaw19_LifeOnce : Nat := 4
abbrev fn_linchpinlaw19_LifeLate : Nat := 5
abbrev fn_linchpinlaw19_LifeAdmits : Nat := 6
abbrev fn_linchpinlaw19_LifePlays : Nat := 7
abbrev fn_linchpinlaw19_awake : Nat := 8
abbrev fn_life_New : Nat := 9
abbrev fn_life_Book_Open : Nat := 10
abbrev fn_life_Book_Go : Nat := 11
abbrev fn_life_Book_Answer : Nat := 12
abbrev fn_life_Book_Cancel : Nat := 13
abbrev fn_life_Book_Count : Nat := 14
abbrev fn_life_Book_Has : Nat := 15
abbrev fn_linchpinref19_Book_Open : Nat := 16
abbrev fn_linchpinref19_Book_Answer : Nat := 17
abbrev fn_linchpinref19_Book_Cancel : Nat := 18
abbrev fn_linchpinref19_Book_Go : Nat := 19
abbrev fn_linchpinref19_Same : Nat := 20
abbrev fn_wheel_New : Nat := 21
abbrev fn_tick_May : Nat := 22
abbrev fn_wheel_Wheel_Now : Nat := 23
abbrev fn_life_Book_timer : Nat := 24
abbrev fn_wheel_Wheel_Set : Nat := 25
abbrev fn_wheel_Wheel_Go : Nat := 26
abbrev fn_life_Book_sorted : Nat := 27
abbrev fn_life_Book_out : Nat := 28
abbrev fn_linchpinref19_Book_find : Nat := 29
abbrev fn_linchpinref19_Book_out : Nat := 30
abbrev fn_wheel_Wheel_drop : Nat := 31
abbrev fn_wheel_Wheel_put : Nat := 32
abbrev fn_wheel_Wheel_first : Nat := 33
abbrev fn_wheel_Wheel_move : Nat := 34
abbrev fn_slices_SortFunc_int_int : Nat := 35
abbrev fn_cmp_Compare_int : Nat := 36
abbrev fn_life_Book_before : Nat := 37
abbrev fn_wheel_Wheel_Cancel : Nat := 38
abbrev fn_wheel_part : Nat := 39
abbrev fn_slices_Collect_int : Nat := 40
abbrev fn_maps_Keys_map_int_bool_int_bool : Nat := 41
abbrev fn_slices_pdqsortCmpFunc_int : Nat := 42
abbrev fn_math_bits_Len : Nat := 43
abbrev fn_cmp_isNaN_int : Nat := 44
abbrev fn_slices_AppendSeq_int_int : Nat := 45
abbrev fn_maps_Keys_map_int_bool_int_bool_1 : Nat := 46
abbrev fn_slices_insertionSortCmpFunc_int : Nat := 47
abbrev fn_slices_heapSortCmpFunc_int : Nat := 48
abbrev fn_slices_breakPatternsCmpFunc_int : Nat := 49
abbrev fn_slices_choosePivotCmpFunc_int : Nat := 50
abbrev fn_slices_reverseRangeCmpFunc_int : Nat := 51
abbrev fn_slices_partialInsertionSortCmpFunc_int : Nat := 52
abbrev fn_slices_partitionEqualCmpFunc_int : Nat := 53
abbrev fn_slices_partitionCmpFunc_int : Nat := 54
abbrev fn_math_bits_Len32 : Nat := 55
abbrev fn_math_bits_Len64 : Nat := 56
abbrev fn_slices_siftDownCmpFunc_int : Nat := 57
abbrev fn_slices_nextPowerOfTwo : Nat := 58
abbrev fn_slices_xorshift_Next : Nat := 59
abbrev fn_slices_medianAdjacentCmpFunc_int : Nat := 60
abbrev fn_slices_medianCmpFunc_int : Nat := 61
abbrev fn_slices_order2CmpFunc_int : Nat := 62
abbrev fn_runtime_boundsError_Error : Nat := 63
abbrev fn_runtime_boundsError_RuntimeError : Nat := 64
abbrev fn_runtime_errorString_Error : Nat := 65
abbrev fn_runtime_errorString_RuntimeError : Nat := 66
abbrev fn_runtime_plainError_Error : Nat := 67
abbrev fn_runtime_plainError_RuntimeError : Nat := 68
abbrev fn_runtime_errorAddressString_Error : Nat := 69
abbrev fn_runtime_errorAddressString_RuntimeError : Nat := 70
abbrev fn_runtime_TypeAssertionError_Error : Nat := 71
abbrev fn_runtime_TypeAssertionError_RuntimeError : Nat := 72
abbrev fn_runtime_PanicNilError_Error : Nat := 73
abbrev fn_runtime_PanicNilError_RuntimeError : Nat := 74
abbrev fn_internal_abi_Type_Align : Nat := 75
abbrev fn_internal_runtime_maps_unhashableTypeError_Error : Nat := 76
abbrev fn_internal_runtime_maps_unhashableTypeError_RuntimeError : Nat := 77
abbrev fn_wheel_Wheel_Len : Nat := 78
abbrev fn_internal_abi_Kind_String : Nat := 79
abbrev ty_func : Nat := 1
abbrev ty_int64 : Nat := 2
abbrev ty_int : Nat := 3
abbrev ty_bool : Nat := 4
abbrev ty_uint8 : Nat := 5
abbrev ty_abi_BoundsErrorCode : Nat := 6
abbrev ty_struct_x_int64_y_int_signed_bool_code_abi_BoundsErrorCode : Nat := 7
abbrev ty_runtime_boundsError : Nat := 8
abbrev ty_string : Nat := 9
abbrev ty_runtime_errorString : Nat := 10
abbrev ty_runtime_plainError : Nat := 11
abbrev ty_uintptr : Nat := 12
abbrev ty_struct_msg_string_addr_uintptr : Nat := 13
abbrev ty_runtime_errorAddressString : Nat := 14
abbrev ty_ptr_runtime_TypeAssertionError : Nat := 15
abbrev ty_ptr_runtime_PanicNilError : Nat := 16
abbrev ty_ptr_abi_Type : Nat := 17
abbrev ty_struct_typ_ptr_abi_Type : Nat := 18
abbrev ty_maps_unhashableTypeError : Nat := 19
abbrev ty_interface : Nat := 20
abbrev ty_int32 : Nat := 21
abbrev ty_sl_uint16 : Nat := 22
abbrev ty_sl_uint8 : Nat := 23
abbrev ty_func_bool : Nat := 24
abbrev ty_ptr_life_Book : Nat := 25
abbrev ty_api_Code : Nat := 26
abbrev ty_ptr_life_Book_api_Code : Nat := 27
abbrev ty_func_uint64_ptr_life_Book_api_Code : Nat := 28
abbrev ty_uint64 : Nat := 29
abbrev ty_func_int_uint64_api_Code : Nat := 30
abbrev ty_uint16 : Nat := 31
abbrev ty_sl_api_Fate : Nat := 32
abbrev ty_sl_api_Fate_api_Code : Nat := 33
abbrev ty_func_uint64_sl_api_Fate_api_Code : Nat := 34
abbrev ty_struct_ID_int_Kind_int_Why_int : Nat := 35
abbrev ty_api_Fate : Nat := 36
abbrev ty_func_sl_uint16_sl_uint8_bool : Nat := 37
abbrev ty_sl_linchpinlaw19_Do : Nat := 38
abbrev ty_sl_uint64 : Nat := 39
abbrev ty_struct_Kind_int_ID_int_N_uint64_Status_int : Nat := 40
abbrev ty_linchpinlaw19_Do : Nat := 41
abbrev ty_func_int_int_bool_api_Code : Nat := 42
abbrev ty_func_int_api_Code : Nat := 43
abbrev ty_func_int : Nat := 44
abbrev ty_func_uint8_sl_linchpinlaw19_Do_bool : Nat := 45
abbrev ty_uint64_bool : Nat := 46
abbrev ty_func_int_uint64_bool : Nat := 47
abbrev ty_func_uint8_sl_uint16_uint8_bool : Nat := 48
abbrev ty_uint32 : Nat := 49
abbrev ty_func_uint16_uint32_uint8_bool : Nat := 50
abbrev ty_ptr_linchpinref19_Book : Nat := 51
abbrev ty_sl_linchpinref19_One : Nat := 52
abbrev ty_struct_Cost_uint64_Now_uint64_L_sl_linchpinref19_One_F_sl_api_Fate : Nat := 53
abbrev ty_linchpinref19_Book : Nat := 54
abbrev ty_func_sl_api_Fate_sl_api_Fate_bool : Nat := 55
abbrev ty_struct_ID_int_Dead_uint64 : Nat := 56
abbrev ty_linchpinref19_One : Nat := 57
abbrev ty_func_uint64_sl_linchpinlaw19_Do_bool : Nat := 58
abbrev ty_ptr_wheel_Wheel : Nat := 59
abbrev ty_func_ptr_wheel_Wheel : Nat := 60
abbrev ty_map_int_life_entry : Nat := 61
abbrev ty_64_int : Nat := 62
abbrev ty_64_bool : Nat := 63
abbrev ty_struct_cost_uint64_w_ptr_wheel_Wheel_open_map_int_life_entry_ids_64_int_used_64_bool_fates_sl_api_Fate : Nat := 64
abbrev ty_life_Book : Nat := 65
abbrev ty_struct_timer_int_dead_uint64 : Nat := 66
abbrev ty_life_entry : Nat := 67
abbrev ty_life_entry_bool : Nat := 68
abbrev ty_func_uint64_bool : Nat := 69
abbrev ty_func_uint64 : Nat := 70
abbrev ty_sl_int : Nat := 71
abbrev ty_sl_int_api_Code : Nat := 72
abbrev ty_func_uint64_sl_int_api_Code : Nat := 73
abbrev ty_func_sl_int_sl_int : Nat := 74
abbrev ty_func_int_int_int_api_Code : Nat := 75
abbrev ty_func_int_int : Nat := 76
abbrev ty_map_int_wheel_spot : Nat := 77
abbrev ty_map_int_bool : Nat := 78
abbrev ty_16_map_int_bool : Nat := 79
abbrev ty_16_16_map_int_bool : Nat := 80
abbrev ty_struct_rows_16_16_map_int_bool_all_map_int_wheel_spot_now_uint64 : Nat := 81
abbrev ty_wheel_Wheel : Nat := 82
abbrev ty_struct_at_uint64_level_int_place_int : Nat := 83
abbrev ty_wheel_spot : Nat := 84
abbrev ty_wheel_spot_bool : Nat := 85
abbrev ty_func_int_uint64 : Nat := 87
abbrev ty_func_sl_int_func_int_int_int : Nat := 90
abbrev ty_func_int_int_int : Nat := 91
abbrev ty_func_int_int_bool : Nat := 92
abbrev ty_func_uint64_int_int : Nat := 93
abbrev ty_func_iter_Seq_int_sl_int : Nat := 94
abbrev ty_func_func_int_bool : Nat := 95
abbrev ty_iter_Seq_int : Nat := 96
abbrev ty_func_map_int_bool_iter_Seq_int : Nat := 97
abbrev ty_func_sl_int_int_int_int_func_int_int_int : Nat := 98
abbrev ty_func_uint_int : Nat := 99
abbrev ty_uint : Nat := 100
abbrev ty_func_int_bool : Nat := 101
abbrev ty_func_sl_int_iter_Seq_int_sl_int : Nat := 102
abbrev ty_func_sl_int_int_int_func_int_int_int : Nat := 103
abbrev ty_slices_sortedHint : Nat := 104
abbrev ty_int_slices_sortedHint : Nat := 105
abbrev ty_func_sl_int_int_int_func_int_int_int_int_slices_sortedHint : Nat := 106
abbrev ty_func_sl_int_int_int_func_int_int_int_bool : Nat := 107
abbrev ty_func_sl_int_int_int_int_func_int_int_int_int : Nat := 108
abbrev ty_int_bool : Nat := 109
abbrev ty_func_sl_int_int_int_int_func_int_int_int_int_bool : Nat := 110
abbrev ty_func_uint32_int : Nat := 111
abbrev ty_func_uint64_int : Nat := 112
abbrev ty_slices_xorshift : Nat := 113
abbrev ty_func_int_uint : Nat := 114
abbrev ty_func_sl_int_int_ptr_int_func_int_int_int_int : Nat := 115
abbrev ty_ptr_int : Nat := 116
abbrev ty_func_sl_int_int_int_int_ptr_int_func_int_int_int_int : Nat := 117
abbrev ty_ptr_slices_xorshift : Nat := 118
abbrev ty_int_int : Nat := 119
abbrev ty_func_sl_int_int_int_ptr_int_func_int_int_int_int_int : Nat := 120
abbrev ty_func_string : Nat := 121
abbrev ty_struct__interface_ptr_abi_Type_concrete_ptr_abi_Type_asserted_ptr_abi_Type_missingMethod_string : Nat := 122
abbrev ty_runtime_TypeAssertionError : Nat := 123
abbrev ty_0_ptr_runtime_PanicNilError : Nat := 124
abbrev ty_struct___0_ptr_runtime_PanicNilError : Nat := 125
abbrev ty_runtime_PanicNilError : Nat := 126
abbrev ty_abi_TFlag : Nat := 127
abbrev ty_abi_Kind : Nat := 128
abbrev ty_func_unsafe_Pointer_unsafe_Pointer_bool : Nat := 129
abbrev ty_ptr_uint8 : Nat := 130
abbrev ty_abi_NameOff : Nat := 131
abbrev ty_abi_TypeOff : Nat := 132
abbrev ty_struct_Size__uintptr_PtrBytes_uintptr_Hash_uint32_TFlag_abi_TFlag_Align__uint8_FieldAlign__uint8_Kind__abi_Kind_Equal_func_unsafe_Pointer_unsafe_Pointer_bool_GCData_ptr_uint8_Str_abi_NameOff_PtrToThis_abi_TypeOff : Nat := 133
abbrev ty_abi_Type : Nat := 134
abbrev ty_unsafe_Pointer : Nat := 135
theorem un_29 : PR.underlying 29 = some (.int .u64) := by kernel_rfl
theorem un_3 : PR.underlying 3 = some (.int .i64) := by kernel_rfl
theorem fs_82 : VC.structPl PR 82 = some [(0, 256), (256, 1), (257, 1)] := by kernel_rfl
theorem z_82 : zeroOf PR 82 = some (Value.agg #[.map none, .map none, .map none, .map none, .map none, .map none, .map none, .map none, .map none, .map none, .map none, .map none, .map none, .map none, .map none, .map none, .map none, .map none, .map none, .map none, .map none, .map none, .map none, .map none, .map none, .map none, .map none, .map none, .map none, .map none, .map none, .map none, .map none, .map none, .map none, .map none, .map none, .map none, .map none, .map none, .map none, .map none, .map none, .map none, .map none, .map none, .map none, .map none, .map none, .map none, .map none, .map none, .map none, .map none, .map none, .map none, .map none, .map none, .map none, .map none, .map none, .map none, .map none, .map none, .map none, .map none, .map none, .map none, .map none, .map none, .map none, .map none, .map none, .map none, .map none, .map none, .map none, .map none, .map none, .map none, .map none, .map none, .map none, .map none, .map none, .map none, .map none, .map none, .map none, .map none, .map none, .map none, .map none, .map none, .map none, .map none, .map none, .map none, .map none, .map none, .map none, .map none, .map none, .map none, .map none, .map none, .map none, .map none, .map none, .map none, .map none, .map none, .map none, .map none, .map none, .map none, .map none, .map none, .map none, .map none, .map none, .map none, .map none, .map none, .map none, .map none, .map none, .map none, .map none, .map none, .map none, .map none, .map none, .map none, .map none, .map none, .map none, .map none, .map none, .map none, .map none, .map none, .map none, .map none, .map none, .map none, .map none, .map none, .map none, .map none, .map none, .map none, .map none, .map none, .map none, .map none, .map none, .map none, .map none, .map none, .map none, .map none, .map none, .map none, .map none, .map none, .map none, .map none, .map none, .map none, .map none, .map none, .map none, .map none, .map none, .map none, .map none, .map none, .map none, .map none, .map none, .map none, .map none, .map none, .map none, .map none, .map none, .map none, .map none, .map none, .map none, .map none, .map none, .map none, .map none, .map none, .map none, .map none, .map none, .map none, .map none, .map none, .map none, .map none, .map none, .map none, .map none, .map none, .map none, .map none, .map none, .map none, .map none, .map none, .map none, .map none, .map none, .map none, .map none, .map none, .map none, .map none, .map none, .map none, .map none, .map none, .map none, .map none, .map none, .map none, .map none, .map none, .map none, .map none, .map none, .map none, .map none, .map none, .map none, .map none, .map none, .map none, .map none, .map none, .map none, .map none, .map none, .map none, .map none, .map none, .map none, .map none, .map none, .map none, .map none, .map none, .map none, .int .u64 0]) := by kernel_rfl
theorem fo_82_2 : fieldOff PR 82 2 = some 257 := by kernel_rfl
theorem ag_29 : aggSize PR 29 = some none := by kernel_rfl
theorem en_39 : ∀ args w, (callFunc 39 args).run PR w = .ok (.enter 39 args) w := VC.enters_ok Try.func39 (by kernel_rfl) rfl
theorem fo_82_0 : fieldOff PR 82 0 = some 0 := by kernel_rfl
theorem ei_80 : elemInfo PR 80 = some (some 16, 79, 16) := by kernel_rfl
theorem ei_79 : elemInfo PR 79 = some (some 16, 78, 1) := by kernel_rfl
theorem ag_78 : aggSize PR 78 = some none := by kernel_rfl
theorem mt_78 : PR.underlying 78 = some (.map 3 4) ∧ PR.underlying 3 = some (.int .i64) := ⟨by kernel_rfl, by kernel_rfl⟩
theorem fo_82_1 : fieldOff PR 82 1 = some 256 := by kernel_rfl
theorem ag_77 : aggSize PR 77 = some none := by kernel_rfl
theorem fs_84 : VC.structPl PR 84 = some [(0, 1), (1, 1), (2, 1)] := by kernel_rfl
theorem z_84 : zeroOf PR 84 = some (Value.agg #[.int .u64 0, .int .i64 0, .int .i64 0]) := by kernel_rfl
theorem mt_77 : PR.underlying 77 = some (.map 3 84) ∧ PR.underlying 3 = some (.int .i64) := ⟨by kernel_rfl, by kernel_rfl⟩
theorem un_78 : PR.underlying 78 = some (.map 3 4) := by kernel_rfl
theorem sz_78 : sizeT PR 78 = some 1 := by kernel_rfl
theorem sz_84 : sizeT PR 84 = some 3 := by kernel_rfl
theorem fo_84_1 : fieldOff PR 84 1 = some 1 := by kernel_rfl
theorem ag_3 : aggSize PR 3 = some none := by kernel_rfl
theorem fo_84_2 : fieldOff PR 84 2 = some 2 := by kernel_rfl
theorem en_22 : ∀ args w, (callFunc 22 args).run PR w = .ok (.enter 22 args) w := VC.enters_ok Try.func22 (by kernel_rfl) rfl
theorem en_32 : ∀ args w, (callFunc 32 args).run PR w = .ok (.enter 32 args) w := VC.enters_ok Try.func32 (by kernel_rfl) rfl
theorem en_31 : ∀ args w, (callFunc 31 args).run PR w = .ok (.enter 31 args) w := VC.enters_ok Try.func31 (by kernel_rfl) rfl
theorem fp_84_0 : fieldPart PR 84 0 = some (0, none) := by kernel_rfl
theorem sz_29 : sizeT PR 29 = some 1 := by kernel_rfl
theorem en_41 : ∀ args w, (callFunc 41 args).run PR w = .ok (.enter 41 args) w := VC.enters_ok Try.func41 (by kernel_rfl) rfl
theorem en_40 : ∀ args w, (callFunc 40 args).run PR w = .ok (.enter 40 args) w := VC.enters_ok Try.func40 (by kernel_rfl) rfl
theorem un_71 : PR.underlying 71 = some (.slice 3) := by kernel_rfl
theorem ei_71 : elemInfo PR 71 = some (none, 3, 1) := by kernel_rfl
theorem en_33 : ∀ args w, (callFunc 33 args).run PR w = .ok (.enter 33 args) w := VC.enters_ok Try.func33 (by kernel_rfl) rfl
theorem en_34 : ∀ args w, (callFunc 34 args).run PR w = .ok (.enter 34 args) w := VC.enters_ok Try.func34 (by kernel_rfl) rfl
theorem un_77 : PR.underlying 77 = some (.map 3 84) := by kernel_rfl
theorem en_35 : ∀ args w, (callFunc 35 args).run PR w = .ok (.enter 35 args) w := VC.enters_ok Try.func35 (by kernel_rfl) rfl
theorem ri_71 : rowInfo PR 71 = some (3, 1, 8, (Value.int .i64 0)) := by kernel_rfl
theorem fo_84_0 : fieldOff PR 84 0 = some 0 := by kernel_rfl
theorem en_44 : ∀ args w, (callFunc 44 args).run PR w = .ok (.enter 44 args) w := VC.enters_ok Try.func44 (by kernel_rfl) rfl
theorem en_45 : ∀ args w, (callFunc 45 args).run PR w = .ok (.enter 45 args) w := VC.enters_ok Try.func45 (by kernel_rfl) rfl
theorem en_21 : ∀ args w, (callFunc 21 args).run PR w = .ok (.enter 21 args) w := VC.enters_ok Try.func21 (by kernel_rfl) rfl
theorem fs_65 : VC.structPl PR 65 = some [(0, 1), (1, 1), (2, 1), (3, 64), (67, 64), (131, 1)] := by kernel_rfl
theorem z_65 : zeroOf PR 65 = some (Value.agg #[.int .u64 0, .pointer none, .map none, .int .i64 0, .int .i64 0, .int .i64 0, .int .i64 0, .int .i64 0, .int .i64 0, .int .i64 0, .int .i64 0, .int .i64 0, .int .i64 0, .int .i64 0, .int .i64 0, .int .i64 0, .int .i64 0, .int .i64 0, .int .i64 0, .int .i64 0, .int .i64 0, .int .i64 0, .int .i64 0, .int .i64 0, .int .i64 0, .int .i64 0, .int .i64 0, .int .i64 0, .int .i64 0, .int .i64 0, .int .i64 0, .int .i64 0, .int .i64 0, .int .i64 0, .int .i64 0, .int .i64 0, .int .i64 0, .int .i64 0, .int .i64 0, .int .i64 0, .int .i64 0, .int .i64 0, .int .i64 0, .int .i64 0, .int .i64 0, .int .i64 0, .int .i64 0, .int .i64 0, .int .i64 0, .int .i64 0, .int .i64 0, .int .i64 0, .int .i64 0, .int .i64 0, .int .i64 0, .int .i64 0, .int .i64 0, .int .i64 0, .int .i64 0, .int .i64 0, .int .i64 0, .int .i64 0, .int .i64 0, .int .i64 0, .int .i64 0, .int .i64 0, .int .i64 0, .bool false, .bool false, .bool false, .bool false, .bool false, .bool false, .bool false, .bool false, .bool false, .bool false, .bool false, .bool false, .bool false, .bool false, .bool false, .bool false, .bool false, .bool false, .bool false, .bool false, .bool false, .bool false, .bool false, .bool false, .bool false, .bool false, .bool false, .bool false, .bool false, .bool false, .bool false, .bool false, .bool false, .bool false, .bool false, .bool false, .bool false, .bool false, .bool false, .bool false, .bool false, .bool false, .bool false, .bool false, .bool false, .bool false, .bool false, .bool false, .bool false, .bool false, .bool false, .bool false, .bool false, .bool false, .bool false, .bool false, .bool false, .bool false, .bool false, .bool false, .bool false, .bool false, .bool false, .bool false, .slice none 0 0]) := by kernel_rfl
theorem fo_65_2 : fieldOff PR 65 2 = some 2 := by kernel_rfl
theorem ag_61 : aggSize PR 61 = some none := by kernel_rfl
theorem mt_61 : PR.underlying 61 = some (.map 3 67) ∧ PR.underlying 3 = some (.int .i64) := ⟨by kernel_rfl, by kernel_rfl⟩
theorem z_67 : zeroOf PR 67 = some (Value.agg #[.int .i64 0, .int .u64 0]) := by kernel_rfl
theorem sz_67 : sizeT PR 67 = some 2 := by kernel_rfl
theorem un_61 : PR.underlying 61 = some (.map 3 67) := by kernel_rfl
theorem fo_65_0 : fieldOff PR 65 0 = some 0 := by kernel_rfl
theorem fo_65_1 : fieldOff PR 65 1 = some 1 := by kernel_rfl
theorem ag_59 : aggSize PR 59 = some none := by kernel_rfl
theorem en_23 : ∀ args w, (callFunc 23 args).run PR w = .ok (.enter 23 args) w := VC.enters_ok Try.func23 (by kernel_rfl) rfl
theorem en_24 : ∀ args w, (callFunc 24 args).run PR w = .ok (.enter 24 args) w := VC.enters_ok Try.func24 (by kernel_rfl) rfl
theorem en_25 : ∀ args w, (callFunc 25 args).run PR w = .ok (.enter 25 args) w := VC.enters_ok Try.func25 (by kernel_rfl) rfl
theorem fs_67 : VC.structPl PR 67 = some [(0, 1), (1, 1)] := by kernel_rfl
theorem fo_65_4 : fieldOff PR 65 4 = some 67 := by kernel_rfl
theorem ei_63 : elemInfo PR 63 = some (some 64, 4, 1) := by kernel_rfl
theorem fo_65_3 : fieldOff PR 65 3 = some 3 := by kernel_rfl
theorem sz_4 : sizeT PR 4 = some 1 := by kernel_rfl
theorem ei_62 : elemInfo PR 62 = some (some 64, 3, 1) := by kernel_rfl
theorem sz_3 : sizeT PR 3 = some 1 := by kernel_rfl
theorem en_26 : ∀ args w, (callFunc 26 args).run PR w = .ok (.enter 26 args) w := VC.enters_ok Try.func26 (by kernel_rfl) rfl
theorem en_27 : ∀ args w, (callFunc 27 args).run PR w = .ok (.enter 27 args) w := VC.enters_ok Try.func27 (by kernel_rfl) rfl
theorem en_28 : ∀ args w, (callFunc 28 args).run PR w = .ok (.enter 28 args) w := VC.enters_ok Try.func28 (by kernel_rfl) rfl
theorem fo_65_5 : fieldOff PR 65 5 = some 131 := by kernel_rfl
theorem ag_32 : aggSize PR 32 = some none := by kernel_rfl
theorem sz_32 : sizeT PR 32 = some 1 := by kernel_rfl
theorem fo_67_1 : fieldOff PR 67 1 = some 1 := by kernel_rfl
theorem ag_63 : aggSize PR 63 = some (some 64) := by kernel_rfl
theorem ag_4 : aggSize PR 4 = some none := by kernel_rfl
theorem en_37 : ∀ args w, (callFunc 37 args).run PR w = .ok (.enter 37 args) w := VC.enters_ok Try.func37 (by kernel_rfl) rfl
theorem fp_67_1 : fieldPart PR 67 1 = some (1, none) := by kernel_rfl
theorem fo_67_0 : fieldOff PR 67 0 = some 0 := by kernel_rfl
theorem en_38 : ∀ args w, (callFunc 38 args).run PR w = .ok (.enter 38 args) w := VC.enters_ok Try.func38 (by kernel_rfl) rfl
theorem fs_36 : VC.structPl PR 36 = some [(0, 1), (1, 1), (2, 1)] := by kernel_rfl
theorem z_36 : zeroOf PR 36 = some (Value.agg #[.int .i64 0, .int .i64 0, .int .i64 0]) := by kernel_rfl
theorem ri_32 : rowInfo PR 32 = some (36, 3, 24, (Value.agg #[.int .i64 0, .int .i64 0, .int .i64 0])) := by kernel_rfl
theorem un_32 : PR.underlying 32 = some (.slice 36) := by kernel_rfl
theorem en_29 : ∀ args w, (callFunc 29 args).run PR w = .ok (.enter 29 args) w := VC.enters_ok Try.func29 (by kernel_rfl) rfl
theorem fo_54_2 : fieldOff PR 54 2 = some 2 := by kernel_rfl
theorem ag_52 : aggSize PR 52 = some none := by kernel_rfl
theorem un_52 : PR.underlying 52 = some (.slice 57) := by kernel_rfl
theorem fo_54_1 : fieldOff PR 54 1 = some 1 := by kernel_rfl
theorem fo_54_0 : fieldOff PR 54 0 = some 0 := by kernel_rfl
theorem ei_52 : elemInfo PR 52 = some (none, 57, 2) := by kernel_rfl
theorem fo_57_1 : fieldOff PR 57 1 = some 1 := by kernel_rfl
theorem fo_57_0 : fieldOff PR 57 0 = some 0 := by kernel_rfl
theorem fs_57 : VC.structPl PR 57 = some [(0, 1), (1, 1)] := by kernel_rfl
theorem z_57 : zeroOf PR 57 = some (Value.agg #[.int .i64 0, .int .u64 0]) := by kernel_rfl
theorem ri_52 : rowInfo PR 52 = some (57, 2, 16, (Value.agg #[.int .i64 0, .int .u64 0])) := by kernel_rfl
theorem sz_52 : sizeT PR 52 = some 1 := by kernel_rfl
theorem en_30 : ∀ args w, (callFunc 30 args).run PR w = .ok (.enter 30 args) w := VC.enters_ok Try.func30 (by kernel_rfl) rfl
theorem fo_54_3 : fieldOff PR 54 3 = some 3 := by kernel_rfl
theorem ei_32 : elemInfo PR 32 = some (none, 36, 3) := by kernel_rfl
theorem ag_36 : aggSize PR 36 = some (some 3) := by kernel_rfl
theorem eg_36 : PR.eqGuardType PR.depth 36 = false := by kernel_rfl
theorem eqp_36 : VC.eqPlan PR 36 = some [(3, 0), (3, 1), (3, 2)] := by kernel_rfl
theorem en_9 : ∀ args w, (callFunc 9 args).run PR w = .ok (.enter 9 args) w := VC.enters_ok Try.func9 (by kernel_rfl) rfl
theorem un_25 : PR.underlying 25 = some (.pointer 65) := by kernel_rfl
theorem en_10 : ∀ args w, (callFunc 10 args).run PR w = .ok (.enter 10 args) w := VC.enters_ok Try.func10 (by kernel_rfl) rfl
theorem en_12 : ∀ args w, (callFunc 12 args).run PR w = .ok (.enter 12 args) w := VC.enters_ok Try.func12 (by kernel_rfl) rfl
theorem en_11 : ∀ args w, (callFunc 11 args).run PR w = .ok (.enter 11 args) w := VC.enters_ok Try.func11 (by kernel_rfl) rfl
theorem en_14 : ∀ args w, (callFunc 14 args).run PR w = .ok (.enter 14 args) w := VC.enters_ok Try.func14 (by kernel_rfl) rfl
theorem en_8 : ∀ args w, (callFunc 8 args).run PR w = .ok (.enter 8 args) w := VC.enters_ok Try.func8 (by kernel_rfl) rfl
theorem un_22 : PR.underlying 22 = some (.slice 31) := by kernel_rfl
theorem un_23 : PR.underlying 23 = some (.slice 5) := by kernel_rfl
theorem ei_22 : elemInfo PR 22 = some (none, 31, 1) := by kernel_rfl
theorem ag_31 : aggSize PR 31 = some none := by kernel_rfl
theorem un_31 : PR.underlying 31 = some (.int .u16) := by kernel_rfl
theorem ei_23 : elemInfo PR 23 = some (none, 5, 1) := by kernel_rfl
theorem ag_5 : aggSize PR 5 = some none := by kernel_rfl
theorem un_5 : PR.underlying 5 = some (.int .u8) := by kernel_rfl
theorem ri_39 : rowInfo PR 39 = some (29, 1, 8, (Value.int .u64 0)) := by kernel_rfl
theorem un_38 : PR.underlying 38 = some (.slice 41) := by kernel_rfl
theorem ei_38 : elemInfo PR 38 = some (none, 41, 4) := by kernel_rfl
theorem ag_41 : aggSize PR 41 = some (some 4) := by kernel_rfl
theorem z_41 : zeroOf PR 41 = some (Value.agg #[.int .i64 0, .int .i64 0, .int .u64 0, .int .i64 0]) := by kernel_rfl
theorem sz_41 : sizeT PR 41 = some 4 := by kernel_rfl
theorem fo_41_1 : fieldOff PR 41 1 = some 1 := by kernel_rfl
theorem fo_36_0 : fieldOff PR 36 0 = some 0 := by kernel_rfl
theorem ei_39 : elemInfo PR 39 = some (none, 29, 1) := by kernel_rfl
theorem fo_36_1 : fieldOff PR 36 1 = some 1 := by kernel_rfl
theorem fo_36_2 : fieldOff PR 36 2 = some 2 := by kernel_rfl
theorem fo_41_0 : fieldOff PR 41 0 = some 0 := by kernel_rfl
theorem fo_41_2 : fieldOff PR 41 2 = some 2 := by kernel_rfl
theorem un_4 : PR.underlying 4 = some (.bool) := by kernel_rfl
theorem en_13 : ∀ args w, (callFunc 13 args).run PR w = .ok (.enter 13 args) w := VC.enters_ok Try.func13 (by kernel_rfl) rfl
theorem en_15 : ∀ args w, (callFunc 15 args).run PR w = .ok (.enter 15 args) w := VC.enters_ok Try.func15 (by kernel_rfl) rfl
theorem un_49 : PR.underlying 49 = some (.int .u32) := by kernel_rfl
theorem fs_54 : VC.structPl PR 54 = some [(0, 1), (1, 1), (2, 1), (3, 1)] := by kernel_rfl
theorem z_54 : zeroOf PR 54 = some (Value.agg #[.int .u64 0, .int .u64 0, .slice none 0 0, .slice none 0 0]) := by kernel_rfl
theorem en_16 : ∀ args w, (callFunc 16 args).run PR w = .ok (.enter 16 args) w := VC.enters_ok Try.func16 (by kernel_rfl) rfl
theorem fo_41_3 : fieldOff PR 41 3 = some 3 := by kernel_rfl
theorem en_17 : ∀ args w, (callFunc 17 args).run PR w = .ok (.enter 17 args) w := VC.enters_ok Try.func17 (by kernel_rfl) rfl
theorem en_18 : ∀ args w, (callFunc 18 args).run PR w = .ok (.enter 18 args) w := VC.enters_ok Try.func18 (by kernel_rfl) rfl
theorem en_19 : ∀ args w, (callFunc 19 args).run PR w = .ok (.enter 19 args) w := VC.enters_ok Try.func19 (by kernel_rfl) rfl
theorem en_20 : ∀ args w, (callFunc 20 args).run PR w = .ok (.enter 20 args) w := VC.enters_ok Try.func20 (by kernel_rfl) rfl
end Go.Proofs.Vf
