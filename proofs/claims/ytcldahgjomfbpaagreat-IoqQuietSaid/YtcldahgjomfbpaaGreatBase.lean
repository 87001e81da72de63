/- Printed by a program of this claim: facts on the types and the functions of the program, each by computation. No conditions. -/
import Derived.Test.YtcldahgjomfbpaaGreatProg
import Derived.Test.YtcldahgjomfbpaaGreatV3
namespace Go.VC
theorem za : type_of% @wpL_op := @wpL_op
theorem zb : type_of% @stepAt_of := @stepAt_of
theorem zc : type_of% @wpf_region := @wpf_region
theorem zd : type_of% @op_move := @op_move
theorem ze : type_of% @wpf_seq := @wpf_seq
theorem zf : type_of% @op_fieldAddr := @op_fieldAddr
theorem zg : type_of% @op_assign := @op_assign
theorem zh : type_of% @wpL_nil := @wpL_nil
theorem zi : type_of% @guard_slot := @guard_slot
theorem zj : type_of% @op_nilCheck := @op_nilCheck
theorem zk : type_of% @op_load1 := @op_load1
theorem zm : type_of% @args_cons := @args_cons
theorem zn : type_of% @of_decide_eq_false := @of_decide_eq_false
theorem zo : type_of% @of_decide_eq_true := @of_decide_eq_true
theorem zp : type_of% @bif_false := @bif_false
theorem zq : type_of% @resV_tmp := @resV_tmp
theorem zr : type_of% @stepAt_if := @stepAt_if
theorem zs : type_of% @bif_true := @bif_true
theorem zt : type_of% @of_not_true := @of_not_true
theorem zu : type_of% @resV_nil := @resV_nil
theorem zv : type_of% @ret_leaf := @ret_leaf
theorem zw : type_of% @quiet_of := @quiet_of
theorem zx : type_of% @wpf_ret := @wpf_ret
theorem zy : type_of% @args_nil := @args_nil
theorem zz : type_of% @wpf_cond := @wpf_cond
theorem zA : type_of% @plan_step := @plan_step
theorem zB : type_of% @op_extract := @op_extract
theorem zC : type_of% @wpf_skip := @wpf_skip
theorem zD : type_of% @callsH_of := @callsH_of
theorem zE : type_of% @op_indexAddr_slice := @op_indexAddr_slice
theorem zF : type_of% @wpL_gq := @wpL_gq
theorem zG : type_of% @op_call := @op_call
theorem zH : type_of% @agree_of := @agree_of
theorem zI : type_of% @op_store := @op_store
theorem zJ : type_of% @plan_done := @plan_done
theorem zK : type_of% @wpf_block := @wpf_block
theorem zL : type_of% @of_not_false := @of_not_false
theorem zM : type_of% @parts_cons := @parts_cons
theorem zN : type_of% @op_len_slice := @op_len_slice
theorem zO : type_of% @wpf_draw := @wpf_draw
theorem zP : type_of% @not_of_false := @not_of_false
theorem zQ : type_of% @op_indexAddr_array := @op_indexAddr_array
theorem zR : type_of% @op_pick_or := @op_pick_or
theorem zS : type_of% @op_loadN := @op_loadN
theorem zT : type_of% @parts_nil := @parts_nil
theorem zU : type_of% @wrap_i64 := @wrap_i64
theorem zV : type_of% @op_pick_and := @op_pick_and
theorem zW : type_of% @op_alloc := @op_alloc
theorem zX : type_of% @op_build' := @op_build'
theorem zY : type_of% @op_lss := @op_lss
theorem zZ : type_of% @int_enc := @int_enc
theorem ya : type_of% @wpf_exit := @wpf_exit
theorem yb : type_of% @wpf_loop := @wpf_loop
theorem yc : type_of% @op_slice_sl := @op_slice_sl
theorem yd : type_of% @op_box := @op_box
theorem ye : type_of% @resV_cellN := @resV_cellN
theorem yf : type_of% @op_add := @op_add
theorem yg : type_of% @op_buildSlice' := @op_buildSlice'
theorem yh : type_of% @op_lookup' := @op_lookup'
theorem yi : type_of% @op_not := @op_not
theorem yj : type_of% @op_gtr := @op_gtr
theorem yk : type_of% @lt_of := @lt_of
theorem yl : type_of% @op_makeFunc' := @op_makeFunc'
theorem ym : type_of% @wpf_seq_cut := @wpf_seq_cut
theorem U {α : Sort _} {a : α} : a = a := rfl
theorem V : True := trivial
abbrev Y := Value.pointer
abbrev Z := Value.int
abbrev X := Value.agg
abbrev W := Value.bool
abbrev T := Value.slice
end Go.VC
namespace Go.Proofs.Vf
open Go Go.Proofs Go.VC
noncomputable abbrev PR:Program:=Tryz.prog
theorem mixed_PR:PR.follows .mixedOrders=true:=by kernel_rfl
abbrev Giz:Nat:=9
abbrev Gie:Nat:=16
abbrev Gid:Nat:=17
abbrev Gic:Nat:=18
abbrev Glx:Nat:=20
abbrev Gj2:Nat:=22
abbrev Gj4:Nat:=23
abbrev Gij:Nat:=24
abbrev Gif:Nat:=25
abbrev Gig:Nat:=26
abbrev Glv:Nat:=27
abbrev Gia:Nat:=28
abbrev Gib:Nat:=29
abbrev Gi9:Nat:=30
abbrev Gi8:Nat:=31
abbrev Gj6:Nat:=32
abbrev Gj3:Nat:=34
abbrev Gj5:Nat:=37
abbrev Glz:Nat:=49
abbrev Gjz:Nat:=50
abbrev Glq:Nat:=57
abbrev Gls:Nat:=61
abbrev Gll:Nat:=64
abbrev Gl5:Nat:=65
abbrev Gih:Nat:=66
abbrev Gl8:Nat:=67
abbrev Gip:Nat:=68
abbrev Gl7:Nat:=69
abbrev Glt:Nat:=70
abbrev Glb:Nat:=71
abbrev Gm8:Nat:=72
abbrev Glc:Nat:=73
abbrev Gm6:Nat:=74
abbrev Gm9:Nat:=75
abbrev Gik:Nat:=76
abbrev Gii:Nat:=77
abbrev Gm3:Nat:=82
abbrev Gly:Nat:=83
abbrev Ghl:Nat:=84
abbrev Gm5:Nat:=87
abbrev Giu:Nat:=88
abbrev Gl6:Nat:=89
abbrev Gma:Nat:=90
abbrev Gm1:Nat:=91
abbrev Glw:Nat:=92
abbrev Gm7:Nat:=93
abbrev Gin:Nat:=94
abbrev Gio:Nat:=95
abbrev Gil:Nat:=96
abbrev Gm0:Nat:=112
abbrev Glp:Nat:=115
abbrev Gnq:Nat:=117
abbrev Gln:Nat:=120
abbrev Gn1:Nat:=121
abbrev Glm:Nat:=122
abbrev Gmy:Nat:=124
abbrev Gnx:Nat:=125
abbrev Git:Nat:=126
abbrev Gny:Nat:=127
abbrev Gli:Nat:=128
abbrev Gmx:Nat:=129
abbrev Glk:Nat:=130
abbrev Gn5:Nat:=131
abbrev Glu:Nat:=132
abbrev Gm4:Nat:=133
abbrev Glh:Nat:=134
abbrev Ghr:Nat:=135
abbrev Gmb:Nat:=136
abbrev Gl9:Nat:=137
abbrev Gir:Nat:=138
abbrev Gnt:Nat:=146
abbrev Gm2:Nat:=147
abbrev Gnv:Nat:=148
abbrev Gis:Nat:=149
abbrev Gn3:Nat:=162
abbrev Gnz:Nat:=163
abbrev Go2:Nat:=164
abbrev Gn4:Nat:=165
abbrev Glj:Nat:=166
abbrev Gho:Nat:=167
abbrev Ghn:Nat:=168
abbrev Ghm:Nat:=169
abbrev Glg:Nat:=172
abbrev Gld:Nat:=173
abbrev Glf:Nat:=174
abbrev Ghs:Nat:=175
abbrev Gn2:Nat:=176
abbrev Gnu:Nat:=177
abbrev Go0:Nat:=182
abbrev Go1:Nat:=183
abbrev Gn7:Nat:=184
abbrev Giq:Nat:=185
abbrev Go3:Nat:=188
abbrev Ghq:Nat:=189
abbrev Ghp:Nat:=190
abbrev Gle:Nat:=192
abbrev Gn0:Nat:=195
abbrev Gl0:Nat:=196
abbrev Gl1:Nat:=202
abbrev ty_int:Nat:=3
abbrev ty_uint8:Nat:=5
abbrev ty_interface:Nat:=20
abbrev ty_api_Piece:Nat:=41
abbrev ty_api_Fate:Nat:=74
abbrev ty_api_Want:Nat:=148
abbrev ty_ioq_Device:Nat:=156
abbrev ty_ioq_open:Nat:=166
abbrev ty_ioq_entry:Nat:=172
abbrev ty_ptr_pool_buffer:Nat:=184
abbrev ty_pool_buffer:Nat:=186
abbrev ty_pool_Pool:Nat:=215
abbrev ty_order_Queue:Nat:=236
abbrev ty_life_Book:Nat:=245
abbrev ty_ring_Ring:Nat:=257
abbrev ty_wheel_Wheel:Nat:=290
theorem un_37:PR.underlying 37=some (.int .u64):=by kernel_rfl
theorem un_3:PR.underlying 3=some (.int .i64):=by kernel_rfl
theorem fs_290:VC.structPl PR 290=some [(0,256),(256,1),(257,1)]:=by kernel_rfl
theorem z_290:zeroOf PR 290=some (Value.agg #[.map none,.map none,.map none,.map none,.map none,.map none,.map none,.map none,.map none,.map none,.map none,.map none,.map none,.map none,.map none,.map none,.map none,.map none,.map none,.map none,.map none,.map none,.map none,.map none,.map none,.map none,.map none,.map none,.map none,.map none,.map none,.map none,.map none,.map none,.map none,.map none,.map none,.map none,.map none,.map none,.map none,.map none,.map none,.map none,.map none,.map none,.map none,.map none,.map none,.map none,.map none,.map none,.map none,.map none,.map none,.map none,.map none,.map none,.map none,.map none,.map none,.map none,.map none,.map none,.map none,.map none,.map none,.map none,.map none,.map none,.map none,.map none,.map none,.map none,.map none,.map none,.map none,.map none,.map none,.map none,.map none,.map none,.map none,.map none,.map none,.map none,.map none,.map none,.map none,.map none,.map none,.map none,.map none,.map none,.map none,.map none,.map none,.map none,.map none,.map none,.map none,.map none,.map none,.map none,.map none,.map none,.map none,.map none,.map none,.map none,.map none,.map none,.map none,.map none,.map none,.map none,.map none,.map none,.map none,.map none,.map none,.map none,.map none,.map none,.map none,.map none,.map none,.map none,.map none,.map none,.map none,.map none,.map none,.map none,.map none,.map none,.map none,.map none,.map none,.map none,.map none,.map none,.map none,.map none,.map none,.map none,.map none,.map none,.map none,.map none,.map none,.map none,.map none,.map none,.map none,.map none,.map none,.map none,.map none,.map none,.map none,.map none,.map none,.map none,.map none,.map none,.map none,.map none,.map none,.map none,.map none,.map none,.map none,.map none,.map none,.map none,.map none,.map none,.map none,.map none,.map none,.map none,.map none,.map none,.map none,.map none,.map none,.map none,.map none,.map none,.map none,.map none,.map none,.map none,.map none,.map none,.map none,.map none,.map none,.map none,.map none,.map none,.map none,.map none,.map none,.map none,.map none,.map none,.map none,.map none,.map none,.map none,.map none,.map none,.map none,.map none,.map none,.map none,.map none,.map none,.map none,.map none,.map none,.map none,.map none,.map none,.map none,.map none,.map none,.map none,.map none,.map none,.map none,.map none,.map none,.map none,.map none,.map none,.map none,.map none,.map none,.map none,.map none,.map none,.map none,.map none,.map none,.map none,.map none,.map none,.map none,.map none,.map none,.map none,.map none,.map none,.map none,.int .u64 0]):=by kernel_rfl
theorem fo_290_2:fieldOff PR 290 2=some 257:=by kernel_rfl
theorem ag_37:aggSize PR 37=some none:=by kernel_rfl
theorem en_188 : ∀ args w,(callFunc 188 args).run PR w = .ok (.enter 188 args) w:=VC.enters_ok Tryz.func188 (by kernel_rfl) rfl
theorem fo_290_0:fieldOff PR 290 0=some 0:=by kernel_rfl
theorem ei_287:elemInfo PR 287=some (some 16,286,16):=by kernel_rfl
theorem ei_286:elemInfo PR 286=some (some 16,285,1):=by kernel_rfl
theorem ag_285:aggSize PR 285=some none:=by kernel_rfl
theorem mt_285:PR.underlying 285=some (.map 3 4)∧PR.underlying 3=some (.int .i64):=⟨by kernel_rfl,by kernel_rfl⟩
theorem fo_290_1:fieldOff PR 290 1=some 256:=by kernel_rfl
theorem ag_288:aggSize PR 288=some none:=by kernel_rfl
theorem fs_292:VC.structPl PR 292=some [(0,1),(1,1),(2,1)]:=by kernel_rfl
theorem z_292:zeroOf PR 292=some (Value.agg #[.int .u64 0,.int .i64 0,.int .i64 0]):=by kernel_rfl
theorem mt_288:PR.underlying 288=some (.map 3 292)∧PR.underlying 3=some (.int .i64):=⟨by kernel_rfl,by kernel_rfl⟩
theorem un_285:PR.underlying 285=some (.map 3 4):=by kernel_rfl
theorem sz_285:sizeT PR 285=some 1:=by kernel_rfl
theorem sz_292:sizeT PR 292=some 3:=by kernel_rfl
theorem fo_292_1:fieldOff PR 292 1=some 1:=by kernel_rfl
theorem ag_3:aggSize PR 3=some none:=by kernel_rfl
theorem fo_292_2:fieldOff PR 292 2=some 2:=by kernel_rfl
theorem en_117 : ∀ args w,(callFunc 117 args).run PR w = .ok (.enter 117 args) w:=VC.enters_ok Tryz.func117 (by kernel_rfl) rfl
theorem en_164 : ∀ args w,(callFunc 164 args).run PR w = .ok (.enter 164 args) w:=VC.enters_ok Tryz.func164 (by kernel_rfl) rfl
theorem en_163 : ∀ args w,(callFunc 163 args).run PR w = .ok (.enter 163 args) w:=VC.enters_ok Tryz.func163 (by kernel_rfl) rfl
theorem fp_292_0:fieldPart PR 292 0=some (0,none):=by kernel_rfl
theorem sz_37:sizeT PR 37=some 1:=by kernel_rfl
theorem en_196 : ∀ args w,(callFunc 196 args).run PR w = .ok (.enter 196 args) w:=VC.enters_ok Tryz.func196 (by kernel_rfl) rfl
theorem en_195 : ∀ args w,(callFunc 195 args).run PR w = .ok (.enter 195 args) w:=VC.enters_ok Tryz.func195 (by kernel_rfl) rfl
theorem un_34:PR.underlying 34=some (.slice 3):=by kernel_rfl
theorem ei_34:elemInfo PR 34=some (none,3,1):=by kernel_rfl
theorem en_182 : ∀ args w,(callFunc 182 args).run PR w = .ok (.enter 182 args) w:=VC.enters_ok Tryz.func182 (by kernel_rfl) rfl
theorem en_183 : ∀ args w,(callFunc 183 args).run PR w = .ok (.enter 183 args) w:=VC.enters_ok Tryz.func183 (by kernel_rfl) rfl
theorem un_288:PR.underlying 288=some (.map 3 292):=by kernel_rfl
theorem en_184 : ∀ args w,(callFunc 184 args).run PR w = .ok (.enter 184 args) w:=VC.enters_ok Tryz.func184 (by kernel_rfl) rfl
theorem ri_34:rowInfo PR 34=some (3,1,8,(Value.int .i64 0)):=by kernel_rfl
theorem fo_292_0:fieldOff PR 292 0=some 0:=by kernel_rfl
theorem en_190 : ∀ args w,(callFunc 190 args).run PR w = .ok (.enter 190 args) w:=VC.enters_ok Tryz.func190 (by kernel_rfl) rfl
theorem en_146 : ∀ args w,(callFunc 146 args).run PR w = .ok (.enter 146 args) w:=VC.enters_ok Tryz.func146 (by kernel_rfl) rfl
theorem fs_245:VC.structPl PR 245=some [(0,1),(1,1),(2,1),(3,64),(67,64),(131,1)]:=by kernel_rfl
theorem z_245:zeroOf PR 245=some (Value.agg #[.int .u64 0,.pointer none,.map none,.int .i64 0,.int .i64 0,.int .i64 0,.int .i64 0,.int .i64 0,.int .i64 0,.int .i64 0,.int .i64 0,.int .i64 0,.int .i64 0,.int .i64 0,.int .i64 0,.int .i64 0,.int .i64 0,.int .i64 0,.int .i64 0,.int .i64 0,.int .i64 0,.int .i64 0,.int .i64 0,.int .i64 0,.int .i64 0,.int .i64 0,.int .i64 0,.int .i64 0,.int .i64 0,.int .i64 0,.int .i64 0,.int .i64 0,.int .i64 0,.int .i64 0,.int .i64 0,.int .i64 0,.int .i64 0,.int .i64 0,.int .i64 0,.int .i64 0,.int .i64 0,.int .i64 0,.int .i64 0,.int .i64 0,.int .i64 0,.int .i64 0,.int .i64 0,.int .i64 0,.int .i64 0,.int .i64 0,.int .i64 0,.int .i64 0,.int .i64 0,.int .i64 0,.int .i64 0,.int .i64 0,.int .i64 0,.int .i64 0,.int .i64 0,.int .i64 0,.int .i64 0,.int .i64 0,.int .i64 0,.int .i64 0,.int .i64 0,.int .i64 0,.int .i64 0,.bool false,.bool false,.bool false,.bool false,.bool false,.bool false,.bool false,.bool false,.bool false,.bool false,.bool false,.bool false,.bool false,.bool false,.bool false,.bool false,.bool false,.bool false,.bool false,.bool false,.bool false,.bool false,.bool false,.bool false,.bool false,.bool false,.bool false,.bool false,.bool false,.bool false,.bool false,.bool false,.bool false,.bool false,.bool false,.bool false,.bool false,.bool false,.bool false,.bool false,.bool false,.bool false,.bool false,.bool false,.bool false,.bool false,.bool false,.bool false,.bool false,.bool false,.bool false,.bool false,.bool false,.bool false,.bool false,.bool false,.bool false,.bool false,.bool false,.bool false,.bool false,.bool false,.bool false,.bool false,.slice none 0 0]):=by kernel_rfl
theorem fo_245_2:fieldOff PR 245 2=some 2:=by kernel_rfl
theorem ag_241:aggSize PR 241=some none:=by kernel_rfl
theorem mt_241:PR.underlying 241=some (.map 3 238)∧PR.underlying 3=some (.int .i64):=⟨by kernel_rfl,by kernel_rfl⟩
theorem z_238:zeroOf PR 238=some (Value.agg #[.int .i64 0,.int .u64 0]):=by kernel_rfl
theorem sz_238:sizeT PR 238=some 2:=by kernel_rfl
theorem un_241:PR.underlying 241=some (.map 3 238):=by kernel_rfl
theorem fo_245_0:fieldOff PR 245 0=some 0:=by kernel_rfl
theorem fo_245_1:fieldOff PR 245 1=some 1:=by kernel_rfl
theorem ag_240:aggSize PR 240=some none:=by kernel_rfl
theorem en_125 : ∀ args w,(callFunc 125 args).run PR w = .ok (.enter 125 args) w:=VC.enters_ok Tryz.func125 (by kernel_rfl) rfl
theorem en_126 : ∀ args w,(callFunc 126 args).run PR w = .ok (.enter 126 args) w:=VC.enters_ok Tryz.func126 (by kernel_rfl) rfl
theorem en_127 : ∀ args w,(callFunc 127 args).run PR w = .ok (.enter 127 args) w:=VC.enters_ok Tryz.func127 (by kernel_rfl) rfl
theorem fs_238:VC.structPl PR 238=some [(0,1),(1,1)]:=by kernel_rfl
theorem fo_245_4:fieldOff PR 245 4=some 67:=by kernel_rfl
theorem ei_243:elemInfo PR 243=some (some 64,4,1):=by kernel_rfl
theorem fo_245_3:fieldOff PR 245 3=some 3:=by kernel_rfl
theorem sz_4:sizeT PR 4=some 1:=by kernel_rfl
theorem ei_242:elemInfo PR 242=some (some 64,3,1):=by kernel_rfl
theorem sz_3:sizeT PR 3=some 1:=by kernel_rfl
theorem en_148 : ∀ args w,(callFunc 148 args).run PR w = .ok (.enter 148 args) w:=VC.enters_ok Tryz.func148 (by kernel_rfl) rfl
theorem en_149 : ∀ args w,(callFunc 149 args).run PR w = .ok (.enter 149 args) w:=VC.enters_ok Tryz.func149 (by kernel_rfl) rfl
theorem en_138 : ∀ args w,(callFunc 138 args).run PR w = .ok (.enter 138 args) w:=VC.enters_ok Tryz.func138 (by kernel_rfl) rfl
theorem fo_245_5:fieldOff PR 245 5=some 131:=by kernel_rfl
theorem ag_70:aggSize PR 70=some none:=by kernel_rfl
theorem sz_70:sizeT PR 70=some 1:=by kernel_rfl
theorem fo_238_1:fieldOff PR 238 1=some 1:=by kernel_rfl
theorem ag_243:aggSize PR 243=some (some 64):=by kernel_rfl
theorem ag_4:aggSize PR 4=some none:=by kernel_rfl
theorem en_185 : ∀ args w,(callFunc 185 args).run PR w = .ok (.enter 185 args) w:=VC.enters_ok Tryz.func185 (by kernel_rfl) rfl
theorem fp_238_1:fieldPart PR 238 1=some (1,none):=by kernel_rfl
theorem fo_238_0:fieldOff PR 238 0=some 0:=by kernel_rfl
theorem en_177 : ∀ args w,(callFunc 177 args).run PR w = .ok (.enter 177 args) w:=VC.enters_ok Tryz.func177 (by kernel_rfl) rfl
theorem fs_74:VC.structPl PR 74=some [(0,1),(1,1),(2,1)]:=by kernel_rfl
theorem z_74:zeroOf PR 74=some (Value.agg #[.int .i64 0,.int .i64 0,.int .i64 0]):=by kernel_rfl
theorem ri_70:rowInfo PR 70=some (74,3,24,(Value.agg #[.int .i64 0,.int .i64 0,.int .i64 0])):=by kernel_rfl
theorem un_70:PR.underlying 70=some (.slice 74):=by kernel_rfl
theorem un_86:PR.underlying 86=some (.slice 202):=by kernel_rfl
theorem ei_86:elemInfo PR 86=some (none,202,2):=by kernel_rfl
theorem ag_202:aggSize PR 202=some (some 2):=by kernel_rfl
theorem z_202:zeroOf PR 202=some (Value.agg #[.int .i64 0,.int .i64 0]):=by kernel_rfl
theorem sz_202:sizeT PR 202=some 2:=by kernel_rfl
theorem fo_202_0:fieldOff PR 202 0=some 0:=by kernel_rfl
theorem fo_202_1:fieldOff PR 202 1=some 1:=by kernel_rfl
theorem en_115 : ∀ args w,(callFunc 115 args).run PR w = .ok (.enter 115 args) w:=VC.enters_ok Tryz.func115 (by kernel_rfl) rfl
theorem fs_215:VC.structPl PR 215=some [(0,1)]:=by kernel_rfl
theorem z_215:zeroOf PR 215=some (Value.agg #[.slice none 0 0]):=by kernel_rfl
theorem fo_215_0:fieldOff PR 215 0=some 0:=by kernel_rfl
theorem ag_213:aggSize PR 213=some none:=by kernel_rfl
theorem ri_23:rowInfo PR 23=some (5,1,1,(Value.int .u8 0)):=by kernel_rfl
theorem fs_186:VC.structPl PR 186=some [(0,1),(1,1),(2,1),(3,1)]:=by kernel_rfl
theorem z_186:zeroOf PR 186=some (Value.agg #[.int .u64 0,.int .i64 0,.int .i64 0,.slice none 0 0]):=by kernel_rfl
theorem ri_213:rowInfo PR 213=some (184,1,8,(Value.pointer none)):=by kernel_rfl
theorem un_213:PR.underlying 213=some (.slice 184):=by kernel_rfl
theorem sz_213:sizeT PR 213=some 1:=by kernel_rfl
theorem z_39:zeroOf PR 39=some (Value.agg #[.int .i64 0,.int .u64 0]):=by kernel_rfl
theorem ei_213:elemInfo PR 213=some (none,184,1):=by kernel_rfl
theorem ag_184:aggSize PR 184=some none:=by kernel_rfl
theorem fo_186_3:fieldOff PR 186 3=some 3:=by kernel_rfl
theorem ag_23:aggSize PR 23=some none:=by kernel_rfl
theorem un_23:PR.underlying 23=some (.slice 5):=by kernel_rfl
theorem fs_39:VC.structPl PR 39=some [(0,1),(1,1)]:=by kernel_rfl
theorem sz_39:sizeT PR 39=some 2:=by kernel_rfl
theorem ag_39:aggSize PR 39=some (some 2):=by kernel_rfl
theorem fo_186_1:fieldOff PR 186 1=some 1:=by kernel_rfl
theorem fo_186_2:fieldOff PR 186 2=some 2:=by kernel_rfl
theorem fo_186_0:fieldOff PR 186 0=some 0:=by kernel_rfl
theorem fo_39_0:fieldOff PR 39 0=some 0:=by kernel_rfl
theorem fo_39_1:fieldOff PR 39 1=some 1:=by kernel_rfl
theorem en_132 : ∀ args w,(callFunc 132 args).run PR w = .ok (.enter 132 args) w:=VC.enters_ok Tryz.func132 (by kernel_rfl) rfl
theorem en_82 : ∀ args w,(callFunc 82 args).run PR w = .ok (.enter 82 args) w:=VC.enters_ok Tryz.func82 (by kernel_rfl) rfl
theorem en_133 : ∀ args w,(callFunc 133 args).run PR w = .ok (.enter 133 args) w:=VC.enters_ok Tryz.func133 (by kernel_rfl) rfl
theorem z_3:zeroOf PR 3=some (Value.int .i64 0):=by kernel_rfl
theorem en_92 : ∀ args w,(callFunc 92 args).run PR w = .ok (.enter 92 args) w:=VC.enters_ok Tryz.func92 (by kernel_rfl) rfl
theorem en_112 : ∀ args w,(callFunc 112 args).run PR w = .ok (.enter 112 args) w:=VC.enters_ok Tryz.func112 (by kernel_rfl) rfl
theorem en_147 : ∀ args w,(callFunc 147 args).run PR w = .ok (.enter 147 args) w:=VC.enters_ok Tryz.func147 (by kernel_rfl) rfl
theorem ei_23:elemInfo PR 23=some (none,5,1):=by kernel_rfl
theorem z_23:zeroOf PR 23=some (Value.slice none 0 0):=by kernel_rfl
theorem en_83 : ∀ args w,(callFunc 83 args).run PR w = .ok (.enter 83 args) w:=VC.enters_ok Tryz.func83 (by kernel_rfl) rfl
theorem en_84 : ∀ args w,(callFunc 84 args).run PR w = .ok (.enter 84 args) w:=VC.enters_ok Tryz.func84 (by kernel_rfl) rfl
theorem sz_23:sizeT PR 23=some 1:=by kernel_rfl
theorem un_157:PR.underlying 157=some (.slice 41):=by kernel_rfl
theorem ei_157:elemInfo PR 157=some (none,41,4):=by kernel_rfl
theorem ag_41:aggSize PR 41=some (some 4):=by kernel_rfl
theorem z_41:zeroOf PR 41=some (Value.agg #[.int .i64 0,.int .u64 0,.int .i64 0,.int .i64 0]):=by kernel_rfl
theorem sz_41:sizeT PR 41=some 4:=by kernel_rfl
theorem en_120 : ∀ args w,(callFunc 120 args).run PR w = .ok (.enter 120 args) w:=VC.enters_ok Tryz.func120 (by kernel_rfl) rfl
theorem en_121 : ∀ args w,(callFunc 121 args).run PR w = .ok (.enter 121 args) w:=VC.enters_ok Tryz.func121 (by kernel_rfl) rfl
theorem fo_41_0:fieldOff PR 41 0=some 0:=by kernel_rfl
theorem en_49 : ∀ args w,(callFunc 49 args).run PR w = .ok (.enter 49 args) w:=VC.enters_ok Tryz.func49 (by kernel_rfl) rfl
theorem fo_41_1:fieldOff PR 41 1=some 2:=by kernel_rfl
theorem fo_41_2:fieldOff PR 41 2=some 3:=by kernel_rfl
theorem en_162 : ∀ args w,(callFunc 162 args).run PR w = .ok (.enter 162 args) w:=VC.enters_ok Tryz.func162 (by kernel_rfl) rfl
theorem fo_148_0:fieldOff PR 148 0=some 0:=by kernel_rfl
theorem fo_148_1:fieldOff PR 148 1=some 1:=by kernel_rfl
theorem fo_148_2:fieldOff PR 148 2=some 2:=by kernel_rfl
theorem fs_236:VC.structPl PR 236=some [(0,1),(1,1),(2,1)]:=by kernel_rfl
theorem z_236:zeroOf PR 236=some (Value.agg #[.slice none 0 0,.int .i64 0,.bool false]):=by kernel_rfl
theorem en_168 : ∀ args w,(callFunc 168 args).run PR w = .ok (.enter 168 args) w:=VC.enters_ok Tryz.func168 (by kernel_rfl) rfl
theorem en_169 : ∀ args w,(callFunc 169 args).run PR w = .ok (.enter 169 args) w:=VC.enters_ok Tryz.func169 (by kernel_rfl) rfl
theorem en_167 : ∀ args w,(callFunc 167 args).run PR w = .ok (.enter 167 args) w:=VC.enters_ok Tryz.func167 (by kernel_rfl) rfl
theorem fo_236_0:fieldOff PR 236 0=some 0:=by kernel_rfl
theorem ag_107:aggSize PR 107=some none:=by kernel_rfl
theorem en_166 : ∀ args w,(callFunc 166 args).run PR w = .ok (.enter 166 args) w:=VC.enters_ok Tryz.func166 (by kernel_rfl) rfl
theorem en_165 : ∀ args w,(callFunc 165 args).run PR w = .ok (.enter 165 args) w:=VC.enters_ok Tryz.func165 (by kernel_rfl) rfl
theorem ag_148:aggSize PR 148=some (some 3):=by kernel_rfl
theorem en_65 : ∀ args w,(callFunc 65 args).run PR w = .ok (.enter 65 args) w:=VC.enters_ok Tryz.func65 (by kernel_rfl) rfl
theorem en_128 : ∀ args w,(callFunc 128 args).run PR w = .ok (.enter 128 args) w:=VC.enters_ok Tryz.func128 (by kernel_rfl) rfl
theorem un_107:PR.underlying 107=some (.slice 148):=by kernel_rfl
theorem en_129 : ∀ args w,(callFunc 129 args).run PR w = .ok (.enter 129 args) w:=VC.enters_ok Tryz.func129 (by kernel_rfl) rfl
theorem ri_107:rowInfo PR 107=some (148,3,24,(Value.agg #[.int .i64 0,.int .u64 0,.int .i64 0])):=by kernel_rfl
theorem en_131 : ∀ args w,(callFunc 131 args).run PR w = .ok (.enter 131 args) w:=VC.enters_ok Tryz.func131 (by kernel_rfl) rfl
theorem sz_107:sizeT PR 107=some 1:=by kernel_rfl
theorem en_176 : ∀ args w,(callFunc 176 args).run PR w = .ok (.enter 176 args) w:=VC.enters_ok Tryz.func176 (by kernel_rfl) rfl
theorem en_124 : ∀ args w,(callFunc 124 args).run PR w = .ok (.enter 124 args) w:=VC.enters_ok Tryz.func124 (by kernel_rfl) rfl
theorem ei_107:elemInfo PR 107=some (none,148,3):=by kernel_rfl
theorem z_148:zeroOf PR 148=some (Value.agg #[.int .i64 0,.int .u64 0,.int .i64 0]):=by kernel_rfl
theorem en_192 : ∀ args w,(callFunc 192 args).run PR w = .ok (.enter 192 args) w:=VC.enters_ok Tryz.func192 (by kernel_rfl) rfl
theorem fs_148:VC.structPl PR 148=some [(0,1),(1,1),(2,1)]:=by kernel_rfl
theorem sz_148:sizeT PR 148=some 3:=by kernel_rfl
theorem ag_150:aggSize PR 150=some none:=by kernel_rfl
theorem fo_236_1:fieldOff PR 236 1=some 1:=by kernel_rfl
theorem en_172 : ∀ args w,(callFunc 172 args).run PR w = .ok (.enter 172 args) w:=VC.enters_ok Tryz.func172 (by kernel_rfl) rfl
theorem en_173 : ∀ args w,(callFunc 173 args).run PR w = .ok (.enter 173 args) w:=VC.enters_ok Tryz.func173 (by kernel_rfl) rfl
theorem en_174 : ∀ args w,(callFunc 174 args).run PR w = .ok (.enter 174 args) w:=VC.enters_ok Tryz.func174 (by kernel_rfl) rfl
theorem fo_236_2:fieldOff PR 236 2=some 2:=by kernel_rfl
theorem en_134 : ∀ args w,(callFunc 134 args).run PR w = .ok (.enter 134 args) w:=VC.enters_ok Tryz.func134 (by kernel_rfl) rfl
theorem en_137 : ∀ args w,(callFunc 137 args).run PR w = .ok (.enter 137 args) w:=VC.enters_ok Tryz.func137 (by kernel_rfl) rfl
theorem un_48:PR.underlying 48=some (.int .u64):=by kernel_rfl
theorem ov_170 : ∀ args w,(callFunc 170 args).run PR w=((Extern.SlicesOverlaps.overlaps #[107,107] #[4] args).run PR w).andThen fun v w=>.ok (.value v) w:=run_callFunc_extern Tryz.func170 (by kernel_rfl) (by kernel_rfl) (by kernel_rfl) (by kernel_rfl)
theorem en_189 : ∀ args w,(callFunc 189 args).run PR w = .ok (.enter 189 args) w:=VC.enters_ok Tryz.func189 (by kernel_rfl) rfl
theorem ri_255:rowInfo PR 255=some (20,1,16,Value.nilIface):=by kernel_rfl
theorem fs_257:VC.structPl PR 257=some [(0,1),(1,1),(2,1),(3,1)]:=by kernel_rfl
theorem z_257:zeroOf PR 257=some (Value.agg #[.slice none 0 0,.int .i64 0,.int .i64 0,.int .i64 0]):=by kernel_rfl
theorem fo_63_5:fieldOff PR 63 5=some 6:=by kernel_rfl
theorem fo_63_6:fieldOff PR 63 6=some 7:=by kernel_rfl
theorem fo_63_7:fieldOff PR 63 7=some 8:=by kernel_rfl
theorem ag_63:aggSize PR 63=some (some 9):=by kernel_rfl
theorem en_135 : ∀ args w,(callFunc 135 args).run PR w = .ok (.enter 135 args) w:=VC.enters_ok Tryz.func135 (by kernel_rfl) rfl
theorem fo_257_1:fieldOff PR 257 1=some 1:=by kernel_rfl
theorem fo_257_3:fieldOff PR 257 3=some 3:=by kernel_rfl
theorem fo_257_0:fieldOff PR 257 0=some 0:=by kernel_rfl
theorem ag_255:aggSize PR 255=some none:=by kernel_rfl
theorem un_255:PR.underlying 255=some (.slice 20):=by kernel_rfl
theorem cn_63:PR.concrete 63=true:=by kernel_rfl
theorem en_136 : ∀ args w,(callFunc 136 args).run PR w = .ok (.enter 136 args) w:=VC.enters_ok Tryz.func136 (by kernel_rfl) rfl
theorem ei_255:elemInfo PR 255=some (none,20,1):=by kernel_rfl
theorem sz_20:sizeT PR 20=some 1:=by kernel_rfl
theorem z_63:zeroOf PR 63=some (Value.agg #[.int .i64 0,.int .i64 0,.int .i64 0,.int .u64 0,.int .i64 0,.int .i64 0,.bool false,.bool false,.int .i64 0]):=by kernel_rfl
theorem fo_257_2:fieldOff PR 257 2=some 2:=by kernel_rfl
theorem fs_63:VC.structPl PR 63=some [(0,1),(1,1),(2,2),(4,1),(5,1),(6,1),(7,1),(8,1)]:=by kernel_rfl
theorem sz_63:sizeT PR 63=some 9:=by kernel_rfl
theorem ag_20:aggSize PR 20=some none:=by kernel_rfl
theorem is_63:VC.isStructT PR 63=true:=by kernel_rfl
theorem fo_63_0:fieldOff PR 63 0=some 0:=by kernel_rfl
theorem en_175 : ∀ args w,(callFunc 175 args).run PR w = .ok (.enter 175 args) w:=VC.enters_ok Tryz.func175 (by kernel_rfl) rfl
theorem fo_63_1:fieldOff PR 63 1=some 1:=by kernel_rfl
theorem fo_63_2:fieldOff PR 63 2=some 2:=by kernel_rfl
theorem fo_63_3:fieldOff PR 63 3=some 4:=by kernel_rfl
theorem fo_63_4:fieldOff PR 63 4=some 5:=by kernel_rfl
theorem en_87 : ∀ args w,(callFunc 87 args).run PR w = .ok (.enter 87 args) w:=VC.enters_ok Tryz.func87 (by kernel_rfl) rfl
theorem en_88 : ∀ args w,(callFunc 88 args).run PR w = .ok (.enter 88 args) w:=VC.enters_ok Tryz.func88 (by kernel_rfl) rfl
theorem en_89 : ∀ args w,(callFunc 89 args).run PR w = .ok (.enter 89 args) w:=VC.enters_ok Tryz.func89 (by kernel_rfl) rfl
theorem fs_156:VC.structPl PR 156=some [(0,1),(1,1),(2,1),(3,1),(4,1),(5,1)]:=by kernel_rfl
theorem z_156:zeroOf PR 156=some (Value.agg #[.pointer none,.pointer none,.pointer none,.pointer none,.map none,.map none]):=by kernel_rfl
theorem fo_156_5:fieldOff PR 156 5=some 5:=by kernel_rfl
theorem ag_154:aggSize PR 154=some none:=by kernel_rfl
theorem un_154:PR.underlying 154=some (.map 3 170):=by kernel_rfl
theorem fo_172_0:fieldOff PR 172 0=some 0:=by kernel_rfl
theorem fo_43_0:fieldOff PR 43 0=some 0:=by kernel_rfl
theorem fo_43_2:fieldOff PR 43 2=some 2:=by kernel_rfl
theorem fo_43_3:fieldOff PR 43 3=some 3:=by kernel_rfl
theorem fo_156_0:fieldOff PR 156 0=some 0:=by kernel_rfl
theorem ag_27:aggSize PR 27=some none:=by kernel_rfl
theorem fo_43_4:fieldOff PR 43 4=some 4:=by kernel_rfl
theorem ri_157:rowInfo PR 157=some (41,4,32,(Value.agg #[.int .i64 0,.int .u64 0,.int .i64 0,.int .i64 0])):=by kernel_rfl
theorem en_64 : ∀ args w,(callFunc 64 args).run PR w = .ok (.enter 64 args) w:=VC.enters_ok Tryz.func64 (by kernel_rfl) rfl
theorem fo_43_1:fieldOff PR 43 1=some 1:=by kernel_rfl
theorem en_27 : ∀ args w,(callFunc 27 args).run PR w = .ok (.enter 27 args) w:=VC.enters_ok Tryz.func27 (by kernel_rfl) rfl
theorem en_66 : ∀ args w,(callFunc 66 args).run PR w = .ok (.enter 66 args) w:=VC.enters_ok Tryz.func66 (by kernel_rfl) rfl
theorem fo_156_1:fieldOff PR 156 1=some 1:=by kernel_rfl
theorem en_67 : ∀ args w,(callFunc 67 args).run PR w = .ok (.enter 67 args) w:=VC.enters_ok Tryz.func67 (by kernel_rfl) rfl
theorem fo_156_4:fieldOff PR 156 4=some 4:=by kernel_rfl
theorem ag_153:aggSize PR 153=some none:=by kernel_rfl
theorem mt_153:PR.underlying 153=some (.map 3 161)∧PR.underlying 3=some (.int .i64):=⟨by kernel_rfl,by kernel_rfl⟩
theorem z_161:zeroOf PR 161=some (Value.pointer none):=by kernel_rfl
theorem un_161:PR.underlying 161=some (.pointer 166):=by kernel_rfl
theorem fo_156_3:fieldOff PR 156 3=some 3:=by kernel_rfl
theorem ag_152:aggSize PR 152=some none:=by kernel_rfl
theorem en_68 : ∀ args w,(callFunc 68 args).run PR w = .ok (.enter 68 args) w:=VC.enters_ok Tryz.func68 (by kernel_rfl) rfl
theorem en_69 : ∀ args w,(callFunc 69 args).run PR w = .ok (.enter 69 args) w:=VC.enters_ok Tryz.func69 (by kernel_rfl) rfl
theorem en_70 : ∀ args w,(callFunc 70 args).run PR w = .ok (.enter 70 args) w:=VC.enters_ok Tryz.func70 (by kernel_rfl) rfl
theorem ag_43:aggSize PR 43=some (some 8):=by kernel_rfl
theorem fs_166:VC.structPl PR 166=some [(0,8),(8,1),(9,1)]:=by kernel_rfl
theorem z_166:zeroOf PR 166=some (Value.agg #[.int .i64 0,.int .i64 0,.int .u64 0,.int .i64 0,.int .i64 0,.int .u64 0,.int .i64 0,.int .i64 0,.int .i64 0,.int .i64 0]):=by kernel_rfl
theorem en_71 : ∀ args w,(callFunc 71 args).run PR w = .ok (.enter 71 args) w:=VC.enters_ok Tryz.func71 (by kernel_rfl) rfl
theorem fo_156_2:fieldOff PR 156 2=some 2:=by kernel_rfl
theorem ag_151:aggSize PR 151=some none:=by kernel_rfl
theorem fo_166_0:fieldOff PR 166 0=some 0:=by kernel_rfl
theorem en_72 : ∀ args w,(callFunc 72 args).run PR w = .ok (.enter 72 args) w:=VC.enters_ok Tryz.func72 (by kernel_rfl) rfl
theorem en_73 : ∀ args w,(callFunc 73 args).run PR w = .ok (.enter 73 args) w:=VC.enters_ok Tryz.func73 (by kernel_rfl) rfl
theorem fs_172:VC.structPl PR 172=some [(0,1),(1,1),(2,1),(3,1),(4,1)]:=by kernel_rfl
theorem z_172:zeroOf PR 172=some (Value.agg #[.int .i64 0,.bool false,.bool false,.bool false,.bool false]):=by kernel_rfl
theorem fo_166_1:fieldOff PR 166 1=some 8:=by kernel_rfl
theorem mt_154:PR.underlying 154=some (.map 3 170)∧PR.underlying 3=some (.int .i64):=⟨by kernel_rfl,by kernel_rfl⟩
theorem z_170:zeroOf PR 170=some (Value.pointer none):=by kernel_rfl
theorem en_90 : ∀ args w,(callFunc 90 args).run PR w = .ok (.enter 90 args) w:=VC.enters_ok Tryz.func90 (by kernel_rfl) rfl
theorem fo_172_2:fieldOff PR 172 2=some 2:=by kernel_rfl
theorem fo_172_1:fieldOff PR 172 1=some 1:=by kernel_rfl
theorem fo_166_2:fieldOff PR 166 2=some 9:=by kernel_rfl
theorem fo_172_3:fieldOff PR 172 3=some 3:=by kernel_rfl
theorem en_91 : ∀ args w,(callFunc 91 args).run PR w = .ok (.enter 91 args) w:=VC.enters_ok Tryz.func91 (by kernel_rfl) rfl
theorem en_93 : ∀ args w,(callFunc 93 args).run PR w = .ok (.enter 93 args) w:=VC.enters_ok Tryz.func93 (by kernel_rfl) rfl
theorem fo_172_4:fieldOff PR 172 4=some 4:=by kernel_rfl
theorem en_74 : ∀ args w,(callFunc 74 args).run PR w = .ok (.enter 74 args) w:=VC.enters_ok Tryz.func74 (by kernel_rfl) rfl
theorem en_75 : ∀ args w,(callFunc 75 args).run PR w = .ok (.enter 75 args) w:=VC.enters_ok Tryz.func75 (by kernel_rfl) rfl
theorem en_76 : ∀ args w,(callFunc 76 args).run PR w = .ok (.enter 76 args) w:=VC.enters_ok Tryz.func76 (by kernel_rfl) rfl
theorem en_77 : ∀ args w,(callFunc 77 args).run PR w = .ok (.enter 77 args) w:=VC.enters_ok Tryz.func77 (by kernel_rfl) rfl
theorem en_96 : ∀ args w,(callFunc 96 args).run PR w = .ok (.enter 96 args) w:=VC.enters_ok Tryz.func96 (by kernel_rfl) rfl
theorem en_94 : ∀ args w,(callFunc 94 args).run PR w = .ok (.enter 94 args) w:=VC.enters_ok Tryz.func94 (by kernel_rfl) rfl
theorem ei_70:elemInfo PR 70=some (none,74,3):=by kernel_rfl
theorem ag_74:aggSize PR 74=some (some 3):=by kernel_rfl
theorem sz_74:sizeT PR 74=some 3:=by kernel_rfl
theorem fo_74_0:fieldOff PR 74 0=some 0:=by kernel_rfl
theorem en_95 : ∀ args w,(callFunc 95 args).run PR w = .ok (.enter 95 args) w:=VC.enters_ok Tryz.func95 (by kernel_rfl) rfl
theorem fs_202:VC.structPl PR 202=some [(0,1),(1,1)]:=by kernel_rfl
theorem ri_86:rowInfo PR 86=some (202,2,16,(Value.agg #[.int .i64 0,.int .i64 0])):=by kernel_rfl
theorem en_34 : ∀ args w,(callFunc 34 args).run PR w = .ok (.enter 34 args) w:=VC.enters_ok Tryz.func34 (by kernel_rfl) rfl
theorem en_57 : ∀ args w,(callFunc 57 args).run PR w = .ok (.enter 57 args) w:=VC.enters_ok Tryz.func57 (by kernel_rfl) rfl
theorem un_27:PR.underlying 27=some (.pointer 215):=by kernel_rfl
theorem en_61 : ∀ args w,(callFunc 61 args).run PR w = .ok (.enter 61 args) w:=VC.enters_ok Tryz.func61 (by kernel_rfl) rfl
theorem en_23 : ∀ args w,(callFunc 23 args).run PR w = .ok (.enter 23 args) w:=VC.enters_ok Tryz.func23 (by kernel_rfl) rfl
theorem en_24 : ∀ args w,(callFunc 24 args).run PR w = .ok (.enter 24 args) w:=VC.enters_ok Tryz.func24 (by kernel_rfl) rfl
theorem un_28:PR.underlying 28=some (.pointer 156):=by kernel_rfl
theorem fs_41:VC.structPl PR 41=some [(0,2),(2,1),(3,1)]:=by kernel_rfl
theorem fs_43:VC.structPl PR 43=some [(0,1),(1,1),(2,1),(3,1),(4,4)]:=by kernel_rfl
theorem z_43:zeroOf PR 43=some (Value.agg #[.int .i64 0,.int .i64 0,.int .u64 0,.int .i64 0,.int .i64 0,.int .u64 0,.int .i64 0,.int .i64 0]):=by kernel_rfl
theorem en_16 : ∀ args w,(callFunc 16 args).run PR w = .ok (.enter 16 args) w:=VC.enters_ok Tryz.func16 (by kernel_rfl) rfl
theorem en_17 : ∀ args w,(callFunc 17 args).run PR w = .ok (.enter 17 args) w:=VC.enters_ok Tryz.func17 (by kernel_rfl) rfl
theorem en_25 : ∀ args w,(callFunc 25 args).run PR w = .ok (.enter 25 args) w:=VC.enters_ok Tryz.func25 (by kernel_rfl) rfl
theorem un_5:PR.underlying 5=some (.int .u8):=by kernel_rfl
theorem en_26 : ∀ args w,(callFunc 26 args).run PR w = .ok (.enter 26 args) w:=VC.enters_ok Tryz.func26 (by kernel_rfl) rfl
theorem en_28 : ∀ args w,(callFunc 28 args).run PR w = .ok (.enter 28 args) w:=VC.enters_ok Tryz.func28 (by kernel_rfl) rfl
theorem en_18 : ∀ args w,(callFunc 18 args).run PR w = .ok (.enter 18 args) w:=VC.enters_ok Tryz.func18 (by kernel_rfl) rfl
theorem en_29 : ∀ args w,(callFunc 29 args).run PR w = .ok (.enter 29 args) w:=VC.enters_ok Tryz.func29 (by kernel_rfl) rfl
theorem en_20 : ∀ args w,(callFunc 20 args).run PR w = .ok (.enter 20 args) w:=VC.enters_ok Tryz.func20 (by kernel_rfl) rfl
theorem eg_74:PR.eqGuardType PR.depth 74=false:=by kernel_rfl
theorem eqp_74:VC.eqPlan PR 74=some [(3,0),(3,1),(3,2)]:=by kernel_rfl
theorem un_9:PR.underlying 9=some (.string):=by kernel_rfl
theorem un_83:PR.underlying 83=some (.slice 93):=by kernel_rfl
theorem ei_83:elemInfo PR 83=some (none,93,12):=by kernel_rfl
theorem fo_93_4:fieldOff PR 93 4=some 11:=by kernel_rfl
theorem ag_5:aggSize PR 5=some none:=by kernel_rfl
theorem en_22 : ∀ args w,(callFunc 22 args).run PR w = .ok (.enter 22 args) w:=VC.enters_ok Tryz.func22 (by kernel_rfl) rfl
theorem en_30 : ∀ args w,(callFunc 30 args).run PR w = .ok (.enter 30 args) w:=VC.enters_ok Tryz.func30 (by kernel_rfl) rfl
theorem en_31 : ∀ args w,(callFunc 31 args).run PR w = .ok (.enter 31 args) w:=VC.enters_ok Tryz.func31 (by kernel_rfl) rfl
theorem en_32 : ∀ args w,(callFunc 32 args).run PR w = .ok (.enter 32 args) w:=VC.enters_ok Tryz.func32 (by kernel_rfl) rfl
theorem ag_93:aggSize PR 93=some (some 12):=by kernel_rfl
theorem z_93:zeroOf PR 93=some (Value.agg #[.int .i64 0,.int .i64 0,.int .i64 0,.int .u64 0,.int .i64 0,.int .i64 0,.int .u64 0,.int .i64 0,.int .i64 0,.int .i64 0,.int .i64 0,.slice none 0 0]):=by kernel_rfl
theorem sz_93:sizeT PR 93=some 12:=by kernel_rfl
theorem z_115:zeroOf PR 115=some (Value.agg #[.slice none 0 0,.slice none 0 0,.slice none 0 0,.slice none 0 0]):=by kernel_rfl
theorem z_116:zeroOf PR 116=some (Value.agg #[.int .i64 0,.int .i64 0,.int .i64 0,.int .i64 0]):=by kernel_rfl
theorem ei_115:elemInfo PR 115=some (some 4,23,1):=by kernel_rfl
theorem ei_116:elemInfo PR 116=some (some 4,3,1):=by kernel_rfl
theorem en_50 : ∀ args w,(callFunc 50 args).run PR w = .ok (.enter 50 args) w:=VC.enters_ok Tryz.func50 (by kernel_rfl) rfl
theorem fo_93_0:fieldOff PR 93 0=some 0:=by kernel_rfl
theorem fo_93_1:fieldOff PR 93 1=some 1:=by kernel_rfl
theorem en_37 : ∀ args w,(callFunc 37 args).run PR w = .ok (.enter 37 args) w:=VC.enters_ok Tryz.func37 (by kernel_rfl) rfl
theorem fo_93_2:fieldOff PR 93 2=some 9:=by kernel_rfl
theorem fo_93_3:fieldOff PR 93 3=some 10:=by kernel_rfl
end Go.Proofs.Vf
