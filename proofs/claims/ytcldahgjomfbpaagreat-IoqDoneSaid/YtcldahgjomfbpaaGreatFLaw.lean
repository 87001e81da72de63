/- Printed by a program of this claim: for each Go function named below a formula over the heap, and the proof that it gives the call of that function. No conditions. -/
import Derived.Test.YtcldahgjomfbpaaGreatBase
namespace Go.Proofs.Vf
open Go Go.Proofs Go.VC
set_option maxRecDepth 100000
set_option maxHeartbeats 4000000
set_option linter.unusedVariables false
def F_linchpinlaw20_classes (K:Option Addr→Nat→Nat→Heap→Prop) (h:Heap):Prop:=
 ∀ (h1:Heap),h1=h.push (.cells #[.int .i64 8,.int .i64 3,.int .i64 20,.int .i64 2] 202 (0,0))→K (some ⟨h.size,0,none⟩) 2 2 h1
theorem F_linchpinlaw20_classes_ok (R:Value→Heap→Prop) (h:Heap) (H:F_linchpinlaw20_classes  (fun r0a r0n r0c h'=>R (Value.slice r0a r0n r0c) h') h):CallsH PR fn_linchpinlaw20_classes #[] h R:=by
 refine zF (args:=[]) Tryz.func34 rfl rfl ?_
 intro f hf
 clear hf
 unfold F_linchpinlaw20_classes at H
 refine ze ?_
 refine zc rfl ?_
 refine za (zf (v:=.slice none 0 0) rfl ?_)
 refine zi ?_
 refine ze ?_
 refine zc rfl ?_
 refine za (zU (vs:=[(0,.int .i64 8),(1,.int .i64 3)]) (cs:=#[.int .i64 8,.int .i64 3]) z_202 fs_202 (zA rfl (zA rfl zP)) rfl ?_)
 refine za (zU (vs:=[(0,.int .i64 20),(1,.int .i64 2)]) (cs:=#[.int .i64 20,.int .i64 2]) z_202 fs_202 (zA rfl (zA rfl zP)) rfl ?_)
 obtain ⟨h1,c2⟩ : ∃ h1,h1=h.push (.cells #[.int .i64 8,.int .i64 3,.int .i64 20,.int .i64 2] 202 (0,0)):=⟨_,rfl⟩
 replace H:=H h1 c2
 refine za (op_buildSlice' (cs:=#[.int .i64 8,.int .i64 3,.int .i64 20,.int .i64 2]) (vs:=[(0,.agg #[.int .i64 8,.int .i64 3]),(1,.agg #[.int .i64 20,.int .i64 2])]) (zl:=[.int .i64 0,.int .i64 0]) ri_86 (by decide) rfl rfl (zA rfl (zA rfl zP)) rfl c2 ?_)
 refine za (zf (v:=.slice (some ⟨h.size,0,none⟩) 2 2) rfl ?_)
 refine zi ?_
 refine zy ?_
 exact zt (zn rfl zr) H
def F_linchpinlaw20_got (K:Option Addr→Heap→Prop) (h:Heap):Prop:=
 CallsH PR fn_linchpinlaw20_classes #[] h (fun v h1=>∃ (x3a:Option Addr) (x3n:Nat) (x3c:Nat),v=(Value.slice x3a x3n x3c)∧CallsH PR fn_pool_New #[.slice x3a x3n x3c] h1 (fun v h4=>∃ (x6:Option Addr) (x7:Int),v=(Value.tuple #[.pointer x6,.int .i64 x7])∧((x6.isNone || (!decide (x7=0)))=true→K none h4)∧((x6.isNone || (!decide (x7=0)))=false→∃ (I11:Int→Heap→Prop) (mu12:Int→Heap→Nat),I11 0 h4∧∀ (x10:Int) (h14:Heap),I11 x10 h14→(x10<4→CallsH PR fn_pool_Pool_Get #[.pointer x6,.int .i64 1] h14 (fun v h16=>∃ (x18_0:Int) (x18_1:Int) (x19:Int),v=(Value.tuple #[.agg #[.int .i64 x18_0,.int .u64 x18_1],.int .i64 x19])∧(-9223372036854775808≤x10+1∧x10+1<9223372036854775808)∧(I11 (x10+1) h16∧mu12 (x10+1) h16<mu12 x10 h14)))∧((¬ (x10<4))→K x6 h14))))
theorem F_linchpinlaw20_got_ok (R:Value→Heap→Prop) (h:Heap) (H:F_linchpinlaw20_got  (fun r0 h'=>R (Value.pointer r0) h') h):CallsH PR fn_linchpinlaw20_got #[] h R:=by
 refine zF (args:=[]) Tryz.func23 rfl rfl ?_
 intro f hf
 clear hf
 unfold F_linchpinlaw20_got at H
 refine ze ?_
 refine zc rfl ?_
 refine za (zf (v:=.pointer none) rfl ?_)
 refine zi ?_
 refine ze ?_
 refine zc rfl ?_
 refine za (zB (vs:=[]) en_34 zv (CallsH.mono H ?_))
 clear H
 rintro _ h1 ⟨x3a,x3n,x3c,rfl,H⟩
 refine za (zB (vs:=[.slice x3a x3n x3c]) en_57 (zj rfl zv) (CallsH.mono H ?_))
 clear H
 rintro _ h4 ⟨x6,x7,rfl,H⟩
 refine za (zd (v:=.tuple #[.pointer x6,.int .i64 x7]) rfl ?_)
 refine za (zx rfl rfl ?_)
 refine za (zx rfl rfl ?_)
 refine za (zf (v:=.pointer x6) rfl ?_)
 refine za (zf (v:=.int .i64 x7) rfl ?_)
 refine zi ?_
 refine ze ?_
 refine ze ?_
 refine zc rfl ?_
 refine za (zd (v:=.pointer x6) rfl ?_)
 refine za (op_eq_ptr_nil rfl rfl un_27 ?_)
 refine za (zd (v:=.bool x6.isNone) rfl ?_)
 refine zw (b:=!x6.isNone) (zh rfl rfl) (Value.int .i64 x7) (fun hb N hN=>zd (v:=.int .i64 x7) rfl hN) ?_
 refine zw (b:=!x6.isNone) (zh rfl rfl) (Value.bool (!decide (x7=0))) (fun hb N hN=>op_neq (gv hb) rfl hN) ?_
 refine za (zN rfl rfl (fun hq=>(gv (zI hq))) ?_)
 refine zi ?_
 refine zz (x6.isNone || (!decide (x7=0))) rfl ?_ ?_
 ·intro hb
  replace H:=H.1 hb
  refine ze ?_
  refine zc rfl ?_
  refine za (zf (v:=.pointer none) rfl ?_)
  refine zi ?_
  refine zy ?_
  exact zt (zn rfl zr) H
 ·intro hb
  replace H:=H.2 hb
  refine zC ?_
  refine ze ?_
  refine ze ?_
  refine zc rfl ?_
  refine za (zf (v:=.int .i64 0) rfl ?_)
  refine zi ?_
  refine zJ ?_
  obtain ⟨I11,mu12,hI,H⟩:=H
  obtain ⟨I13,mu13,hin13,hout13,hmu13⟩ : ∃ (J13:Fr→Heap→Prop) (m:Fr→Heap→Nat),(∀ f hz (x10:Int),f 3 = .int .i64 x10→f 1 = .pointer x6→I11 x10 hz→J13 f hz)∧(∀ f hz,J13 f hz→∃ (x10:Int),f 3 = .int .i64 x10∧f 1 = .pointer x6∧I11 x10 hz)∧(∀ f hz (x10:Int),f 3 = .int .i64 x10→m f hz=mu12 x10 hz):=⟨fun f hz=>∃ (x10:Int),f 3 = .int .i64 x10∧f 1 = .pointer x6∧I11 x10 hz,fun f hz=>mu12 (dInt (f 3)) hz,fun _ _ x10 a0 a1 z=>⟨x10,a0,a1,z⟩,fun _ _ hz=>hz,fun f hz x10 a0=>by simp only [a0]; rfl⟩
  refine wpf_loop I13 mu13 (hin13 _ _ _ rfl rfl hI) ?_
  clear hI
  intro f h14 hf
  obtain ⟨x10,a13_0,a13_1,hJ⟩:=hout13 _ _ hf
  replace H:=H x10 h14 hJ
  refine ze ?_
  refine ze ?_
  refine zc rfl ?_
  refine za (zd (v:=.int .i64 x10) a13_0 ?_)
  refine za (op_lss rfl rfl ?_)
  refine zi ?_
  refine zz (decide (x10<4)) rfl ?_ ?_
  ·intro hb
   replace H:=H.1 (of_decide_eq_true hb)
   refine zC ?_
   refine ze ?_
   refine zJ ?_
   refine zc rfl ?_
   refine za (zd (v:=.pointer x6) a13_1 ?_)
   refine za (zB (vs:=[.pointer x6,.int .i64 1]) en_61 (zj rfl (zj rfl zv)) (CallsH.mono H ?_))
   clear H
   rintro _ h16 ⟨x18_0,x18_1,x19,rfl,H⟩
   refine zi ?_
   refine zc rfl ?_
   refine za (zd (v:=.int .i64 x10) a13_0 ?_)
   obtain ⟨c20,H⟩:=H
   refine za (op_add rfl rfl (zT c20) ?_)
   refine za (zf (v:=.int .i64 (x10+1)) rfl ?_)
   refine zi ?_
   exact And.intro (hin13 _ _ _ rfl a13_1 H.1) (lt_of (hmu13 _ _ _ rfl) (hmu13 _ _ _ a13_0) H.2)
  ·intro hb
   replace H:=H.2 (of_decide_eq_false hb)
   refine wpf_exit ?_
   refine ze ?_
   refine zc rfl ?_
   refine za (zd (v:=.pointer x6) a13_1 ?_)
   refine za (zf (v:=.pointer x6) rfl ?_)
   refine zi ?_
   refine zy ?_
   exact zt (zn rfl zr) H
def F_linchpinlaw20_awake (K:Bool→Heap→Prop) (h:Heap):Prop:=
 CallsH PR fn_linchpinlaw20_got #[] h (fun v h1=>∃ (x3:Option Addr),v=(Value.pointer x3)∧(x3.isNone=true→K false h1)∧(x3.isNone=false→CallsH PR fn_ioq_New #[.pointer x3,.int .i64 2,.int .u64 5] h1 (fun v h5=>∃ (x7:Option Addr) (x8:Int),v=(Value.tuple #[.pointer x7,.int .i64 x8])∧((x7.isNone || (!decide (x8=0)))=true→K false h5)∧((x7.isNone || (!decide (x8=0)))=false→∀ (h11:Heap),h11=h5.push (.cells #[.int .i64 0,.int .u64 0] 39 (0,0))→∃ (h14:Heap),stCells h5.size h11 0 [.int .i64 0,.int .u64 1]=some h14∧∃ (x15_0:Int) (x15_1:Int),ldCells h14 h5.size 0 2=some [.int .i64 x15_0,.int .u64 x15_1]∧CallsH PR fn_ioq_Device_Submit #[.pointer x7,.agg #[.int .i64 7,.int .i64 0,.int .u64 100,.int .i64 0,.int .i64 x15_0,.int .u64 x15_1,.int .i64 2,.int .i64 4]] h14 (fun v h17=>∃ (x19:Int),v=(Value.int .i64 x19)∧∃ (x20_0:Int) (x20_1:Int),ldCells h17 h5.size 0 2=some [.int .i64 x20_0,.int .u64 x20_1]∧CallsH PR fn_ioq_Device_Submit #[.pointer x7,.agg #[.int .i64 8,.int .i64 0,.int .u64 100,.int .i64 0,.int .i64 x20_0,.int .u64 x20_1,.int .i64 2,.int .i64 4]] h17 (fun v h22=>∃ (x24:Int),v=(Value.int .i64 x24)∧CallsH PR fn_ioq_Device_Start #[.pointer x7] h22 (fun v h25=>∃ (x27a:Option Addr) (x27n:Nat) (x27c:Nat),v=(Value.slice x27a x27n x27c)∧CallsH PR fn_ioq_Device_Take #[.pointer x7] h25 (fun v h28=>∃ (x30:Int) (x31_0:Int) (x31_1:Int) (x31_2:Int) (x31_3:Int) (x31_4:Int) (x31_5:Int) (x31_6:Bool) (x31_7:Bool) (x31_8:Int) (x32:Int),v=(Value.tuple #[.int .i64 x30,.agg #[.int .i64 x31_0,.int .i64 x31_1,.int .i64 x31_2,.int .u64 x31_3,.int .i64 x31_4,.int .i64 x31_5,.bool x31_6,.bool x31_7,.int .i64 x31_8],.int .i64 x32])∧∀ (h33:Heap),h33=h28.push (.cells #[.int .i64 0,.int .i64 0,.int .i64 0,.int .u64 0,.int .i64 0,.int .i64 0,.bool false,.bool false,.int .i64 0] 63 (0,0))→∃ (h36:Heap),stCells h28.size h33 0 [.int .i64 x31_0,.int .i64 x31_1,.int .i64 x31_2,.int .u64 x31_3,.int .i64 x31_4,.int .i64 x31_5,.bool x31_6,.bool x31_7,.int .i64 x31_8]=some h36∧∀ (h37:Heap),h37=h36.push (.cells #[.int .u8 97,.int .u8 98] 5 (0,0))→isBlk h37 h36.size∧∀ (h39:Heap),MarkH h36.size h37 h39→CallsH PR fn_ioq_Device_Write #[.pointer x7,.int .i64 x30,.int .i64 1,.slice (some ⟨h36.size,0,none⟩) 2 2] h39 (fun v h42=>∃ (x44:Int),v=(Value.int .i64 x44)∧CallsH PR fn_ioq_Device_Finish #[.pointer x7,.int .i64 x30,.int .i64 9,.bool false] h42 (fun v h45=>∃ (x47:Int),v=(Value.int .i64 x47)∧CallsH PR fn_ioq_Device_Reap #[.pointer x7] h45 (fun v h48=>∃ (x50:Int) (x51:Int),v=(Value.tuple #[.int .i64 x50,.int .i64 x51])∧CallsH PR fn_ioq_Device_Go #[.pointer x7,.int .u64 1] h48 (fun v h52=>∃ (x54a:Option Addr) (x54n:Nat) (x54c:Nat) (x55:Int),v=(Value.tuple #[.slice x54a x54n x54c,.int .i64 x55])∧∃ (x57_0:Int) (x57_1:Int),ldCells h52 h5.size 0 2=some [.int .i64 x57_0,.int .u64 x57_1]∧CallsH PR fn_pool_Pool_Read #[.pointer x3,.agg #[.int .i64 x57_0,.int .u64 x57_1],.int .i64 3,.int .i64 2] h52 (fun v h59=>∃ (x61a:Option Addr) (x61n:Nat) (x61c:Nat) (x62:Int),v=(Value.tuple #[.slice x61a x61n x61c,.int .i64 x62])∧∃ (b72:Nat) (o73:Nat),((((((((((decide (x19=0)) && (decide (x24=8))) && (decide ((x27n:Int)=1))) && (decide (x32=0))) && (decide (x44=0))) && (decide (x50=7))) && (decide (x51=0))) && (decide ((x54n:Int)=1)))=true)→x54a=some ⟨b72,o73,none⟩)∧((((((((((decide (x19=0)) && (decide (x24=8))) && (decide ((x27n:Int)=1))) && (decide (x32=0))) && (decide (x44=0))) && (decide (x50=7))) && (decide (x51=0))) && (decide ((x54n:Int)=1)))=true)→0≤(0:Int)∧(0:Int)<(x54n:Int))∧∃ (x75_0:Int) (x75_1:Int) (x75_2:Int),((((((((((decide (x19=0)) && (decide (x24=8))) && (decide ((x27n:Int)=1))) && (decide (x32=0))) && (decide (x44=0))) && (decide (x50=7))) && (decide (x51=0))) && (decide ((x54n:Int)=1)))=true)→ldCells h59 b72 o73 3=some [.int .i64 x75_0,.int .i64 x75_1,.int .i64 x75_2])∧∃ (xs78:List Int),(((((((((((decide (x19=0)) && (decide (x24=8))) && (decide ((x27n:Int)=1))) && (decide (x32=0))) && (decide (x44=0))) && (decide (x50=7))) && (decide (x51=0))) && (decide ((x54n:Int)=1))) && ((decide (x75_0=7)) && ((decide (x75_1=1)) && ((decide (x75_2=9)) && true))))=true)→firstH h59 1 x61n (Value.slice x61a x61n x61c)=some (xs78.map (Value.int .u8)))∧K ((((((((((decide (x19=0)) && (decide (x24=8))) && (decide ((x27n:Int)=1))) && (decide (x32=0))) && (decide (x44=0))) && (decide (x50=7))) && (decide (x51=0))) && (decide ((x54n:Int)=1))) && ((decide (x75_0=7)) && ((decide (x75_1=1)) && ((decide (x75_2=9)) && true)))) && (decide ((strOfNums xs78)=(ByteArray.mk #[97,98])))) h59)))))))))))))
theorem F_linchpinlaw20_awake_ok (R:Value→Heap→Prop) (h:Heap) (H:F_linchpinlaw20_awake  (fun r0 h'=>R (Value.bool r0) h') h):CallsH PR fn_linchpinlaw20_awake #[] h R:=by
 refine zF (args:=[]) Tryz.func22 rfl rfl ?_
 intro f hf
 clear hf
 unfold F_linchpinlaw20_awake at H
 refine ze ?_
 refine zc rfl ?_
 refine za (zf (v:=.bool false) rfl ?_)
 refine zi ?_
 refine ze ?_
 refine zc rfl ?_
 refine za (zB (vs:=[]) en_23 zv (CallsH.mono H ?_))
 clear H
 rintro _ h1 ⟨x3,rfl,H⟩
 refine za (zf (v:=.pointer x3) rfl ?_)
 refine zi ?_
 refine ze ?_
 refine ze ?_
 refine zc rfl ?_
 refine za (zd (v:=.pointer x3) rfl ?_)
 refine za (op_eq_ptr_nil rfl rfl un_27 ?_)
 refine zi ?_
 refine zz (x3.isNone) rfl ?_ ?_
 ·intro hb
  replace H:=H.1 hb
  refine ze ?_
  refine zc rfl ?_
  refine za (zf (v:=.bool false) rfl ?_)
  refine zi ?_
  refine zy ?_
  exact zt (zn rfl zr) H
 ·intro hb
  replace H:=H.2 hb
  refine zC ?_
  refine ze ?_
  refine zc rfl ?_
  refine za (zd (v:=.pointer x3) rfl ?_)
  refine za (zB (vs:=[.pointer x3,.int .i64 2,.int .u64 5]) en_24 (zj rfl (zj rfl (zj rfl zv))) (CallsH.mono H ?_))
  clear H
  rintro _ h5 ⟨x7,x8,rfl,H⟩
  refine za (zd (v:=.tuple #[.pointer x7,.int .i64 x8]) rfl ?_)
  refine za (zx rfl rfl ?_)
  refine za (zx rfl rfl ?_)
  refine za (zf (v:=.pointer x7) rfl ?_)
  refine za (zf (v:=.int .i64 x8) rfl ?_)
  refine zi ?_
  refine ze ?_
  refine ze ?_
  refine zc rfl ?_
  refine za (zd (v:=.pointer x7) rfl ?_)
  refine za (op_eq_ptr_nil rfl rfl un_28 ?_)
  refine za (zd (v:=.bool x7.isNone) rfl ?_)
  refine zw (b:=!x7.isNone) (zh rfl rfl) (Value.int .i64 x8) (fun hb N hN=>zd (v:=.int .i64 x8) rfl hN) ?_
  refine zw (b:=!x7.isNone) (zh rfl rfl) (Value.bool (!decide (x8=0))) (fun hb N hN=>op_neq (gv hb) rfl hN) ?_
  refine za (zN rfl rfl (fun hq=>(gv (zI hq))) ?_)
  refine zi ?_
  refine zz (x7.isNone || (!decide (x8=0))) rfl ?_ ?_
  ·intro hb
   replace H:=H.1 hb
   refine ze ?_
   refine zc rfl ?_
   refine za (zf (v:=.bool false) rfl ?_)
   refine zi ?_
   refine zy ?_
   exact zt (zn rfl zr) H
  ·intro hb
   replace H:=H.2 hb
   refine zC ?_
   refine ze ?_
   refine zc rfl ?_
   refine za (zU (vs:=[(0,.int .i64 0),(1,.int .u64 1)]) (cs:=#[.int .i64 0,.int .u64 1]) z_39 fs_39 (zA rfl (zA rfl zP)) rfl ?_)
   obtain ⟨h11,c12⟩ : ∃ h11,h11=h5.push (.cells #[.int .i64 0,.int .u64 0] 39 (0,0)):=⟨_,rfl⟩
   replace H:=H h11 c12
   refine za (zV z_39 c12 ?_)
   obtain ⟨h14,c13,H⟩:=H
   refine za (zH (v:=.agg #[.int .i64 0,.int .u64 1]) rfl rfl sz_39 rfl c13 ?_)
   refine zi ?_
   refine ze ?_
   refine zc rfl ?_
   refine za (zd (v:=.pointer x7) rfl ?_)
   obtain ⟨x15_0,x15_1,c16,H⟩:=H
   refine za (zQ rfl ag_39 c16 ?_)
   refine za (zU (vs:=[(0,.agg #[.int .i64 x15_0,.int .u64 x15_1]),(1,.int .i64 2),(2,.int .i64 4)]) (cs:=#[.int .i64 x15_0,.int .u64 x15_1,.int .i64 2,.int .i64 4]) z_41 fs_41 (zA rfl (zA rfl (zA rfl zP))) rfl ?_)
   refine za (zU (vs:=[(0,.int .i64 7),(2,.int .u64 100),(4,.agg #[.int .i64 x15_0,.int .u64 x15_1,.int .i64 2,.int .i64 4])]) (cs:=#[.int .i64 7,.int .i64 0,.int .u64 100,.int .i64 0,.int .i64 x15_0,.int .u64 x15_1,.int .i64 2,.int .i64 4]) z_43 fs_43 (zA rfl (zA rfl (zA rfl zP))) rfl ?_)
   refine za (zB (vs:=[.pointer x7,.agg #[.int .i64 7,.int .i64 0,.int .u64 100,.int .i64 0,.int .i64 x15_0,.int .u64 x15_1,.int .i64 2,.int .i64 4]]) en_16 (zj rfl (zj rfl zv)) (CallsH.mono H ?_))
   clear H
   rintro _ h17 ⟨x19,rfl,H⟩
   refine za (zf (v:=.int .i64 x19) rfl ?_)
   refine zi ?_
   refine ze ?_
   refine zc rfl ?_
   refine za (zd (v:=.pointer x7) rfl ?_)
   obtain ⟨x20_0,x20_1,c21,H⟩:=H
   refine za (zQ rfl ag_39 c21 ?_)
   refine za (zU (vs:=[(0,.agg #[.int .i64 x20_0,.int .u64 x20_1]),(1,.int .i64 2),(2,.int .i64 4)]) (cs:=#[.int .i64 x20_0,.int .u64 x20_1,.int .i64 2,.int .i64 4]) z_41 fs_41 (zA rfl (zA rfl (zA rfl zP))) rfl ?_)
   refine za (zU (vs:=[(0,.int .i64 8),(2,.int .u64 100),(4,.agg #[.int .i64 x20_0,.int .u64 x20_1,.int .i64 2,.int .i64 4])]) (cs:=#[.int .i64 8,.int .i64 0,.int .u64 100,.int .i64 0,.int .i64 x20_0,.int .u64 x20_1,.int .i64 2,.int .i64 4]) z_43 fs_43 (zA rfl (zA rfl (zA rfl zP))) rfl ?_)
   refine za (zB (vs:=[.pointer x7,.agg #[.int .i64 8,.int .i64 0,.int .u64 100,.int .i64 0,.int .i64 x20_0,.int .u64 x20_1,.int .i64 2,.int .i64 4]]) en_16 (zj rfl (zj rfl zv)) (CallsH.mono H ?_))
   clear H
   rintro _ h22 ⟨x24,rfl,H⟩
   refine za (zf (v:=.int .i64 x24) rfl ?_)
   refine zi ?_
   refine ze ?_
   refine zc rfl ?_
   refine za (zd (v:=.pointer x7) rfl ?_)
   refine za (zB (vs:=[.pointer x7]) en_17 (zj rfl zv) (CallsH.mono H ?_))
   clear H
   rintro _ h25 ⟨x27a,x27n,x27c,rfl,H⟩
   refine za (zf (v:=.slice x27a x27n x27c) rfl ?_)
   refine zi ?_
   refine ze ?_
   refine zc rfl ?_
   refine za (zd (v:=.pointer x7) rfl ?_)
   refine za (zB (vs:=[.pointer x7]) en_25 (zj rfl zv) (CallsH.mono H ?_))
   clear H
   rintro _ h28 ⟨x30,x31_0,x31_1,x31_2,x31_3,x31_4,x31_5,x31_6,x31_7,x31_8,x32,rfl,H⟩
   refine za (zd (v:=.tuple #[.int .i64 x30,.agg #[.int .i64 x31_0,.int .i64 x31_1,.int .i64 x31_2,.int .u64 x31_3,.int .i64 x31_4,.int .i64 x31_5,.bool x31_6,.bool x31_7,.int .i64 x31_8],.int .i64 x32]) rfl ?_)
   refine za (zx rfl rfl ?_)
   refine za (zx rfl rfl ?_)
   refine za (zx rfl rfl ?_)
   obtain ⟨h33,c34⟩ : ∃ h33,h33=h28.push (.cells #[.int .i64 0,.int .i64 0,.int .i64 0,.int .u64 0,.int .i64 0,.int .i64 0,.bool false,.bool false,.int .i64 0] 63 (0,0)):=⟨_,rfl⟩
   replace H:=H h33 c34
   refine za (zV z_63 c34 ?_)
   refine za (zf (v:=.int .i64 x30) rfl ?_)
   obtain ⟨h36,c35,H⟩:=H
   refine za (zH (v:=.agg #[.int .i64 x31_0,.int .i64 x31_1,.int .i64 x31_2,.int .u64 x31_3,.int .i64 x31_4,.int .i64 x31_5,.bool x31_6,.bool x31_7,.int .i64 x31_8]) rfl rfl sz_63 rfl c35 ?_)
   refine za (zf (v:=.int .i64 x32) rfl ?_)
   refine zi ?_
   refine ze ?_
   refine zc rfl ?_
   refine za (zd (v:=.pointer x7) rfl ?_)
   refine za (zd (v:=.int .i64 x30) rfl ?_)
   obtain ⟨h37,c38⟩ : ∃ h37,h37=h36.push (.cells #[.int .u8 97,.int .u8 98] 5 (0,0)):=⟨_,rfl⟩
   replace H:=H h37 c38
   refine za (op_buildSlice' (cs:=#[.int .u8 97,.int .u8 98]) (vs:=[(0,.int .u8 97),(1,.int .u8 98)]) (zl:=[.int .u8 0]) ri_23 (by decide) rfl rfl (zA rfl (zA rfl zP)) rfl c38 ?_)
   obtain ⟨c41,H⟩:=H
   refine za (op_mark rfl un_23 un_5 c41 ?_)
   intro h39 c40
   replace H:=H h39 c40
   refine za (zB (vs:=[.pointer x7,.int .i64 x30,.int .i64 1,.slice (some ⟨h36.size,0,none⟩) 2 2]) en_26 (zj rfl (zj rfl (zj rfl (zj rfl zv)))) (CallsH.mono H ?_))
   clear H
   rintro _ h42 ⟨x44,rfl,H⟩
   refine za (zf (v:=.int .i64 x44) rfl ?_)
   refine zi ?_
   refine ze ?_
   refine zc rfl ?_
   refine za (zd (v:=.pointer x7) rfl ?_)
   refine za (zd (v:=.int .i64 x30) rfl ?_)
   refine za (zB (vs:=[.pointer x7,.int .i64 x30,.int .i64 9,.bool false]) en_28 (zj rfl (zj rfl (zj rfl (zj rfl zv)))) (CallsH.mono H ?_))
   clear H
   rintro _ h45 ⟨x47,rfl,H⟩
   refine zi ?_
   refine ze ?_
   refine zc rfl ?_
   refine za (zd (v:=.pointer x7) rfl ?_)
   refine za (zB (vs:=[.pointer x7]) en_18 (zj rfl zv) (CallsH.mono H ?_))
   clear H
   rintro _ h48 ⟨x50,x51,rfl,H⟩
   refine za (zd (v:=.tuple #[.int .i64 x50,.int .i64 x51]) rfl ?_)
   refine za (zx rfl rfl ?_)
   refine za (zx rfl rfl ?_)
   refine za (zf (v:=.int .i64 x50) rfl ?_)
   refine za (zf (v:=.int .i64 x51) rfl ?_)
   refine zi ?_
   refine ze ?_
   refine zc rfl ?_
   refine za (zd (v:=.pointer x7) rfl ?_)
   refine za (zB (vs:=[.pointer x7,.int .u64 1]) en_29 (zj rfl (zj rfl zv)) (CallsH.mono H ?_))
   clear H
   rintro _ h52 ⟨x54a,x54n,x54c,x55,rfl,H⟩
   refine za (zd (v:=.tuple #[.slice x54a x54n x54c,.int .i64 x55]) rfl ?_)
   refine za (zx rfl rfl ?_)
   refine za (zx rfl rfl ?_)
   refine za (zf (v:=.slice x54a x54n x54c) rfl ?_)
   refine za (zf (v:=.int .i64 x55) rfl ?_)
   refine zi ?_
   refine ze ?_
   refine wpf_forget ?_
   intro fg56 hfg56
   have ag56_0:fg56 1=(Value.pointer x3):=by rw [hfg56]; exact rfl
   have ag56_1:fg56 4=(Value.pointer (some ⟨h5.size,0,none⟩)):=by rw [hfg56]; exact rfl
   have ag56_2:fg56 5=(Value.int .i64 x19):=by rw [hfg56]; exact rfl
   have ag56_3:fg56 6=(Value.int .i64 x24):=by rw [hfg56]; exact rfl
   have ag56_4:fg56 7=(Value.slice x27a x27n x27c):=by rw [hfg56]; exact rfl
   have ag56_5:fg56 10=(Value.int .i64 x32):=by rw [hfg56]; exact rfl
   have ag56_6:fg56 11=(Value.int .i64 x44):=by rw [hfg56]; exact rfl
   have ag56_7:fg56 12=(Value.int .i64 x50):=by rw [hfg56]; exact rfl
   have ag56_8:fg56 13=(Value.int .i64 x51):=by rw [hfg56]; exact rfl
   have ag56_9:fg56 14=(Value.slice x54a x54n x54c):=by rw [hfg56]; exact rfl
   clear hfg56
   refine zc rfl ?_
   refine za (zd (v:=.pointer x3) ag56_0 ?_)
   obtain ⟨x57_0,x57_1,c58,H⟩:=H
   refine za (zQ ag56_1 ag_39 c58 ?_)
   refine za (zB (vs:=[.pointer x3,.agg #[.int .i64 x57_0,.int .u64 x57_1],.int .i64 3,.int .i64 2]) en_20 (zj rfl (zj rfl (zj rfl (zj rfl zv)))) (CallsH.mono H ?_))
   clear H
   rintro _ h59 ⟨x61a,x61n,x61c,x62,rfl,H⟩
   refine za (zd (v:=.tuple #[.slice x61a x61n x61c,.int .i64 x62]) rfl ?_)
   refine za (zx rfl rfl ?_)
   refine za (zx rfl rfl ?_)
   refine za (zf (v:=.slice x61a x61n x61c) rfl ?_)
   refine za (zf (v:=.int .i64 x62) rfl ?_)
   refine zi ?_
   refine ze ?_
   refine zc rfl ?_
   refine za (zd (v:=.int .i64 x19) ag56_2 ?_)
   refine za (op_eql rfl rfl ?_)
   refine za (zd (v:=.bool (decide (x19=0))) rfl ?_)
   refine zw (b:=decide (x19=0)) (zh rfl rfl) (Value.int .i64 x24) (fun hb N hN=>zd (v:=.int .i64 x24) ag56_3 hN) ?_
   refine zw (b:=decide (x19=0)) (zh rfl rfl) (Value.bool (decide (x24=8))) (fun hb N hN=>op_eql (gv hb) rfl hN) ?_
   refine za (zR rfl (fun hq=>(gv hq)) rfl ?_)
   refine za (zd (v:=.bool ((decide (x19=0)) && (decide (x24=8)))) rfl ?_)
   refine zw (b:=(decide (x19=0)) && (decide (x24=8))) (zh rfl rfl) (Value.slice x27a x27n x27c) (fun hb N hN=>zd (v:=.slice x27a x27n x27c) ag56_4 hN) ?_
   refine zw (b:=(decide (x19=0)) && (decide (x24=8))) (zh rfl rfl) (Value.int .i64 (x27n:Int)) (fun hb N hN=>zL (gv hb) un_34 hN) ?_
   refine zw (b:=(decide (x19=0)) && (decide (x24=8))) (zh rfl rfl) (Value.bool (decide ((x27n:Int)=1))) (fun hb N hN=>op_eql (gv hb) rfl hN) ?_
   refine za (zR rfl (fun hq=>(gv hq)) rfl ?_)
   refine za (zd (v:=.bool (((decide (x19=0)) && (decide (x24=8))) && (decide ((x27n:Int)=1)))) rfl ?_)
   refine zw (b:=((decide (x19=0)) && (decide (x24=8))) && (decide ((x27n:Int)=1))) (zh rfl rfl) (Value.int .i64 x32) (fun hb N hN=>zd (v:=.int .i64 x32) ag56_5 hN) ?_
   refine zw (b:=((decide (x19=0)) && (decide (x24=8))) && (decide ((x27n:Int)=1))) (zh rfl rfl) (Value.bool (decide (x32=0))) (fun hb N hN=>op_eql (gv hb) rfl hN) ?_
   refine za (zR rfl (fun hq=>(gv hq)) rfl ?_)
   refine za (zd (v:=.bool ((((decide (x19=0)) && (decide (x24=8))) && (decide ((x27n:Int)=1))) && (decide (x32=0)))) rfl ?_)
   refine zw (b:=(((decide (x19=0)) && (decide (x24=8))) && (decide ((x27n:Int)=1))) && (decide (x32=0))) (zh rfl rfl) (Value.int .i64 x44) (fun hb N hN=>zd (v:=.int .i64 x44) ag56_6 hN) ?_
   refine zw (b:=(((decide (x19=0)) && (decide (x24=8))) && (decide ((x27n:Int)=1))) && (decide (x32=0))) (zh rfl rfl) (Value.bool (decide (x44=0))) (fun hb N hN=>op_eql (gv hb) rfl hN) ?_
   refine za (zR rfl (fun hq=>(gv hq)) rfl ?_)
   refine za (zd (v:=.bool (((((decide (x19=0)) && (decide (x24=8))) && (decide ((x27n:Int)=1))) && (decide (x32=0))) && (decide (x44=0)))) rfl ?_)
   refine zw (b:=((((decide (x19=0)) && (decide (x24=8))) && (decide ((x27n:Int)=1))) && (decide (x32=0))) && (decide (x44=0))) (zh rfl rfl) (Value.int .i64 x50) (fun hb N hN=>zd (v:=.int .i64 x50) ag56_7 hN) ?_
   refine zw (b:=((((decide (x19=0)) && (decide (x24=8))) && (decide ((x27n:Int)=1))) && (decide (x32=0))) && (decide (x44=0))) (zh rfl rfl) (Value.bool (decide (x50=7))) (fun hb N hN=>op_eql (gv hb) rfl hN) ?_
   refine za (zR rfl (fun hq=>(gv hq)) rfl ?_)
   refine za (zd (v:=.bool ((((((decide (x19=0)) && (decide (x24=8))) && (decide ((x27n:Int)=1))) && (decide (x32=0))) && (decide (x44=0))) && (decide (x50=7)))) rfl ?_)
   refine zw (b:=(((((decide (x19=0)) && (decide (x24=8))) && (decide ((x27n:Int)=1))) && (decide (x32=0))) && (decide (x44=0))) && (decide (x50=7))) (zh rfl rfl) (Value.int .i64 x51) (fun hb N hN=>zd (v:=.int .i64 x51) ag56_8 hN) ?_
   refine zw (b:=(((((decide (x19=0)) && (decide (x24=8))) && (decide ((x27n:Int)=1))) && (decide (x32=0))) && (decide (x44=0))) && (decide (x50=7))) (zh rfl rfl) (Value.bool (decide (x51=0))) (fun hb N hN=>op_eql (gv hb) rfl hN) ?_
   refine za (zR rfl (fun hq=>(gv hq)) rfl ?_)
   refine za (zd (v:=.bool (((((((decide (x19=0)) && (decide (x24=8))) && (decide ((x27n:Int)=1))) && (decide (x32=0))) && (decide (x44=0))) && (decide (x50=7))) && (decide (x51=0)))) rfl ?_)
   refine zw (b:=((((((decide (x19=0)) && (decide (x24=8))) && (decide ((x27n:Int)=1))) && (decide (x32=0))) && (decide (x44=0))) && (decide (x50=7))) && (decide (x51=0))) (zh rfl rfl) (Value.slice x54a x54n x54c) (fun hb N hN=>zd (v:=.slice x54a x54n x54c) ag56_9 hN) ?_
   refine zw (b:=((((((decide (x19=0)) && (decide (x24=8))) && (decide ((x27n:Int)=1))) && (decide (x32=0))) && (decide (x44=0))) && (decide (x50=7))) && (decide (x51=0))) (zh rfl rfl) (Value.int .i64 (x54n:Int)) (fun hb N hN=>zL (gv hb) un_70 hN) ?_
   refine zw (b:=((((((decide (x19=0)) && (decide (x24=8))) && (decide ((x27n:Int)=1))) && (decide (x32=0))) && (decide (x44=0))) && (decide (x50=7))) && (decide (x51=0))) (zh rfl rfl) (Value.bool (decide ((x54n:Int)=1))) (fun hb N hN=>op_eql (gv hb) rfl hN) ?_
   refine za (zR rfl (fun hq=>(gv hq)) rfl ?_)
   refine za (zd (v:=.bool ((((((((decide (x19=0)) && (decide (x24=8))) && (decide ((x27n:Int)=1))) && (decide (x32=0))) && (decide (x44=0))) && (decide (x50=7))) && (decide (x51=0))) && (decide ((x54n:Int)=1)))) rfl ?_)
   refine zw (b:=(((((((decide (x19=0)) && (decide (x24=8))) && (decide ((x27n:Int)=1))) && (decide (x32=0))) && (decide (x44=0))) && (decide (x50=7))) && (decide (x51=0))) && (decide ((x54n:Int)=1))) (zh rfl rfl) (Value.slice x54a x54n x54c) (fun hb N hN=>zd (v:=.slice x54a x54n x54c) ag56_9 hN) ?_
   obtain ⟨b72,o73,c74,H⟩:=H
   obtain ⟨c71,H⟩:=H
   refine zw (b:=(((((((decide (x19=0)) && (decide (x24=8))) && (decide ((x27n:Int)=1))) && (decide (x32=0))) && (decide (x44=0))) && (decide (x50=7))) && (decide (x51=0))) && (decide ((x54n:Int)=1))) (zh rfl rfl) (Value.pointer (some ⟨b72,o73,none⟩)) (fun hb N hN=>zD (Eq.trans (gv hb) (congrArg (fun a=>Value.slice a x54n x54c) (c74 hb))) rfl ei_70 (c71 hb) hN) ?_
   obtain ⟨x75_0,x75_1,x75_2,c76,H⟩:=H
   refine zw (b:=(((((((decide (x19=0)) && (decide (x24=8))) && (decide ((x27n:Int)=1))) && (decide (x32=0))) && (decide (x44=0))) && (decide (x50=7))) && (decide (x51=0))) && (decide ((x54n:Int)=1))) (zh rfl rfl) (Value.agg #[.int .i64 x75_0,.int .i64 x75_1,.int .i64 x75_2]) (fun hb N hN=>zQ (gv hb) ag_74 (c76 hb) hN) ?_
   refine zw (b:=(((((((decide (x19=0)) && (decide (x24=8))) && (decide ((x27n:Int)=1))) && (decide (x32=0))) && (decide (x44=0))) && (decide (x50=7))) && (decide (x51=0))) && (decide ((x54n:Int)=1))) (zh rfl rfl) (Value.agg #[.int .i64 7,.int .i64 1,.int .i64 9]) (fun hb N hN=>zU (vs:=[(0,.int .i64 7),(1,.int .i64 1),(2,.int .i64 9)]) (cs:=#[.int .i64 7,.int .i64 1,.int .i64 9]) z_74 fs_74 (zA rfl (zA rfl (zA rfl zP))) rfl hN) ?_
   refine zw (b:=(((((((decide (x19=0)) && (decide (x24=8))) && (decide ((x27n:Int)=1))) && (decide (x32=0))) && (decide (x44=0))) && (decide (x50=7))) && (decide (x51=0))) && (decide ((x54n:Int)=1))) (zh rfl rfl) (Value.bool ((decide (x75_0=7)) && ((decide (x75_1=1)) && ((decide (x75_2=9)) && true)))) (fun hb N hN=>op_eqs (a:=[.int .i64 x75_0,.int .i64 x75_1,.int .i64 x75_2]) (b:=[.int .i64 7,.int .i64 1,.int .i64 9]) (gv hb) (gv hb) eg_74 (eq_of_plan eqp_74 fun w=>(eqRun_int w un_3 ag_3 rfl rfl (eqRun_int w un_3 ag_3 rfl rfl (eqRun_int w un_3 ag_3 rfl rfl (eqRun_nil w))))) hN) ?_
   refine za (zR rfl (fun hq=>(gv hq)) rfl ?_)
   refine za (zd (v:=.bool (((((((((decide (x19=0)) && (decide (x24=8))) && (decide ((x27n:Int)=1))) && (decide (x32=0))) && (decide (x44=0))) && (decide (x50=7))) && (decide (x51=0))) && (decide ((x54n:Int)=1))) && ((decide (x75_0=7)) && ((decide (x75_1=1)) && ((decide (x75_2=9)) && true))))) rfl ?_)
   refine zw (b:=((((((((decide (x19=0)) && (decide (x24=8))) && (decide ((x27n:Int)=1))) && (decide (x32=0))) && (decide (x44=0))) && (decide (x50=7))) && (decide (x51=0))) && (decide ((x54n:Int)=1))) && ((decide (x75_0=7)) && ((decide (x75_1=1)) && ((decide (x75_2=9)) && true)))) (zh rfl rfl) (Value.slice x61a x61n x61c) (fun hb N hN=>zd (v:=.slice x61a x61n x61c) rfl hN) ?_
   obtain ⟨xs78,c79,H⟩:=H
   refine zw (b:=((((((((decide (x19=0)) && (decide (x24=8))) && (decide ((x27n:Int)=1))) && (decide (x32=0))) && (decide (x44=0))) && (decide (x50=7))) && (decide (x51=0))) && (decide ((x54n:Int)=1))) && ((decide (x75_0=7)) && ((decide (x75_1=1)) && ((decide (x75_2=9)) && true)))) (zh rfl rfl) (Value.string (strOfNums xs78)) (fun hb N hN=>op_b2s (gv hb) un_23 un_5 un_9 (c79 hb) hN) ?_
   refine zw (b:=((((((((decide (x19=0)) && (decide (x24=8))) && (decide ((x27n:Int)=1))) && (decide (x32=0))) && (decide (x44=0))) && (decide (x50=7))) && (decide (x51=0))) && (decide ((x54n:Int)=1))) && ((decide (x75_0=7)) && ((decide (x75_1=1)) && ((decide (x75_2=9)) && true)))) (zh rfl rfl) (Value.bool (decide ((strOfNums xs78)=(ByteArray.mk #[97,98])))) (fun hb N hN=>op_eqstr un_9 (gv hb) rfl hN) ?_
   refine za (zR rfl (fun hq=>(gv hq)) rfl ?_)
   refine za (zf (v:=.bool ((((((((((decide (x19=0)) && (decide (x24=8))) && (decide ((x27n:Int)=1))) && (decide (x32=0))) && (decide (x44=0))) && (decide (x50=7))) && (decide (x51=0))) && (decide ((x54n:Int)=1))) && ((decide (x75_0=7)) && ((decide (x75_1=1)) && ((decide (x75_2=9)) && true)))) && (decide ((strOfNums xs78)=(ByteArray.mk #[97,98]))))) rfl ?_)
   refine zi ?_
   refine zy ?_
   exact zt (zn rfl zr) H
def F_linchpinlaw20_IoqDone (p0_0:Int) (p0_1:Int) (p1a:Option Addr) (p1n:Nat) (p1c:Nat) (p2:Int) (K:Bool→Heap→Prop) (h:Heap):Prop:=
 ∀ (h1:Heap),h1=h.push (.cells #[.int .u8 p0_0,.int .u8 p0_1] 58 (0,0))→CallsH PR fn_linchpinlaw20_awake #[] h1 (fun v h3=>∃ (x5:Bool),v=(Value.bool x5)∧(x5=false→K false h3)∧(x5=true→∃ (x7:Int),cellH h3 h.size 0=some (.int .u8 x7)∧∃ (x10:Int),cellH h3 h.size 1=some (.int .u8 x10)∧CallsH PR fn_linchpinlaw20_got #[] h3 (fun v h12=>∃ (x14:Option Addr),v=(Value.pointer x14)∧CallsH PR fn_ioq_New #[.pointer x14,.int .i64 1,.int .u64 5] h12 (fun v h15=>∃ (x17:Option Addr) (x18:Int),v=(Value.tuple #[.pointer x17,.int .i64 x18])∧((x17.isNone || (!decide (x18=0)))=true→K false h15)∧((x17.isNone || (!decide (x18=0)))=false→∀ (h21:Heap),h21=h15.push (.cells #[.int .i64 0,.int .u64 0] 39 (0,0))→∃ (h24:Heap),stCells h15.size h21 0 [.int .i64 0,.int .u64 1]=some h24∧(-9223372036854775808≤8 - ((IntKind.i64.wrap x7).tmod 8)∧8 - ((IntKind.i64.wrap x7).tmod 8)<9223372036854775808)∧8 - ((IntKind.i64.wrap x7).tmod 8)≠0∧(-9223372036854775808≤1+((IntKind.i64.wrap x10).tmod (8 - ((IntKind.i64.wrap x7).tmod 8)))∧1+((IntKind.i64.wrap x10).tmod (8 - ((IntKind.i64.wrap x7).tmod 8)))<9223372036854775808)∧∃ (x29_0:Int) (x29_1:Int),ldCells h24 h15.size 0 2=some [.int .i64 x29_0,.int .u64 x29_1]∧CallsH PR fn_ioq_Device_Submit #[.pointer x17,.agg #[.int .i64 3,.int .i64 0,.int .u64 100,.int .i64 0,.int .i64 x29_0,.int .u64 x29_1,.int .i64 ((IntKind.i64.wrap x7).tmod 8),.int .i64 (1+((IntKind.i64.wrap x10).tmod (8 - ((IntKind.i64.wrap x7).tmod 8))))]] h24 (fun v h31=>∃ (x33:Int),v=(Value.int .i64 x33)∧CallsH PR fn_ioq_Device_Start #[.pointer x17] h31 (fun v h34=>∃ (x36a:Option Addr) (x36n:Nat) (x36c:Nat),v=(Value.slice x36a x36n x36c)∧CallsH PR fn_ioq_Device_Take #[.pointer x17] h34 (fun v h37=>∃ (x39:Int) (x40_0:Int) (x40_1:Int) (x40_2:Int) (x40_3:Int) (x40_4:Int) (x40_5:Int) (x40_6:Bool) (x40_7:Bool) (x40_8:Int) (x41:Int),v=(Value.tuple #[.int .i64 x39,.agg #[.int .i64 x40_0,.int .i64 x40_1,.int .i64 x40_2,.int .u64 x40_3,.int .i64 x40_4,.int .i64 x40_5,.bool x40_6,.bool x40_7,.int .i64 x40_8],.int .i64 x41])∧∀ (h42:Heap),h42=h37.push (.cells #[.int .i64 0,.int .i64 0,.int .i64 0,.int .u64 0,.int .i64 0,.int .i64 0,.bool false,.bool false,.int .i64 0] 63 (0,0))→∃ (h45:Heap),stCells h37.size h42 0 [.int .i64 x40_0,.int .i64 x40_1,.int .i64 x40_2,.int .u64 x40_3,.int .i64 x40_4,.int .i64 x40_5,.bool x40_6,.bool x40_7,.int .i64 x40_8]=some h45∧CallsH PR fn_ioq_Device_Write #[.pointer x17,.int .i64 x39,.int .i64 0,.slice p1a p1n p1c] h45 (fun v h46=>∃ (x48:Int),v=(Value.int .i64 x48)∧∃ (x50_0:Int) (x50_1:Int),ldCells h46 h15.size 0 2=some [.int .i64 x50_0,.int .u64 x50_1]∧CallsH PR fn_pool_Pool_Owner #[.pointer x14,.agg #[.int .i64 x50_0,.int .u64 x50_1]] h46 (fun v h52=>∃ (x54:Int) (x55:Int) (x56:Int),v=(Value.tuple #[.int .i64 x54,.int .i64 x55,.int .i64 x56])∧∃ (x60:Int),(((((!decide (x33=0)) || (!decide ((x36n:Int)=1))) || (!decide (x41=0)))=false)→cellH h52 h37.size 1=some (.int .i64 x60))∧∃ (x63:Int),((((((!decide (x33=0)) || (!decide ((x36n:Int)=1))) || (!decide (x41=0))) || (!decide (x60=3)))=false)→cellH h52 h37.size 4=some (.int .i64 x63))∧∃ (x66:Int),(((((((!decide (x33=0)) || (!decide ((x36n:Int)=1))) || (!decide (x41=0))) || (!decide (x60=3))) || (!decide (x63=((IntKind.i64.wrap x7).tmod 8))))=false)→cellH h52 h37.size 5=some (.int .i64 x66))∧(((((((((!decide (x33=0)) || (!decide ((x36n:Int)=1))) || (!decide (x41=0))) || (!decide (x60=3))) || (!decide (x63=((IntKind.i64.wrap x7).tmod 8)))) || (!decide (x66=(1+((IntKind.i64.wrap x10).tmod (8 - ((IntKind.i64.wrap x7).tmod 8))))))) || (!decide ((decide (x48=0))=(decide ((p1n:Int)≤(1+((IntKind.i64.wrap x10).tmod (8 - ((IntKind.i64.wrap x7).tmod 8))))))))) || (!decide (x54=3)))=true→K false h52)∧(((((((((!decide (x33=0)) || (!decide ((x36n:Int)=1))) || (!decide (x41=0))) || (!decide (x60=3))) || (!decide (x63=((IntKind.i64.wrap x7).tmod 8)))) || (!decide (x66=(1+((IntKind.i64.wrap x10).tmod (8 - ((IntKind.i64.wrap x7).tmod 8))))))) || (!decide ((decide (x48=0))=(decide ((p1n:Int)≤(1+((IntKind.i64.wrap x10).tmod (8 - ((IntKind.i64.wrap x7).tmod 8))))))))) || (!decide (x54=3)))=false→CallsH PR fn_ioq_Device_Finish #[.pointer x17,.int .i64 x39,.int .i64 (IntKind.i64.wrap p2),.bool false] h52 (fun v h73=>∃ (x75:Int),v=(Value.int .i64 x75)∧CallsH PR fn_ioq_Device_Reap #[.pointer x17] h73 (fun v h76=>∃ (x78:Int) (x79:Int),v=(Value.tuple #[.int .i64 x78,.int .i64 x79])∧CallsH PR fn_ioq_Device_Go #[.pointer x17,.int .u64 1] h76 (fun v h81=>∃ (x83a:Option Addr) (x83n:Nat) (x83c:Nat) (x84:Int),v=(Value.tuple #[.slice x83a x83n x83c,.int .i64 x84])∧∃ (b91:Nat) (o92:Nat),(((((((!decide (x75=0)) || (!decide (x78=3))) || (!decide (x79=0))) || (!decide (x84=0))) || (!decide ((x83n:Int)=1)))=false)→x83a=some ⟨b91,o92,none⟩)∧(((((((!decide (x75=0)) || (!decide (x78=3))) || (!decide (x79=0))) || (!decide (x84=0))) || (!decide ((x83n:Int)=1)))=false)→0≤(0:Int)∧(0:Int)<(x83n:Int))∧∃ (x94_0:Int) (x94_1:Int) (x94_2:Int),(((((((!decide (x75=0)) || (!decide (x78=3))) || (!decide (x79=0))) || (!decide (x84=0))) || (!decide ((x83n:Int)=1)))=false)→ldCells h81 b91 o92 3=some [.int .i64 x94_0,.int .i64 x94_1,.int .i64 x94_2])∧(((((((!decide (x75=0)) || (!decide (x78=3))) || (!decide (x79=0))) || (!decide (x84=0))) || (!decide ((x83n:Int)=1))) || (!((decide (x94_0=3)) && ((decide (x94_1=1)) && ((decide (x94_2=(IntKind.i64.wrap p2))) && true)))))=true→K false h81)∧(((((((!decide (x75=0)) || (!decide (x78=3))) || (!decide (x79=0))) || (!decide (x84=0))) || (!decide ((x83n:Int)=1))) || (!((decide (x94_0=3)) && ((decide (x94_1=1)) && ((decide (x94_2=(IntKind.i64.wrap p2))) && true)))))=false→∃ (x97_0:Int) (x97_1:Int),ldCells h81 h15.size 0 2=some [.int .i64 x97_0,.int .u64 x97_1]∧CallsH PR fn_pool_Pool_Owner #[.pointer x14,.agg #[.int .i64 x97_0,.int .u64 x97_1]] h81 (fun v h99=>∃ (x101:Int) (x102:Int) (x103:Int),v=(Value.tuple #[.int .i64 x101,.int .i64 x102,.int .i64 x103])∧∃ (x104_0:Int) (x104_1:Int),ldCells h99 h15.size 0 2=some [.int .i64 x104_0,.int .u64 x104_1]∧CallsH PR fn_pool_Pool_Read #[.pointer x14,.agg #[.int .i64 x104_0,.int .u64 x104_1],.int .i64 0,.int .i64 8] h99 (fun v h106=>∃ (x108a:Option Addr) (x108n:Nat) (x108c:Nat) (x109:Int),v=(Value.tuple #[.slice x108a x108n x108c,.int .i64 x109])∧∃ (I111:Int→Heap→Prop) (mu112:Int→Heap→Nat),I111 0 h106∧∀ (x110:Int) (h114:Heap),I111 x110 h114→(x110<8→∃ J117:Int→Heap→Prop,(∀ (x116:Int) (h119:Heap),J117 x116 h119→∃ (b121:Nat) (o122:Nat),x108a=some ⟨b121,o122,none⟩∧(0≤x110∧x110<(x108n:Int))∧∃ (x124:Int),cellH h119 b121 (o122+x110.toNat * 1)=some (.int .u8 x124)∧((¬ (x124=x116))→K false h119)∧(x124=x116→(-9223372036854775808≤x110+1∧x110+1<9223372036854775808)∧(I111 (x110+1) h119∧mu112 (x110+1) h119<mu112 x110 h114)))∧((((decide (x48=0)) && (decide (((IntKind.i64.wrap x7).tmod 8)≤x110))) && (decide ((IntKind.i64.wrap (x110 - ((IntKind.i64.wrap x7).tmod 8)))<(p1n:Int))))=true→(-9223372036854775808≤x110 - ((IntKind.i64.wrap x7).tmod 8)∧x110 - ((IntKind.i64.wrap x7).tmod 8)<9223372036854775808)∧∃ (b134:Nat) (o135:Nat),p1a=some ⟨b134,o135,none⟩∧(0≤x110 - ((IntKind.i64.wrap x7).tmod 8)∧x110 - ((IntKind.i64.wrap x7).tmod 8)<(p1n:Int))∧∃ (x137:Int),cellH h114 b134 (o135+(x110 - ((IntKind.i64.wrap x7).tmod 8)).toNat * 1)=some (.int .u8 x137)∧J117 x137 h114)∧((((decide (x48=0)) && (decide (((IntKind.i64.wrap x7).tmod 8)≤x110))) && (decide ((IntKind.i64.wrap (x110 - ((IntKind.i64.wrap x7).tmod 8)))<(p1n:Int))))=false→J117 0 h114))∧((¬ (x110<8))→K (decide (x101=1)) h114))))))))))))))))))
theorem F_linchpinlaw20_IoqDone_ok (p0_0:Int) (p0_1:Int) (p1a:Option Addr) (p1n:Nat) (p1c:Nat) (p2:Int) (R:Value→Heap→Prop) (h:Heap) (H:F_linchpinlaw20_IoqDone p0_0 p0_1 p1a p1n p1c p2 (fun r0 h'=>R (Value.bool r0) h') h):CallsH PR fn_linchpinlaw20_IoqDone #[.agg #[.int .u8 p0_0,.int .u8 p0_1],.slice p1a p1n p1c,.int .u8 p2] h R:=by
 refine zF (args:=[.agg #[.int .u8 p0_0,.int .u8 p0_1],.slice p1a p1n p1c,.int .u8 p2]) Tryz.func4 rfl rfl ?_
 intro f hf
 have e0:=hf 0 _ rfl
 have e1:=hf 1 _ rfl
 have e2:=hf 2 _ rfl
 clear hf
 unfold F_linchpinlaw20_IoqDone at H
 refine ze ?_
 refine zc rfl ?_
 obtain ⟨h1,c2⟩ : ∃ h1,h1=h.push (.cells #[.int .u8 p0_0,.int .u8 p0_1] 58 (0,0)):=⟨_,rfl⟩
 replace H:=H h1 c2
 refine za (op_box (v:=.agg #[.int .u8 p0_0,.int .u8 p0_1]) e0 c2 ?_)
 refine za (zf (v:=.bool false) rfl ?_)
 refine zi ?_
 refine ze ?_
 refine ze ?_
 refine zc rfl ?_
 refine za (zB (vs:=[]) en_22 zv (CallsH.mono H ?_))
 clear H
 rintro _ h3 ⟨x5,rfl,H⟩
 refine za (op_not rfl ?_)
 refine zi ?_
 refine zz (!x5) rfl ?_ ?_
 ·intro hb
  replace H:=H.1 (zq hb)
  refine ze ?_
  refine zc rfl ?_
  refine za (zf (v:=.bool false) rfl ?_)
  refine zi ?_
  refine zy ?_
  exact zt (zn rfl zr) H
 ·intro hb
  replace H:=H.2 (zK hb)
  refine zC ?_
  refine ze ?_
  refine zc rfl ?_
  refine za (zS rfl rfl ei_58 ⟨by decide,by decide⟩ ?_)
  obtain ⟨x7,c8,H⟩:=H
  refine za (zk rfl ag_5 c8 ?_)
  refine za (zf (v:=.int .u8 x7) rfl ?_)
  refine zi ?_
  refine ze ?_
  refine zc rfl ?_
  refine za (zS rfl rfl ei_58 ⟨by decide,by decide⟩ ?_)
  obtain ⟨x10,c11,H⟩:=H
  refine za (zk rfl ag_5 c11 ?_)
  refine za (zf (v:=.int .u8 x10) rfl ?_)
  refine zi ?_
  refine ze ?_
  refine zc rfl ?_
  refine za (zB (vs:=[]) en_23 zv (CallsH.mono H ?_))
  clear H
  rintro _ h12 ⟨x14,rfl,H⟩
  refine za (zf (v:=.pointer x14) rfl ?_)
  refine zi ?_
  refine ze ?_
  refine zc rfl ?_
  refine za (zd (v:=.pointer x14) rfl ?_)
  refine za (zB (vs:=[.pointer x14,.int .i64 1,.int .u64 5]) en_24 (zj rfl (zj rfl (zj rfl zv))) (CallsH.mono H ?_))
  clear H
  rintro _ h15 ⟨x17,x18,rfl,H⟩
  refine za (zd (v:=.tuple #[.pointer x17,.int .i64 x18]) rfl ?_)
  refine za (zx rfl rfl ?_)
  refine za (zx rfl rfl ?_)
  refine za (zf (v:=.pointer x17) rfl ?_)
  refine za (zf (v:=.int .i64 x18) rfl ?_)
  refine zi ?_
  refine ze ?_
  refine ze ?_
  refine zc rfl ?_
  refine za (zd (v:=.pointer x17) rfl ?_)
  refine za (op_eq_ptr_nil rfl rfl un_28 ?_)
  refine za (zd (v:=.bool x17.isNone) rfl ?_)
  refine zw (b:=!x17.isNone) (zh rfl rfl) (Value.int .i64 x18) (fun hb N hN=>zd (v:=.int .i64 x18) rfl hN) ?_
  refine zw (b:=!x17.isNone) (zh rfl rfl) (Value.bool (!decide (x18=0))) (fun hb N hN=>op_neq (gv hb) rfl hN) ?_
  refine za (zN rfl rfl (fun hq=>(gv (zI hq))) ?_)
  refine zi ?_
  refine zz (x17.isNone || (!decide (x18=0))) rfl ?_ ?_
  ·intro hb
   replace H:=H.1 hb
   refine ze ?_
   refine zc rfl ?_
   refine za (zf (v:=.bool false) rfl ?_)
   refine zi ?_
   refine zy ?_
   exact zt (zn rfl zr) H
  ·intro hb
   replace H:=H.2 hb
   refine zC ?_
   refine ze ?_
   refine zc rfl ?_
   refine za (zU (vs:=[(0,.int .i64 0),(1,.int .u64 1)]) (cs:=#[.int .i64 0,.int .u64 1]) z_39 fs_39 (zA rfl (zA rfl zP)) rfl ?_)
   obtain ⟨h21,c22⟩ : ∃ h21,h21=h15.push (.cells #[.int .i64 0,.int .u64 0] 39 (0,0)):=⟨_,rfl⟩
   replace H:=H h21 c22
   refine za (zV z_39 c22 ?_)
   obtain ⟨h24,c23,H⟩:=H
   refine za (zH (v:=.agg #[.int .i64 0,.int .u64 1]) rfl rfl sz_39 rfl c23 ?_)
   refine zi ?_
   refine ze ?_
   refine zc rfl ?_
   refine za (zd (v:=.int .u8 x7) rfl ?_)
   refine za (op_conv rfl (congrArg (Option.map fun _=>()) un_5) un_3 rfl ?_)
   refine za (op_rem rfl rfl (by decide) rfl ?_)
   refine za (zf (v:=.int .i64 ((IntKind.i64.wrap x7).tmod 8)) rfl ?_)
   refine zi ?_
   refine ze ?_
   refine zc rfl ?_
   refine za (zd (v:=.int .u8 x10) rfl ?_)
   refine za (op_conv rfl (congrArg (Option.map fun _=>()) un_5) un_3 rfl ?_)
   refine za (zd (v:=.int .i64 ((IntKind.i64.wrap x7).tmod 8)) rfl ?_)
   obtain ⟨c26,H⟩:=H
   refine za (op_sub rfl rfl (zT c26) ?_)
   obtain ⟨c27,H⟩:=H
   refine za (op_rem rfl rfl c27 rfl ?_)
   obtain ⟨c28,H⟩:=H
   refine za (op_add rfl rfl (zT c28) ?_)
   refine za (zf (v:=.int .i64 (1+((IntKind.i64.wrap x10).tmod (8 - ((IntKind.i64.wrap x7).tmod 8))))) rfl ?_)
   refine zi ?_
   refine ze ?_
   refine zc rfl ?_
   refine za (zd (v:=.pointer x17) rfl ?_)
   obtain ⟨x29_0,x29_1,c30,H⟩:=H
   refine za (zQ rfl ag_39 c30 ?_)
   refine za (zd (v:=.int .i64 ((IntKind.i64.wrap x7).tmod 8)) rfl ?_)
   refine za (zd (v:=.int .i64 (1+((IntKind.i64.wrap x10).tmod (8 - ((IntKind.i64.wrap x7).tmod 8))))) rfl ?_)
   refine za (zU (vs:=[(0,.agg #[.int .i64 x29_0,.int .u64 x29_1]),(1,.int .i64 ((IntKind.i64.wrap x7).tmod 8)),(2,.int .i64 (1+((IntKind.i64.wrap x10).tmod (8 - ((IntKind.i64.wrap x7).tmod 8)))))]) (cs:=#[.int .i64 x29_0,.int .u64 x29_1,.int .i64 ((IntKind.i64.wrap x7).tmod 8),.int .i64 (1+((IntKind.i64.wrap x10).tmod (8 - ((IntKind.i64.wrap x7).tmod 8))))]) z_41 fs_41 (zA rfl (zA rfl (zA rfl zP))) rfl ?_)
   refine za (zU (vs:=[(0,.int .i64 3),(2,.int .u64 100),(4,.agg #[.int .i64 x29_0,.int .u64 x29_1,.int .i64 ((IntKind.i64.wrap x7).tmod 8),.int .i64 (1+((IntKind.i64.wrap x10).tmod (8 - ((IntKind.i64.wrap x7).tmod 8))))])]) (cs:=#[.int .i64 3,.int .i64 0,.int .u64 100,.int .i64 0,.int .i64 x29_0,.int .u64 x29_1,.int .i64 ((IntKind.i64.wrap x7).tmod 8),.int .i64 (1+((IntKind.i64.wrap x10).tmod (8 - ((IntKind.i64.wrap x7).tmod 8))))]) z_43 fs_43 (zA rfl (zA rfl (zA rfl zP))) rfl ?_)
   refine za (zB (vs:=[.pointer x17,.agg #[.int .i64 3,.int .i64 0,.int .u64 100,.int .i64 0,.int .i64 x29_0,.int .u64 x29_1,.int .i64 ((IntKind.i64.wrap x7).tmod 8),.int .i64 (1+((IntKind.i64.wrap x10).tmod (8 - ((IntKind.i64.wrap x7).tmod 8))))]]) en_16 (zj rfl (zj rfl zv)) (CallsH.mono H ?_))
   clear H
   rintro _ h31 ⟨x33,rfl,H⟩
   refine za (zf (v:=.int .i64 x33) rfl ?_)
   refine zi ?_
   refine ze ?_
   refine zc rfl ?_
   refine za (zd (v:=.pointer x17) rfl ?_)
   refine za (zB (vs:=[.pointer x17]) en_17 (zj rfl zv) (CallsH.mono H ?_))
   clear H
   rintro _ h34 ⟨x36a,x36n,x36c,rfl,H⟩
   refine za (zf (v:=.slice x36a x36n x36c) rfl ?_)
   refine zi ?_
   refine ze ?_
   refine zc rfl ?_
   refine za (zd (v:=.pointer x17) rfl ?_)
   refine za (zB (vs:=[.pointer x17]) en_25 (zj rfl zv) (CallsH.mono H ?_))
   clear H
   rintro _ h37 ⟨x39,x40_0,x40_1,x40_2,x40_3,x40_4,x40_5,x40_6,x40_7,x40_8,x41,rfl,H⟩
   refine za (zd (v:=.tuple #[.int .i64 x39,.agg #[.int .i64 x40_0,.int .i64 x40_1,.int .i64 x40_2,.int .u64 x40_3,.int .i64 x40_4,.int .i64 x40_5,.bool x40_6,.bool x40_7,.int .i64 x40_8],.int .i64 x41]) rfl ?_)
   refine za (zx rfl rfl ?_)
   refine za (zx rfl rfl ?_)
   refine za (zx rfl rfl ?_)
   obtain ⟨h42,c43⟩ : ∃ h42,h42=h37.push (.cells #[.int .i64 0,.int .i64 0,.int .i64 0,.int .u64 0,.int .i64 0,.int .i64 0,.bool false,.bool false,.int .i64 0] 63 (0,0)):=⟨_,rfl⟩
   replace H:=H h42 c43
   refine za (zV z_63 c43 ?_)
   refine za (zf (v:=.int .i64 x39) rfl ?_)
   obtain ⟨h45,c44,H⟩:=H
   refine za (zH (v:=.agg #[.int .i64 x40_0,.int .i64 x40_1,.int .i64 x40_2,.int .u64 x40_3,.int .i64 x40_4,.int .i64 x40_5,.bool x40_6,.bool x40_7,.int .i64 x40_8]) rfl rfl sz_63 rfl c44 ?_)
   refine za (zf (v:=.int .i64 x41) rfl ?_)
   refine zi ?_
   refine ze ?_
   refine zc rfl ?_
   refine za (zd (v:=.pointer x17) rfl ?_)
   refine za (zd (v:=.int .i64 x39) rfl ?_)
   refine za (zd (v:=.slice p1a p1n p1c) e1 ?_)
   refine za (zB (vs:=[.pointer x17,.int .i64 x39,.int .i64 0,.slice p1a p1n p1c]) en_26 (zj rfl (zj rfl (zj rfl (zj rfl zv)))) (CallsH.mono H ?_))
   clear H
   rintro _ h46 ⟨x48,rfl,H⟩
   refine za (zf (v:=.int .i64 x48) rfl ?_)
   refine zi ?_
   refine ze ?_
   refine wpf_forget ?_
   intro fg49 hfg49
   have ag49_0:fg49 1=(Value.slice p1a p1n p1c):=by rw [hfg49]; exact e1
   have ag49_1:fg49 2=(Value.int .u8 p2):=by rw [hfg49]; exact e2
   have ag49_2:fg49 9=(Value.pointer x14):=by rw [hfg49]; exact rfl
   have ag49_3:fg49 10=(Value.pointer x17):=by rw [hfg49]; exact rfl
   have ag49_4:fg49 12=(Value.pointer (some ⟨h15.size,0,none⟩)):=by rw [hfg49]; exact rfl
   have ag49_5:fg49 13=(Value.int .i64 ((IntKind.i64.wrap x7).tmod 8)):=by rw [hfg49]; exact rfl
   have ag49_6:fg49 14=(Value.int .i64 (1+((IntKind.i64.wrap x10).tmod (8 - ((IntKind.i64.wrap x7).tmod 8))))):=by rw [hfg49]; exact rfl
   have ag49_7:fg49 15=(Value.int .i64 x33):=by rw [hfg49]; exact rfl
   have ag49_8:fg49 16=(Value.slice x36a x36n x36c):=by rw [hfg49]; exact rfl
   have ag49_9:fg49 17=(Value.int .i64 x39):=by rw [hfg49]; exact rfl
   have ag49_10:fg49 18=(Value.pointer (some ⟨h37.size,0,none⟩)):=by rw [hfg49]; exact rfl
   have ag49_11:fg49 19=(Value.int .i64 x41):=by rw [hfg49]; exact rfl
   have ag49_12:fg49 20=(Value.int .i64 x48):=by rw [hfg49]; exact rfl
   clear hfg49
   refine zc rfl ?_
   refine za (zd (v:=.pointer x14) ag49_2 ?_)
   obtain ⟨x50_0,x50_1,c51,H⟩:=H
   refine za (zQ ag49_4 ag_39 c51 ?_)
   refine za (zB (vs:=[.pointer x14,.agg #[.int .i64 x50_0,.int .u64 x50_1]]) en_27 (zj rfl (zj rfl zv)) (CallsH.mono H ?_))
   clear H
   rintro _ h52 ⟨x54,x55,x56,rfl,H⟩
   refine za (zd (v:=.tuple #[.int .i64 x54,.int .i64 x55,.int .i64 x56]) rfl ?_)
   refine za (zx rfl rfl ?_)
   refine za (zx rfl rfl ?_)
   refine za (zx rfl rfl ?_)
   refine za (zf (v:=.int .i64 x54) rfl ?_)
   refine za (zf (v:=.int .i64 x55) rfl ?_)
   refine za (zf (v:=.int .i64 x56) rfl ?_)
   refine zi ?_
   refine ze ?_
   refine ze ?_
   refine zc rfl ?_
   refine za (zd (v:=.int .i64 x33) ag49_7 ?_)
   refine za (op_neq rfl rfl ?_)
   refine za (zd (v:=.bool (!decide (x33=0))) rfl ?_)
   refine zw (b:=!(!decide (x33=0))) (zh rfl rfl) (Value.slice x36a x36n x36c) (fun hb N hN=>zd (v:=.slice x36a x36n x36c) ag49_8 hN) ?_
   refine zw (b:=!(!decide (x33=0))) (zh rfl rfl) (Value.int .i64 (x36n:Int)) (fun hb N hN=>zL (gv hb) un_34 hN) ?_
   refine zw (b:=!(!decide (x33=0))) (zh rfl rfl) (Value.bool (!decide ((x36n:Int)=1))) (fun hb N hN=>op_neq (gv hb) rfl hN) ?_
   refine za (zN rfl rfl (fun hq=>(gv (zI hq))) ?_)
   refine za (zd (v:=.bool ((!decide (x33=0)) || (!decide ((x36n:Int)=1)))) rfl ?_)
   refine zw (b:=!((!decide (x33=0)) || (!decide ((x36n:Int)=1)))) (zh rfl rfl) (Value.int .i64 x41) (fun hb N hN=>zd (v:=.int .i64 x41) ag49_11 hN) ?_
   refine zw (b:=!((!decide (x33=0)) || (!decide ((x36n:Int)=1)))) (zh rfl rfl) (Value.bool (!decide (x41=0))) (fun hb N hN=>op_neq (gv hb) rfl hN) ?_
   refine za (zN rfl rfl (fun hq=>(gv (zI hq))) ?_)
   refine za (zd (v:=.bool (((!decide (x33=0)) || (!decide ((x36n:Int)=1))) || (!decide (x41=0)))) rfl ?_)
   refine zw (b:=!(((!decide (x33=0)) || (!decide ((x36n:Int)=1))) || (!decide (x41=0)))) (zh rfl rfl) (Value.pointer (some ⟨h37.size,1,none⟩)) (fun hb N hN=>zg ag49_10 fo_63_1 hN) ?_
   obtain ⟨x60,c61,H⟩:=H
   refine zw (b:=!(((!decide (x33=0)) || (!decide ((x36n:Int)=1))) || (!decide (x41=0)))) (zh rfl rfl) (Value.int .i64 x60) (fun hb N hN=>zk (gv hb) ag_3 (c61 (zq hb)) hN) ?_
   refine zw (b:=!(((!decide (x33=0)) || (!decide ((x36n:Int)=1))) || (!decide (x41=0)))) (zh rfl rfl) (Value.bool (!decide (x60=3))) (fun hb N hN=>op_neq (gv hb) rfl hN) ?_
   refine za (zN rfl rfl (fun hq=>(gv (zI hq))) ?_)
   refine za (zd (v:=.bool ((((!decide (x33=0)) || (!decide ((x36n:Int)=1))) || (!decide (x41=0))) || (!decide (x60=3)))) rfl ?_)
   refine zw (b:=!((((!decide (x33=0)) || (!decide ((x36n:Int)=1))) || (!decide (x41=0))) || (!decide (x60=3)))) (zh rfl rfl) (Value.pointer (some ⟨h37.size,4,none⟩)) (fun hb N hN=>zg ag49_10 fo_63_3 hN) ?_
   obtain ⟨x63,c64,H⟩:=H
   refine zw (b:=!((((!decide (x33=0)) || (!decide ((x36n:Int)=1))) || (!decide (x41=0))) || (!decide (x60=3)))) (zh rfl rfl) (Value.int .i64 x63) (fun hb N hN=>zk (gv hb) ag_3 (c64 (zq hb)) hN) ?_
   refine zw (b:=!((((!decide (x33=0)) || (!decide ((x36n:Int)=1))) || (!decide (x41=0))) || (!decide (x60=3)))) (zh rfl rfl) (Value.int .i64 ((IntKind.i64.wrap x7).tmod 8)) (fun hb N hN=>zd (v:=.int .i64 ((IntKind.i64.wrap x7).tmod 8)) ag49_5 hN) ?_
   refine zw (b:=!((((!decide (x33=0)) || (!decide ((x36n:Int)=1))) || (!decide (x41=0))) || (!decide (x60=3)))) (zh rfl rfl) (Value.bool (!decide (x63=((IntKind.i64.wrap x7).tmod 8)))) (fun hb N hN=>op_neq (gv hb) (gv hb) hN) ?_
   refine za (zN rfl rfl (fun hq=>(gv (zI hq))) ?_)
   refine za (zd (v:=.bool (((((!decide (x33=0)) || (!decide ((x36n:Int)=1))) || (!decide (x41=0))) || (!decide (x60=3))) || (!decide (x63=((IntKind.i64.wrap x7).tmod 8))))) rfl ?_)
   refine zw (b:=!(((((!decide (x33=0)) || (!decide ((x36n:Int)=1))) || (!decide (x41=0))) || (!decide (x60=3))) || (!decide (x63=((IntKind.i64.wrap x7).tmod 8))))) (zh rfl rfl) (Value.pointer (some ⟨h37.size,5,none⟩)) (fun hb N hN=>zg ag49_10 fo_63_4 hN) ?_
   obtain ⟨x66,c67,H⟩:=H
   refine zw (b:=!(((((!decide (x33=0)) || (!decide ((x36n:Int)=1))) || (!decide (x41=0))) || (!decide (x60=3))) || (!decide (x63=((IntKind.i64.wrap x7).tmod 8))))) (zh rfl rfl) (Value.int .i64 x66) (fun hb N hN=>zk (gv hb) ag_3 (c67 (zq hb)) hN) ?_
   refine zw (b:=!(((((!decide (x33=0)) || (!decide ((x36n:Int)=1))) || (!decide (x41=0))) || (!decide (x60=3))) || (!decide (x63=((IntKind.i64.wrap x7).tmod 8))))) (zh rfl rfl) (Value.int .i64 (1+((IntKind.i64.wrap x10).tmod (8 - ((IntKind.i64.wrap x7).tmod 8))))) (fun hb N hN=>zd (v:=.int .i64 (1+((IntKind.i64.wrap x10).tmod (8 - ((IntKind.i64.wrap x7).tmod 8))))) ag49_6 hN) ?_
   refine zw (b:=!(((((!decide (x33=0)) || (!decide ((x36n:Int)=1))) || (!decide (x41=0))) || (!decide (x60=3))) || (!decide (x63=((IntKind.i64.wrap x7).tmod 8))))) (zh rfl rfl) (Value.bool (!decide (x66=(1+((IntKind.i64.wrap x10).tmod (8 - ((IntKind.i64.wrap x7).tmod 8))))))) (fun hb N hN=>op_neq (gv hb) (gv hb) hN) ?_
   refine za (zN rfl rfl (fun hq=>(gv (zI hq))) ?_)
   refine za (zd (v:=.bool ((((((!decide (x33=0)) || (!decide ((x36n:Int)=1))) || (!decide (x41=0))) || (!decide (x60=3))) || (!decide (x63=((IntKind.i64.wrap x7).tmod 8)))) || (!decide (x66=(1+((IntKind.i64.wrap x10).tmod (8 - ((IntKind.i64.wrap x7).tmod 8)))))))) rfl ?_)
   refine zw (b:=!((((((!decide (x33=0)) || (!decide ((x36n:Int)=1))) || (!decide (x41=0))) || (!decide (x60=3))) || (!decide (x63=((IntKind.i64.wrap x7).tmod 8)))) || (!decide (x66=(1+((IntKind.i64.wrap x10).tmod (8 - ((IntKind.i64.wrap x7).tmod 8)))))))) (zh rfl rfl) (Value.int .i64 x48) (fun hb N hN=>zd (v:=.int .i64 x48) ag49_12 hN) ?_
   refine zw (b:=!((((((!decide (x33=0)) || (!decide ((x36n:Int)=1))) || (!decide (x41=0))) || (!decide (x60=3))) || (!decide (x63=((IntKind.i64.wrap x7).tmod 8)))) || (!decide (x66=(1+((IntKind.i64.wrap x10).tmod (8 - ((IntKind.i64.wrap x7).tmod 8)))))))) (zh rfl rfl) (Value.bool (decide (x48=0))) (fun hb N hN=>op_eql (gv hb) rfl hN) ?_
   refine zw (b:=!((((((!decide (x33=0)) || (!decide ((x36n:Int)=1))) || (!decide (x41=0))) || (!decide (x60=3))) || (!decide (x63=((IntKind.i64.wrap x7).tmod 8)))) || (!decide (x66=(1+((IntKind.i64.wrap x10).tmod (8 - ((IntKind.i64.wrap x7).tmod 8)))))))) (zh rfl rfl) (Value.slice p1a p1n p1c) (fun hb N hN=>zd (v:=.slice p1a p1n p1c) ag49_0 hN) ?_
   refine zw (b:=!((((((!decide (x33=0)) || (!decide ((x36n:Int)=1))) || (!decide (x41=0))) || (!decide (x60=3))) || (!decide (x63=((IntKind.i64.wrap x7).tmod 8)))) || (!decide (x66=(1+((IntKind.i64.wrap x10).tmod (8 - ((IntKind.i64.wrap x7).tmod 8)))))))) (zh rfl rfl) (Value.int .i64 (p1n:Int)) (fun hb N hN=>zL (gv hb) un_23 hN) ?_
   refine zw (b:=!((((((!decide (x33=0)) || (!decide ((x36n:Int)=1))) || (!decide (x41=0))) || (!decide (x60=3))) || (!decide (x63=((IntKind.i64.wrap x7).tmod 8)))) || (!decide (x66=(1+((IntKind.i64.wrap x10).tmod (8 - ((IntKind.i64.wrap x7).tmod 8)))))))) (zh rfl rfl) (Value.int .i64 (1+((IntKind.i64.wrap x10).tmod (8 - ((IntKind.i64.wrap x7).tmod 8))))) (fun hb N hN=>zd (v:=.int .i64 (1+((IntKind.i64.wrap x10).tmod (8 - ((IntKind.i64.wrap x7).tmod 8))))) ag49_6 hN) ?_
   refine zw (b:=!((((((!decide (x33=0)) || (!decide ((x36n:Int)=1))) || (!decide (x41=0))) || (!decide (x60=3))) || (!decide (x63=((IntKind.i64.wrap x7).tmod 8)))) || (!decide (x66=(1+((IntKind.i64.wrap x10).tmod (8 - ((IntKind.i64.wrap x7).tmod 8)))))))) (zh rfl rfl) (Value.bool (decide ((p1n:Int)≤(1+((IntKind.i64.wrap x10).tmod (8 - ((IntKind.i64.wrap x7).tmod 8))))))) (fun hb N hN=>op_leq (gv hb) (gv hb) hN) ?_
   refine zw (b:=!((((((!decide (x33=0)) || (!decide ((x36n:Int)=1))) || (!decide (x41=0))) || (!decide (x60=3))) || (!decide (x63=((IntKind.i64.wrap x7).tmod 8)))) || (!decide (x66=(1+((IntKind.i64.wrap x10).tmod (8 - ((IntKind.i64.wrap x7).tmod 8)))))))) (zh rfl rfl) (Value.bool (!decide ((decide (x48=0))=(decide ((p1n:Int)≤(1+((IntKind.i64.wrap x10).tmod (8 - ((IntKind.i64.wrap x7).tmod 8))))))))) (fun hb N hN=>op_neb un_4 (gv hb) (gv hb) hN) ?_
   refine za (zN rfl rfl (fun hq=>(gv (zI hq))) ?_)
   refine za (zd (v:=.bool (((((((!decide (x33=0)) || (!decide ((x36n:Int)=1))) || (!decide (x41=0))) || (!decide (x60=3))) || (!decide (x63=((IntKind.i64.wrap x7).tmod 8)))) || (!decide (x66=(1+((IntKind.i64.wrap x10).tmod (8 - ((IntKind.i64.wrap x7).tmod 8))))))) || (!decide ((decide (x48=0))=(decide ((p1n:Int)≤(1+((IntKind.i64.wrap x10).tmod (8 - ((IntKind.i64.wrap x7).tmod 8)))))))))) rfl ?_)
   refine zw (b:=!(((((((!decide (x33=0)) || (!decide ((x36n:Int)=1))) || (!decide (x41=0))) || (!decide (x60=3))) || (!decide (x63=((IntKind.i64.wrap x7).tmod 8)))) || (!decide (x66=(1+((IntKind.i64.wrap x10).tmod (8 - ((IntKind.i64.wrap x7).tmod 8))))))) || (!decide ((decide (x48=0))=(decide ((p1n:Int)≤(1+((IntKind.i64.wrap x10).tmod (8 - ((IntKind.i64.wrap x7).tmod 8)))))))))) (zh rfl rfl) (Value.int .i64 x54) (fun hb N hN=>zd (v:=.int .i64 x54) rfl hN) ?_
   refine zw (b:=!(((((((!decide (x33=0)) || (!decide ((x36n:Int)=1))) || (!decide (x41=0))) || (!decide (x60=3))) || (!decide (x63=((IntKind.i64.wrap x7).tmod 8)))) || (!decide (x66=(1+((IntKind.i64.wrap x10).tmod (8 - ((IntKind.i64.wrap x7).tmod 8))))))) || (!decide ((decide (x48=0))=(decide ((p1n:Int)≤(1+((IntKind.i64.wrap x10).tmod (8 - ((IntKind.i64.wrap x7).tmod 8)))))))))) (zh rfl rfl) (Value.bool (!decide (x54=3))) (fun hb N hN=>op_neq (gv hb) rfl hN) ?_
   refine za (zN rfl rfl (fun hq=>(gv (zI hq))) ?_)
   refine zi ?_
   refine zz ((((((((!decide (x33=0)) || (!decide ((x36n:Int)=1))) || (!decide (x41=0))) || (!decide (x60=3))) || (!decide (x63=((IntKind.i64.wrap x7).tmod 8)))) || (!decide (x66=(1+((IntKind.i64.wrap x10).tmod (8 - ((IntKind.i64.wrap x7).tmod 8))))))) || (!decide ((decide (x48=0))=(decide ((p1n:Int)≤(1+((IntKind.i64.wrap x10).tmod (8 - ((IntKind.i64.wrap x7).tmod 8))))))))) || (!decide (x54=3))) rfl ?_ ?_
   ·intro hb
    replace H:=H.1 hb
    refine ze ?_
    refine zc rfl ?_
    refine za (zf (v:=.bool false) rfl ?_)
    refine zi ?_
    refine zy ?_
    exact zt (zn rfl zr) H
   ·intro hb
    replace H:=H.2 hb
    refine zC ?_
    refine ze ?_
    refine zc rfl ?_
    refine za (zd (v:=.pointer x17) ag49_3 ?_)
    refine za (zd (v:=.int .i64 x39) ag49_9 ?_)
    refine za (zd (v:=.int .u8 p2) ag49_1 ?_)
    refine za (op_conv rfl (congrArg (Option.map fun _=>()) un_5) un_3 rfl ?_)
    refine za (zB (vs:=[.pointer x17,.int .i64 x39,.int .i64 (IntKind.i64.wrap p2),.bool false]) en_28 (zj rfl (zj rfl (zj rfl (zj rfl zv)))) (CallsH.mono H ?_))
    clear H
    rintro _ h73 ⟨x75,rfl,H⟩
    refine za (zf (v:=.int .i64 x75) rfl ?_)
    refine zi ?_
    refine ze ?_
    refine zc rfl ?_
    refine za (zd (v:=.pointer x17) ag49_3 ?_)
    refine za (zB (vs:=[.pointer x17]) en_18 (zj rfl zv) (CallsH.mono H ?_))
    clear H
    rintro _ h76 ⟨x78,x79,rfl,H⟩
    refine za (zd (v:=.tuple #[.int .i64 x78,.int .i64 x79]) rfl ?_)
    refine za (zx rfl rfl ?_)
    refine za (zx rfl rfl ?_)
    refine za (zf (v:=.int .i64 x78) rfl ?_)
    refine za (zf (v:=.int .i64 x79) rfl ?_)
    refine zi ?_
    refine ze ?_
    refine wpf_forget ?_
    intro fg80 hfg80
    have ag80_0:fg80 1=(Value.slice p1a p1n p1c):=by rw [hfg80]; exact ag49_0
    have ag80_1:fg80 2=(Value.int .u8 p2):=by rw [hfg80]; exact ag49_1
    have ag80_2:fg80 9=(Value.pointer x14):=by rw [hfg80]; exact ag49_2
    have ag80_3:fg80 10=(Value.pointer x17):=by rw [hfg80]; exact ag49_3
    have ag80_4:fg80 12=(Value.pointer (some ⟨h15.size,0,none⟩)):=by rw [hfg80]; exact ag49_4
    have ag80_5:fg80 13=(Value.int .i64 ((IntKind.i64.wrap x7).tmod 8)):=by rw [hfg80]; exact ag49_5
    have ag80_6:fg80 20=(Value.int .i64 x48):=by rw [hfg80]; exact ag49_12
    have ag80_7:fg80 24=(Value.int .i64 x75):=by rw [hfg80]; exact rfl
    have ag80_8:fg80 25=(Value.int .i64 x78):=by rw [hfg80]; exact rfl
    have ag80_9:fg80 26=(Value.int .i64 x79):=by rw [hfg80]; exact rfl
    clear hfg80
    refine zc rfl ?_
    refine za (zd (v:=.pointer x17) ag80_3 ?_)
    refine za (zB (vs:=[.pointer x17,.int .u64 1]) en_29 (zj rfl (zj rfl zv)) (CallsH.mono H ?_))
    clear H
    rintro _ h81 ⟨x83a,x83n,x83c,x84,rfl,H⟩
    refine za (zd (v:=.tuple #[.slice x83a x83n x83c,.int .i64 x84]) rfl ?_)
    refine za (zx rfl rfl ?_)
    refine za (zx rfl rfl ?_)
    refine za (zf (v:=.slice x83a x83n x83c) rfl ?_)
    refine za (zf (v:=.int .i64 x84) rfl ?_)
    refine zi ?_
    refine ze ?_
    refine ze ?_
    refine zc rfl ?_
    refine za (zd (v:=.int .i64 x75) ag80_7 ?_)
    refine za (op_neq rfl rfl ?_)
    refine za (zd (v:=.bool (!decide (x75=0))) rfl ?_)
    refine zw (b:=!(!decide (x75=0))) (zh rfl rfl) (Value.int .i64 x78) (fun hb N hN=>zd (v:=.int .i64 x78) ag80_8 hN) ?_
    refine zw (b:=!(!decide (x75=0))) (zh rfl rfl) (Value.bool (!decide (x78=3))) (fun hb N hN=>op_neq (gv hb) rfl hN) ?_
    refine za (zN rfl rfl (fun hq=>(gv (zI hq))) ?_)
    refine za (zd (v:=.bool ((!decide (x75=0)) || (!decide (x78=3)))) rfl ?_)
    refine zw (b:=!((!decide (x75=0)) || (!decide (x78=3)))) (zh rfl rfl) (Value.int .i64 x79) (fun hb N hN=>zd (v:=.int .i64 x79) ag80_9 hN) ?_
    refine zw (b:=!((!decide (x75=0)) || (!decide (x78=3)))) (zh rfl rfl) (Value.bool (!decide (x79=0))) (fun hb N hN=>op_neq (gv hb) rfl hN) ?_
    refine za (zN rfl rfl (fun hq=>(gv (zI hq))) ?_)
    refine za (zd (v:=.bool (((!decide (x75=0)) || (!decide (x78=3))) || (!decide (x79=0)))) rfl ?_)
    refine zw (b:=!(((!decide (x75=0)) || (!decide (x78=3))) || (!decide (x79=0)))) (zh rfl rfl) (Value.int .i64 x84) (fun hb N hN=>zd (v:=.int .i64 x84) rfl hN) ?_
    refine zw (b:=!(((!decide (x75=0)) || (!decide (x78=3))) || (!decide (x79=0)))) (zh rfl rfl) (Value.bool (!decide (x84=0))) (fun hb N hN=>op_neq (gv hb) rfl hN) ?_
    refine za (zN rfl rfl (fun hq=>(gv (zI hq))) ?_)
    refine za (zd (v:=.bool ((((!decide (x75=0)) || (!decide (x78=3))) || (!decide (x79=0))) || (!decide (x84=0)))) rfl ?_)
    refine zw (b:=!((((!decide (x75=0)) || (!decide (x78=3))) || (!decide (x79=0))) || (!decide (x84=0)))) (zh rfl rfl) (Value.slice x83a x83n x83c) (fun hb N hN=>zd (v:=.slice x83a x83n x83c) rfl hN) ?_
    refine zw (b:=!((((!decide (x75=0)) || (!decide (x78=3))) || (!decide (x79=0))) || (!decide (x84=0)))) (zh rfl rfl) (Value.int .i64 (x83n:Int)) (fun hb N hN=>zL (gv hb) un_70 hN) ?_
    refine zw (b:=!((((!decide (x75=0)) || (!decide (x78=3))) || (!decide (x79=0))) || (!decide (x84=0)))) (zh rfl rfl) (Value.bool (!decide ((x83n:Int)=1))) (fun hb N hN=>op_neq (gv hb) rfl hN) ?_
    refine za (zN rfl rfl (fun hq=>(gv (zI hq))) ?_)
    refine za (zd (v:=.bool (((((!decide (x75=0)) || (!decide (x78=3))) || (!decide (x79=0))) || (!decide (x84=0))) || (!decide ((x83n:Int)=1)))) rfl ?_)
    refine zw (b:=!(((((!decide (x75=0)) || (!decide (x78=3))) || (!decide (x79=0))) || (!decide (x84=0))) || (!decide ((x83n:Int)=1)))) (zh rfl rfl) (Value.slice x83a x83n x83c) (fun hb N hN=>zd (v:=.slice x83a x83n x83c) rfl hN) ?_
    obtain ⟨b91,o92,c93,H⟩:=H
    obtain ⟨c90,H⟩:=H
    refine zw (b:=!(((((!decide (x75=0)) || (!decide (x78=3))) || (!decide (x79=0))) || (!decide (x84=0))) || (!decide ((x83n:Int)=1)))) (zh rfl rfl) (Value.pointer (some ⟨b91,o92,none⟩)) (fun hb N hN=>zD (Eq.trans (gv hb) (congrArg (fun a=>Value.slice a x83n x83c) (c93 (zq hb)))) rfl ei_70 (c90 (zq hb)) hN) ?_
    obtain ⟨x94_0,x94_1,x94_2,c95,H⟩:=H
    refine zw (b:=!(((((!decide (x75=0)) || (!decide (x78=3))) || (!decide (x79=0))) || (!decide (x84=0))) || (!decide ((x83n:Int)=1)))) (zh rfl rfl) (Value.agg #[.int .i64 x94_0,.int .i64 x94_1,.int .i64 x94_2]) (fun hb N hN=>zQ (gv hb) ag_74 (c95 (zq hb)) hN) ?_
    refine zw (b:=!(((((!decide (x75=0)) || (!decide (x78=3))) || (!decide (x79=0))) || (!decide (x84=0))) || (!decide ((x83n:Int)=1)))) (zh rfl rfl) (Value.int .u8 p2) (fun hb N hN=>zd (v:=.int .u8 p2) ag80_1 hN) ?_
    refine zw (b:=!(((((!decide (x75=0)) || (!decide (x78=3))) || (!decide (x79=0))) || (!decide (x84=0))) || (!decide ((x83n:Int)=1)))) (zh rfl rfl) (Value.int .i64 (IntKind.i64.wrap p2)) (fun hb N hN=>op_conv (gv hb) (congrArg (Option.map fun _=>()) un_5) un_3 rfl hN) ?_
    refine zw (b:=!(((((!decide (x75=0)) || (!decide (x78=3))) || (!decide (x79=0))) || (!decide (x84=0))) || (!decide ((x83n:Int)=1)))) (zh rfl rfl) (Value.agg #[.int .i64 3,.int .i64 1,.int .i64 (IntKind.i64.wrap p2)]) (fun hb N hN=>zU (vs:=[(0,.int .i64 3),(1,.int .i64 1),(2,.int .i64 (IntKind.i64.wrap p2))]) (cs:=#[.int .i64 3,.int .i64 1,.int .i64 (IntKind.i64.wrap p2)]) z_74 fs_74 (zA rfl (zA rfl (zA (gv hb) zP))) rfl hN) ?_
    refine zw (b:=!(((((!decide (x75=0)) || (!decide (x78=3))) || (!decide (x79=0))) || (!decide (x84=0))) || (!decide ((x83n:Int)=1)))) (zh rfl rfl) (Value.bool (!((decide (x94_0=3)) && ((decide (x94_1=1)) && ((decide (x94_2=(IntKind.i64.wrap p2))) && true))))) (fun hb N hN=>op_nes (a:=[.int .i64 x94_0,.int .i64 x94_1,.int .i64 x94_2]) (b:=[.int .i64 3,.int .i64 1,.int .i64 (IntKind.i64.wrap p2)]) (gv hb) (gv hb) eg_74 (eq_of_plan eqp_74 fun w=>(eqRun_int w un_3 ag_3 rfl rfl (eqRun_int w un_3 ag_3 rfl rfl (eqRun_int w un_3 ag_3 rfl rfl (eqRun_nil w))))) hN) ?_
    refine za (zN rfl rfl (fun hq=>(gv (zI hq))) ?_)
    refine zi ?_
    refine zz ((((((!decide (x75=0)) || (!decide (x78=3))) || (!decide (x79=0))) || (!decide (x84=0))) || (!decide ((x83n:Int)=1))) || (!((decide (x94_0=3)) && ((decide (x94_1=1)) && ((decide (x94_2=(IntKind.i64.wrap p2))) && true))))) rfl ?_ ?_
    ·intro hb
     replace H:=H.1 hb
     refine ze ?_
     refine zc rfl ?_
     refine za (zf (v:=.bool false) rfl ?_)
     refine zi ?_
     refine zy ?_
     exact zt (zn rfl zr) H
    ·intro hb
     replace H:=H.2 hb
     refine zC ?_
     refine ze ?_
     refine zc rfl ?_
     refine za (zd (v:=.pointer x14) ag80_2 ?_)
     obtain ⟨x97_0,x97_1,c98,H⟩:=H
     refine za (zQ ag80_4 ag_39 c98 ?_)
     refine za (zB (vs:=[.pointer x14,.agg #[.int .i64 x97_0,.int .u64 x97_1]]) en_27 (zj rfl (zj rfl zv)) (CallsH.mono H ?_))
     clear H
     rintro _ h99 ⟨x101,x102,x103,rfl,H⟩
     refine za (zd (v:=.tuple #[.int .i64 x101,.int .i64 x102,.int .i64 x103]) rfl ?_)
     refine za (zx rfl rfl ?_)
     refine za (zx rfl rfl ?_)
     refine za (zx rfl rfl ?_)
     refine za (zf (v:=.int .i64 x101) rfl ?_)
     refine zi ?_
     refine ze ?_
     refine zc rfl ?_
     refine za (zd (v:=.pointer x14) ag80_2 ?_)
     obtain ⟨x104_0,x104_1,c105,H⟩:=H
     refine za (zQ ag80_4 ag_39 c105 ?_)
     refine za (zB (vs:=[.pointer x14,.agg #[.int .i64 x104_0,.int .u64 x104_1],.int .i64 0,.int .i64 8]) en_20 (zj rfl (zj rfl (zj rfl (zj rfl zv)))) (CallsH.mono H ?_))
     clear H
     rintro _ h106 ⟨x108a,x108n,x108c,x109,rfl,H⟩
     refine za (zd (v:=.tuple #[.slice x108a x108n x108c,.int .i64 x109]) rfl ?_)
     refine za (zx rfl rfl ?_)
     refine za (zx rfl rfl ?_)
     refine za (zf (v:=.slice x108a x108n x108c) rfl ?_)
     refine za (zf (v:=.int .i64 x109) rfl ?_)
     refine zi ?_
     refine ze ?_
     refine ze ?_
     refine zc rfl ?_
     refine za (zf (v:=.int .i64 0) rfl ?_)
     refine zi ?_
     refine zJ ?_
     obtain ⟨I111,mu112,hI,H⟩:=H
     obtain ⟨I113,mu113,hin113,hout113,hmu113⟩ : ∃ (J113:Fr→Heap→Prop) (m:Fr→Heap→Nat),(∀ f hz (x110:Int),f 31 = .int .i64 x110→f 1 = .slice p1a p1n p1c→f 13 = .int .i64 ((IntKind.i64.wrap x7).tmod 8)→f 20 = .int .i64 x48→f 21 = .int .i64 x101→f 29 = .slice x108a x108n x108c→I111 x110 hz→J113 f hz)∧(∀ f hz,J113 f hz→∃ (x110:Int),f 31 = .int .i64 x110∧f 1 = .slice p1a p1n p1c∧f 13 = .int .i64 ((IntKind.i64.wrap x7).tmod 8)∧f 20 = .int .i64 x48∧f 21 = .int .i64 x101∧f 29 = .slice x108a x108n x108c∧I111 x110 hz)∧(∀ f hz (x110:Int),f 31 = .int .i64 x110→m f hz=mu112 x110 hz):=⟨fun f hz=>∃ (x110:Int),f 31 = .int .i64 x110∧f 1 = .slice p1a p1n p1c∧f 13 = .int .i64 ((IntKind.i64.wrap x7).tmod 8)∧f 20 = .int .i64 x48∧f 21 = .int .i64 x101∧f 29 = .slice x108a x108n x108c∧I111 x110 hz,fun f hz=>mu112 (dInt (f 31)) hz,fun _ _ x110 a0 a1 a2 a3 a4 a5 z=>⟨x110,a0,a1,a2,a3,a4,a5,z⟩,fun _ _ hz=>hz,fun f hz x110 a0=>by simp only [a0]; rfl⟩
     refine wpf_loop I113 mu113 (hin113 _ _ _ rfl ag80_0 ag80_5 ag80_6 rfl rfl hI) ?_
     clear hI
     intro f h114 hf
     obtain ⟨x110,a113_0,a113_1,a113_2,a113_3,a113_4,a113_5,hJ⟩:=hout113 _ _ hf
     replace H:=H x110 h114 hJ
     refine ze ?_
     refine ze ?_
     refine zc rfl ?_
     refine za (zd (v:=.int .i64 x110) a113_0 ?_)
     refine za (op_lss rfl rfl ?_)
     refine zi ?_
     refine zz (decide (x110<8)) rfl ?_ ?_
     ·intro hb
      replace H:=H.1 (of_decide_eq_true hb)
      refine zC ?_
      refine ze ?_
      refine zJ ?_
      refine ze ?_
      refine zc rfl ?_
      refine za (zf (v:=.int .u8 0) rfl ?_)
      refine zi ?_
      obtain ⟨J117,HR,H⟩:=H
      obtain ⟨J118,hin118,hout118⟩ : ∃ J118:Fr→Heap→Prop,(∀ f hz (x116:Int),f 32 = .int .u8 x116→f 1 = .slice p1a p1n p1c→f 13 = .int .i64 ((IntKind.i64.wrap x7).tmod 8)→f 20 = .int .i64 x48→f 21 = .int .i64 x101→f 29 = .slice x108a x108n x108c→f 31 = .int .i64 x110→J117 x116 hz→J118 f hz)∧(∀ f hz,J118 f hz→∃ (x116:Int),f 32 = .int .u8 x116∧f 1 = .slice p1a p1n p1c∧f 13 = .int .i64 ((IntKind.i64.wrap x7).tmod 8)∧f 20 = .int .i64 x48∧f 21 = .int .i64 x101∧f 29 = .slice x108a x108n x108c∧f 31 = .int .i64 x110∧J117 x116 hz):=⟨fun f hz=>∃ (x116:Int),f 32 = .int .u8 x116∧f 1 = .slice p1a p1n p1c∧f 13 = .int .i64 ((IntKind.i64.wrap x7).tmod 8)∧f 20 = .int .i64 x48∧f 21 = .int .i64 x101∧f 29 = .slice x108a x108n x108c∧f 31 = .int .i64 x110∧J117 x116 hz,fun _ _ x116 a0 a1 a2 a3 a4 a5 a6 z=>⟨x116,a0,a1,a2,a3,a4,a5,a6,z⟩,fun _ _ hz=>hz⟩
      refine wpf_seq_cut J118 ?_ ?_
      ·skip
       refine ze ?_
       refine zc rfl ?_
       refine za (zd (v:=.int .i64 x48) a113_3 ?_)
       refine za (op_eql rfl rfl ?_)
       refine za (zd (v:=.bool (decide (x48=0))) rfl ?_)
       refine zw (b:=decide (x48=0)) (zh rfl rfl) (Value.int .i64 x110) (fun hb N hN=>zd (v:=.int .i64 x110) a113_0 hN) ?_
       refine zw (b:=decide (x48=0)) (zh rfl rfl) (Value.int .i64 ((IntKind.i64.wrap x7).tmod 8)) (fun hb N hN=>zd (v:=.int .i64 ((IntKind.i64.wrap x7).tmod 8)) a113_2 hN) ?_
       refine zw (b:=decide (x48=0)) (zh rfl rfl) (Value.bool (decide (((IntKind.i64.wrap x7).tmod 8)≤x110))) (fun hb N hN=>op_geq (gv hb) (gv hb) hN) ?_
       refine za (zR rfl (fun hq=>(gv hq)) rfl ?_)
       refine za (zd (v:=.bool ((decide (x48=0)) && (decide (((IntKind.i64.wrap x7).tmod 8)≤x110)))) rfl ?_)
       refine zw (b:=(decide (x48=0)) && (decide (((IntKind.i64.wrap x7).tmod 8)≤x110))) (zh rfl rfl) (Value.int .i64 x110) (fun hb N hN=>zd (v:=.int .i64 x110) a113_0 hN) ?_
       refine zw (b:=(decide (x48=0)) && (decide (((IntKind.i64.wrap x7).tmod 8)≤x110))) (zh rfl rfl) (Value.int .i64 ((IntKind.i64.wrap x7).tmod 8)) (fun hb N hN=>zd (v:=.int .i64 ((IntKind.i64.wrap x7).tmod 8)) a113_2 hN) ?_
       refine zw (b:=(decide (x48=0)) && (decide (((IntKind.i64.wrap x7).tmod 8)≤x110))) (zh rfl rfl) (Value.int .i64 (IntKind.i64.wrap (x110 - ((IntKind.i64.wrap x7).tmod 8)))) (fun hb N hN=>op_sub (gv hb) (gv hb) rfl hN) ?_
       refine zw (b:=(decide (x48=0)) && (decide (((IntKind.i64.wrap x7).tmod 8)≤x110))) (zh rfl rfl) (Value.slice p1a p1n p1c) (fun hb N hN=>zd (v:=.slice p1a p1n p1c) a113_1 hN) ?_
       refine zw (b:=(decide (x48=0)) && (decide (((IntKind.i64.wrap x7).tmod 8)≤x110))) (zh rfl rfl) (Value.int .i64 (p1n:Int)) (fun hb N hN=>zL (gv hb) un_23 hN) ?_
       refine zw (b:=(decide (x48=0)) && (decide (((IntKind.i64.wrap x7).tmod 8)≤x110))) (zh rfl rfl) (Value.bool (decide ((IntKind.i64.wrap (x110 - ((IntKind.i64.wrap x7).tmod 8)))<(p1n:Int)))) (fun hb N hN=>op_lss (gv hb) (gv hb) hN) ?_
       refine za (zR rfl (fun hq=>(gv hq)) rfl ?_)
       refine zi ?_
       refine zz (((decide (x48=0)) && (decide (((IntKind.i64.wrap x7).tmod 8)≤x110))) && (decide ((IntKind.i64.wrap (x110 - ((IntKind.i64.wrap x7).tmod 8)))<(p1n:Int)))) rfl ?_ ?_
       ·intro hb
        replace H:=H.1 hb
        refine zc rfl ?_
        refine za (zd (v:=.slice p1a p1n p1c) a113_1 ?_)
        refine za (zd (v:=.int .i64 x110) a113_0 ?_)
        refine za (zd (v:=.int .i64 ((IntKind.i64.wrap x7).tmod 8)) a113_2 ?_)
        obtain ⟨c132,H⟩:=H
        refine za (op_sub rfl rfl (zT c132) ?_)
        obtain ⟨b134,o135,rfl,H⟩:=H
        obtain ⟨c133,H⟩:=H
        refine za (zD rfl rfl ei_23 c133 ?_)
        obtain ⟨x137,c138,H⟩:=H
        refine za (zk rfl ag_5 c138 ?_)
        refine za (zf (v:=.int .u8 x137) rfl ?_)
        refine zi ?_
        exact hin118 _ _ _ rfl a113_1 a113_2 a113_3 a113_4 a113_5 a113_0 H
       ·intro hb
        replace H:=H.2 hb
        refine zC ?_
        exact hin118 _ _ _ rfl a113_1 a113_2 a113_3 a113_4 a113_5 a113_0 H
      ·clear H
       intro f h119 hf
       obtain ⟨x116,a118_0,a118_1,a118_2,a118_3,a118_4,a118_5,a118_6,hJ⟩:=hout118 _ _ hf
       have H:=HR x116 h119 hJ
       refine ze ?_
       refine zc rfl ?_
       refine za (zd (v:=.slice x108a x108n x108c) a118_5 ?_)
       refine za (zd (v:=.int .i64 x110) a118_6 ?_)
       obtain ⟨b121,o122,rfl,H⟩:=H
       obtain ⟨c120,H⟩:=H
       refine za (zD rfl rfl ei_23 c120 ?_)
       obtain ⟨x124,c125,H⟩:=H
       refine za (zk rfl ag_5 c125 ?_)
       refine za (zd (v:=.int .u8 x116) a118_0 ?_)
       refine za (op_neq rfl rfl ?_)
       refine zi ?_
       refine zz (!decide (x124=x116)) rfl ?_ ?_
       ·intro hb
        replace H:=H.1 (of_decide_eq_false (zq hb))
        refine ze ?_
        refine zc rfl ?_
        refine za (zf (v:=.bool false) rfl ?_)
        refine zi ?_
        refine zy ?_
        exact zt (zn rfl zr) H
       ·intro hb
        replace H:=H.2 (of_decide_eq_true (zK hb))
        refine zC ?_
        refine zc rfl ?_
        refine za (zd (v:=.int .i64 x110) a118_6 ?_)
        obtain ⟨c127,H⟩:=H
        refine za (op_add rfl rfl (zT c127) ?_)
        refine za (zf (v:=.int .i64 (x110+1)) rfl ?_)
        refine zi ?_
        exact And.intro (hin113 _ _ _ rfl a118_1 a118_2 a118_3 a118_4 a118_5 H.1) (lt_of (hmu113 _ _ _ rfl) (hmu113 _ _ _ a113_0) H.2)
     ·intro hb
      replace H:=H.2 (of_decide_eq_false hb)
      refine wpf_exit ?_
      refine ze ?_
      refine zc rfl ?_
      refine za (zd (v:=.int .i64 x101) a113_4 ?_)
      refine za (op_eql rfl rfl ?_)
      refine za (zf (v:=.bool (decide (x101=1))) rfl ?_)
      refine zi ?_
      refine zy ?_
      exact zt (zn rfl zr) H
end Go.Proofs.Vf
