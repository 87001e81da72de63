/- Printed by a program of this claim: for each Go function named below a formula over the heap, and the proof that it gives the call of that function. No conditions. -/
import Derived.Test.YtcldahgjomfbpaaGreatBase
namespace Go.Proofs.Vf
open Go Go.Proofs Go.VC
set_option maxRecDepth 100000
set_option maxHeartbeats 4000000
set_option linter.unusedVariables false
def F_linchpinlaw20_classes (K:Option Addr→Nat→Nat→Heap→Prop) (h:Heap):Prop:=
 ∀ (h1:Heap),h1=h.push (.cells #[.int .i64 8,.int .i64 3,.int .i64 20,.int .i64 2] 202 (0,0))→K (some ⟨h.size,0,none⟩) 2 2 h1
theorem F_linchpinlaw20_classes_ok (R:Value→Heap→Prop) (h:Heap) (H:F_linchpinlaw20_classes  (fun r0a r0n r0c h'=>R (Value.slice r0a r0n r0c) h') h):CallsH PR fn_linchpinlaw20_classes #[] h R:=by
 refine zF (args:=[]) Tryz.func34 rfl rfl ?_
 intro f hf
 clear hf
 unfold F_linchpinlaw20_classes at H
 refine ze ?_
 refine zc rfl ?_
 refine za (zf (v:=.slice none 0 0) rfl ?_)
 refine zi ?_
 refine ze ?_
 refine zc rfl ?_
 refine za (zT (vs:=[(0,.int .i64 8),(1,.int .i64 3)]) (cs:=#[.int .i64 8,.int .i64 3]) z_202 fs_202 (zC rfl (zC rfl zP)) rfl ?_)
 refine za (zT (vs:=[(0,.int .i64 20),(1,.int .i64 2)]) (cs:=#[.int .i64 20,.int .i64 2]) z_202 fs_202 (zC rfl (zC rfl zP)) rfl ?_)
 obtain ⟨h1,c2⟩ : ∃ h1,h1=h.push (.cells #[.int .i64 8,.int .i64 3,.int .i64 20,.int .i64 2] 202 (0,0)):=⟨_,rfl⟩
 replace H:=H h1 c2
 refine za (op_buildSlice' (cs:=#[.int .i64 8,.int .i64 3,.int .i64 20,.int .i64 2]) (vs:=[(0,.agg #[.int .i64 8,.int .i64 3]),(1,.agg #[.int .i64 20,.int .i64 2])]) (zl:=[.int .i64 0,.int .i64 0]) ri_86 (by decide) rfl rfl (zC rfl (zC rfl zP)) rfl c2 ?_)
 refine za (zf (v:=.slice (some ⟨h.size,0,none⟩) 2 2) rfl ?_)
 refine zi ?_
 refine zw ?_
 exact zs (zn rfl zr) H
def F_linchpinlaw20_got (K:Option Addr→Heap→Prop) (h:Heap):Prop:=
 CallsH PR fn_linchpinlaw20_classes #[] h (fun v h1=>∃ (x3a:Option Addr) (x3n:Nat) (x3c:Nat),v=(Value.slice x3a x3n x3c)∧CallsH PR fn_pool_New #[.slice x3a x3n x3c] h1 (fun v h4=>∃ (x6:Option Addr) (x7:Int),v=(Value.tuple #[.pointer x6,.int .i64 x7])∧((x6.isNone || (!decide (x7=0)))=true→K none h4)∧((x6.isNone || (!decide (x7=0)))=false→∃ (I11:Int→Heap→Prop) (mu12:Int→Heap→Nat),I11 0 h4∧∀ (x10:Int) (h14:Heap),I11 x10 h14→(x10<4→CallsH PR fn_pool_Pool_Get #[.pointer x6,.int .i64 1] h14 (fun v h16=>∃ (x18_0:Int) (x18_1:Int) (x19:Int),v=(Value.tuple #[.agg #[.int .i64 x18_0,.int .u64 x18_1],.int .i64 x19])∧(-9223372036854775808≤x10+1∧x10+1<9223372036854775808)∧(I11 (x10+1) h16∧mu12 (x10+1) h16<mu12 x10 h14)))∧((¬ (x10<4))→K x6 h14))))
theorem F_linchpinlaw20_got_ok (R:Value→Heap→Prop) (h:Heap) (H:F_linchpinlaw20_got  (fun r0 h'=>R (Value.pointer r0) h') h):CallsH PR fn_linchpinlaw20_got #[] h R:=by
 refine zF (args:=[]) Tryz.func23 rfl rfl ?_
 intro f hf
 clear hf
 unfold F_linchpinlaw20_got at H
 refine ze ?_
 refine zc rfl ?_
 refine za (zf (v:=.pointer none) rfl ?_)
 refine zi ?_
 refine ze ?_
 refine zc rfl ?_
 refine za (zA (vs:=[]) en_34 zu (CallsH.mono H ?_))
 clear H
 rintro _ h1 ⟨x3a,x3n,x3c,rfl,H⟩
 refine za (zA (vs:=[.slice x3a x3n x3c]) en_57 (zj rfl zu) (CallsH.mono H ?_))
 clear H
 rintro _ h4 ⟨x6,x7,rfl,H⟩
 refine za (zd (v:=.tuple #[.pointer x6,.int .i64 x7]) rfl ?_)
 refine za (zy rfl rfl ?_)
 refine za (zy rfl rfl ?_)
 refine za (zf (v:=.pointer x6) rfl ?_)
 refine za (zf (v:=.int .i64 x7) rfl ?_)
 refine zi ?_
 refine ze ?_
 refine ze ?_
 refine zc rfl ?_
 refine za (zd (v:=.pointer x6) rfl ?_)
 refine za (op_eq_ptr_nil rfl rfl un_27 ?_)
 refine za (zd (v:=.bool x6.isNone) rfl ?_)
 refine zz (b:=!x6.isNone) (zh rfl rfl) (Value.int .i64 x7) (fun hb N hN=>zd (v:=.int .i64 x7) rfl hN) ?_
 refine zz (b:=!x6.isNone) (zh rfl rfl) (Value.bool (!decide (x7=0))) (fun hb N hN=>op_neq (gv hb) rfl hN) ?_
 refine za (zN rfl rfl (fun hq=>(gv (zJ hq))) ?_)
 refine zi ?_
 refine zx (x6.isNone || (!decide (x7=0))) rfl ?_ ?_
 ·intro hb
  replace H:=H.1 hb
  refine ze ?_
  refine zc rfl ?_
  refine za (zf (v:=.pointer none) rfl ?_)
  refine zi ?_
  refine zw ?_
  exact zs (zn rfl zr) H
 ·intro hb
  replace H:=H.2 hb
  refine zB ?_
  refine ze ?_
  refine ze ?_
  refine zc rfl ?_
  refine za (zf (v:=.int .i64 0) rfl ?_)
  refine zi ?_
  refine zL ?_
  obtain ⟨I11,mu12,hI,H⟩:=H
  obtain ⟨I13,mu13,hin13,hout13,hmu13⟩ : ∃ (J13:Fr→Heap→Prop) (m:Fr→Heap→Nat),(∀ f hz (x10:Int),f 3 = .int .i64 x10→f 1 = .pointer x6→I11 x10 hz→J13 f hz)∧(∀ f hz,J13 f hz→∃ (x10:Int),f 3 = .int .i64 x10∧f 1 = .pointer x6∧I11 x10 hz)∧(∀ f hz (x10:Int),f 3 = .int .i64 x10→m f hz=mu12 x10 hz):=⟨fun f hz=>∃ (x10:Int),f 3 = .int .i64 x10∧f 1 = .pointer x6∧I11 x10 hz,fun f hz=>mu12 (dInt (f 3)) hz,fun _ _ x10 a0 a1 z=>⟨x10,a0,a1,z⟩,fun _ _ hz=>hz,fun f hz x10 a0=>by simp only [a0]; rfl⟩
  refine wpf_loop I13 mu13 (hin13 _ _ _ rfl rfl hI) ?_
  clear hI
  intro f h14 hf
  obtain ⟨x10,a13_0,a13_1,hJ⟩:=hout13 _ _ hf
  replace H:=H x10 h14 hJ
  refine ze ?_
  refine ze ?_
  refine zc rfl ?_
  refine za (zd (v:=.int .i64 x10) a13_0 ?_)
  refine za (op_lss rfl rfl ?_)
  refine zi ?_
  refine zx (decide (x10<4)) rfl ?_ ?_
  ·intro hb
   replace H:=H.1 (of_decide_eq_true hb)
   refine zB ?_
   refine ze ?_
   refine zL ?_
   refine zc rfl ?_
   refine za (zd (v:=.pointer x6) a13_1 ?_)
   refine za (zA (vs:=[.pointer x6,.int .i64 1]) en_61 (zj rfl (zj rfl zu)) (CallsH.mono H ?_))
   clear H
   rintro _ h16 ⟨x18_0,x18_1,x19,rfl,H⟩
   refine zi ?_
   refine zc rfl ?_
   refine za (zd (v:=.int .i64 x10) a13_0 ?_)
   obtain ⟨c20,H⟩:=H
   refine za (op_add rfl rfl (zU c20) ?_)
   refine za (zf (v:=.int .i64 (x10+1)) rfl ?_)
   refine zi ?_
   exact And.intro (hin13 _ _ _ rfl a13_1 H.1) (lt_of (hmu13 _ _ _ rfl) (hmu13 _ _ _ a13_0) H.2)
  ·intro hb
   replace H:=H.2 (of_decide_eq_false hb)
   refine wpf_exit ?_
   refine ze ?_
   refine zc rfl ?_
   refine za (zd (v:=.pointer x6) a13_1 ?_)
   refine za (zf (v:=.pointer x6) rfl ?_)
   refine zi ?_
   refine zw ?_
   exact zs (zn rfl zr) H
def F_linchpinlaw20_awake (K:Bool→Heap→Prop) (h:Heap):Prop:=
 CallsH PR fn_linchpinlaw20_got #[] h (fun v h1=>∃ (x3:Option Addr),v=(Value.pointer x3)∧(x3.isNone=true→K false h1)∧(x3.isNone=false→CallsH PR fn_ioq_New #[.pointer x3,.int .i64 2,.int .u64 5] h1 (fun v h5=>∃ (x7:Option Addr) (x8:Int),v=(Value.tuple #[.pointer x7,.int .i64 x8])∧((x7.isNone || (!decide (x8=0)))=true→K false h5)∧((x7.isNone || (!decide (x8=0)))=false→∀ (h11:Heap),h11=h5.push (.cells #[.int .i64 0,.int .u64 0] 39 (0,0))→∃ (h14:Heap),stCells h5.size h11 0 [.int .i64 0,.int .u64 1]=some h14∧∃ (x15_0:Int) (x15_1:Int),ldCells h14 h5.size 0 2=some [.int .i64 x15_0,.int .u64 x15_1]∧CallsH PR fn_ioq_Device_Submit #[.pointer x7,.agg #[.int .i64 7,.int .i64 0,.int .u64 100,.int .i64 0,.int .i64 x15_0,.int .u64 x15_1,.int .i64 2,.int .i64 4]] h14 (fun v h17=>∃ (x19:Int),v=(Value.int .i64 x19)∧∃ (x20_0:Int) (x20_1:Int),ldCells h17 h5.size 0 2=some [.int .i64 x20_0,.int .u64 x20_1]∧CallsH PR fn_ioq_Device_Submit #[.pointer x7,.agg #[.int .i64 8,.int .i64 0,.int .u64 100,.int .i64 0,.int .i64 x20_0,.int .u64 x20_1,.int .i64 2,.int .i64 4]] h17 (fun v h22=>∃ (x24:Int),v=(Value.int .i64 x24)∧CallsH PR fn_ioq_Device_Start #[.pointer x7] h22 (fun v h25=>∃ (x27a:Option Addr) (x27n:Nat) (x27c:Nat),v=(Value.slice x27a x27n x27c)∧CallsH PR fn_ioq_Device_Take #[.pointer x7] h25 (fun v h28=>∃ (x30:Int) (x31_0:Int) (x31_1:Int) (x31_2:Int) (x31_3:Int) (x31_4:Int) (x31_5:Int) (x31_6:Bool) (x31_7:Bool) (x31_8:Int) (x32:Int),v=(Value.tuple #[.int .i64 x30,.agg #[.int .i64 x31_0,.int .i64 x31_1,.int .i64 x31_2,.int .u64 x31_3,.int .i64 x31_4,.int .i64 x31_5,.bool x31_6,.bool x31_7,.int .i64 x31_8],.int .i64 x32])∧∀ (h33:Heap),h33=h28.push (.cells #[.int .i64 0,.int .i64 0,.int .i64 0,.int .u64 0,.int .i64 0,.int .i64 0,.bool false,.bool false,.int .i64 0] 63 (0,0))→∃ (h36:Heap),stCells h28.size h33 0 [.int .i64 x31_0,.int .i64 x31_1,.int .i64 x31_2,.int .u64 x31_3,.int .i64 x31_4,.int .i64 x31_5,.bool x31_6,.bool x31_7,.int .i64 x31_8]=some h36∧∀ (h37:Heap),h37=h36.push (.cells #[.int .u8 97,.int .u8 98] 5 (0,0))→isBlk h37 h36.size∧∀ (h39:Heap),MarkH h36.size h37 h39→CallsH PR fn_ioq_Device_Write #[.pointer x7,.int .i64 x30,.int .i64 1,.slice (some ⟨h36.size,0,none⟩) 2 2] h39 (fun v h42=>∃ (x44:Int),v=(Value.int .i64 x44)∧CallsH PR fn_ioq_Device_Finish #[.pointer x7,.int .i64 x30,.int .i64 9,.bool false] h42 (fun v h45=>∃ (x47:Int),v=(Value.int .i64 x47)∧CallsH PR fn_ioq_Device_Reap #[.pointer x7] h45 (fun v h48=>∃ (x50:Int) (x51:Int),v=(Value.tuple #[.int .i64 x50,.int .i64 x51])∧CallsH PR fn_ioq_Device_Go #[.pointer x7,.int .u64 1] h48 (fun v h52=>∃ (x54a:Option Addr) (x54n:Nat) (x54c:Nat) (x55:Int),v=(Value.tuple #[.slice x54a x54n x54c,.int .i64 x55])∧∃ (x57_0:Int) (x57_1:Int),ldCells h52 h5.size 0 2=some [.int .i64 x57_0,.int .u64 x57_1]∧CallsH PR fn_pool_Pool_Read #[.pointer x3,.agg #[.int .i64 x57_0,.int .u64 x57_1],.int .i64 3,.int .i64 2] h52 (fun v h59=>∃ (x61a:Option Addr) (x61n:Nat) (x61c:Nat) (x62:Int),v=(Value.tuple #[.slice x61a x61n x61c,.int .i64 x62])∧∃ (b72:Nat) (o73:Nat),((((((((((decide (x19=0)) && (decide (x24=8))) && (decide ((x27n:Int)=1))) && (decide (x32=0))) && (decide (x44=0))) && (decide (x50=7))) && (decide (x51=0))) && (decide ((x54n:Int)=1)))=true)→x54a=some ⟨b72,o73,none⟩)∧((((((((((decide (x19=0)) && (decide (x24=8))) && (decide ((x27n:Int)=1))) && (decide (x32=0))) && (decide (x44=0))) && (decide (x50=7))) && (decide (x51=0))) && (decide ((x54n:Int)=1)))=true)→0≤(0:Int)∧(0:Int)<(x54n:Int))∧∃ (x75_0:Int) (x75_1:Int) (x75_2:Int),((((((((((decide (x19=0)) && (decide (x24=8))) && (decide ((x27n:Int)=1))) && (decide (x32=0))) && (decide (x44=0))) && (decide (x50=7))) && (decide (x51=0))) && (decide ((x54n:Int)=1)))=true)→ldCells h59 b72 o73 3=some [.int .i64 x75_0,.int .i64 x75_1,.int .i64 x75_2])∧∃ (xs78:List Int),(((((((((((decide (x19=0)) && (decide (x24=8))) && (decide ((x27n:Int)=1))) && (decide (x32=0))) && (decide (x44=0))) && (decide (x50=7))) && (decide (x51=0))) && (decide ((x54n:Int)=1))) && ((decide (x75_0=7)) && ((decide (x75_1=1)) && ((decide (x75_2=9)) && true))))=true)→firstH h59 1 x61n (Value.slice x61a x61n x61c)=some (xs78.map (Value.int .u8)))∧K ((((((((((decide (x19=0)) && (decide (x24=8))) && (decide ((x27n:Int)=1))) && (decide (x32=0))) && (decide (x44=0))) && (decide (x50=7))) && (decide (x51=0))) && (decide ((x54n:Int)=1))) && ((decide (x75_0=7)) && ((decide (x75_1=1)) && ((decide (x75_2=9)) && true)))) && (decide ((strOfNums xs78)=(ByteArray.mk #[97,98])))) h59)))))))))))))
theorem F_linchpinlaw20_awake_ok (R:Value→Heap→Prop) (h:Heap) (H:F_linchpinlaw20_awake  (fun r0 h'=>R (Value.bool r0) h') h):CallsH PR fn_linchpinlaw20_awake #[] h R:=by
 refine zF (args:=[]) Tryz.func22 rfl rfl ?_
 intro f hf
 clear hf
 unfold F_linchpinlaw20_awake at H
 refine ze ?_
 refine zc rfl ?_
 refine za (zf (v:=.bool false) rfl ?_)
 refine zi ?_
 refine ze ?_
 refine zc rfl ?_
 refine za (zA (vs:=[]) en_23 zu (CallsH.mono H ?_))
 clear H
 rintro _ h1 ⟨x3,rfl,H⟩
 refine za (zf (v:=.pointer x3) rfl ?_)
 refine zi ?_
 refine ze ?_
 refine ze ?_
 refine zc rfl ?_
 refine za (zd (v:=.pointer x3) rfl ?_)
 refine za (op_eq_ptr_nil rfl rfl un_27 ?_)
 refine zi ?_
 refine zx (x3.isNone) rfl ?_ ?_
 ·intro hb
  replace H:=H.1 hb
  refine ze ?_
  refine zc rfl ?_
  refine za (zf (v:=.bool false) rfl ?_)
  refine zi ?_
  refine zw ?_
  exact zs (zn rfl zr) H
 ·intro hb
  replace H:=H.2 hb
  refine zB ?_
  refine ze ?_
  refine zc rfl ?_
  refine za (zd (v:=.pointer x3) rfl ?_)
  refine za (zA (vs:=[.pointer x3,.int .i64 2,.int .u64 5]) en_24 (zj rfl (zj rfl (zj rfl zu))) (CallsH.mono H ?_))
  clear H
  rintro _ h5 ⟨x7,x8,rfl,H⟩
  refine za (zd (v:=.tuple #[.pointer x7,.int .i64 x8]) rfl ?_)
  refine za (zy rfl rfl ?_)
  refine za (zy rfl rfl ?_)
  refine za (zf (v:=.pointer x7) rfl ?_)
  refine za (zf (v:=.int .i64 x8) rfl ?_)
  refine zi ?_
  refine ze ?_
  refine ze ?_
  refine zc rfl ?_
  refine za (zd (v:=.pointer x7) rfl ?_)
  refine za (op_eq_ptr_nil rfl rfl un_28 ?_)
  refine za (zd (v:=.bool x7.isNone) rfl ?_)
  refine zz (b:=!x7.isNone) (zh rfl rfl) (Value.int .i64 x8) (fun hb N hN=>zd (v:=.int .i64 x8) rfl hN) ?_
  refine zz (b:=!x7.isNone) (zh rfl rfl) (Value.bool (!decide (x8=0))) (fun hb N hN=>op_neq (gv hb) rfl hN) ?_
  refine za (zN rfl rfl (fun hq=>(gv (zJ hq))) ?_)
  refine zi ?_
  refine zx (x7.isNone || (!decide (x8=0))) rfl ?_ ?_
  ·intro hb
   replace H:=H.1 hb
   refine ze ?_
   refine zc rfl ?_
   refine za (zf (v:=.bool false) rfl ?_)
   refine zi ?_
   refine zw ?_
   exact zs (zn rfl zr) H
  ·intro hb
   replace H:=H.2 hb
   refine zB ?_
   refine ze ?_
   refine zc rfl ?_
   refine za (zT (vs:=[(0,.int .i64 0),(1,.int .u64 1)]) (cs:=#[.int .i64 0,.int .u64 1]) z_39 fs_39 (zC rfl (zC rfl zP)) rfl ?_)
   obtain ⟨h11,c12⟩ : ∃ h11,h11=h5.push (.cells #[.int .i64 0,.int .u64 0] 39 (0,0)):=⟨_,rfl⟩
   replace H:=H h11 c12
   refine za (zV z_39 c12 ?_)
   obtain ⟨h14,c13,H⟩:=H
   refine za (zH (v:=.agg #[.int .i64 0,.int .u64 1]) rfl rfl sz_39 rfl c13 ?_)
   refine zi ?_
   refine ze ?_
   refine zc rfl ?_
   refine za (zd (v:=.pointer x7) rfl ?_)
   obtain ⟨x15_0,x15_1,c16,H⟩:=H
   refine za (zQ rfl ag_39 c16 ?_)
   refine za (zT (vs:=[(0,.agg #[.int .i64 x15_0,.int .u64 x15_1]),(1,.int .i64 2),(2,.int .i64 4)]) (cs:=#[.int .i64 x15_0,.int .u64 x15_1,.int .i64 2,.int .i64 4]) z_41 fs_41 (zC rfl (zC rfl (zC rfl zP))) rfl ?_)
   refine za (zT (vs:=[(0,.int .i64 7),(2,.int .u64 100),(4,.agg #[.int .i64 x15_0,.int .u64 x15_1,.int .i64 2,.int .i64 4])]) (cs:=#[.int .i64 7,.int .i64 0,.int .u64 100,.int .i64 0,.int .i64 x15_0,.int .u64 x15_1,.int .i64 2,.int .i64 4]) z_43 fs_43 (zC rfl (zC rfl (zC rfl zP))) rfl ?_)
   refine za (zA (vs:=[.pointer x7,.agg #[.int .i64 7,.int .i64 0,.int .u64 100,.int .i64 0,.int .i64 x15_0,.int .u64 x15_1,.int .i64 2,.int .i64 4]]) en_16 (zj rfl (zj rfl zu)) (CallsH.mono H ?_))
   clear H
   rintro _ h17 ⟨x19,rfl,H⟩
   refine za (zf (v:=.int .i64 x19) rfl ?_)
   refine zi ?_
   refine ze ?_
   refine zc rfl ?_
   refine za (zd (v:=.pointer x7) rfl ?_)
   obtain ⟨x20_0,x20_1,c21,H⟩:=H
   refine za (zQ rfl ag_39 c21 ?_)
   refine za (zT (vs:=[(0,.agg #[.int .i64 x20_0,.int .u64 x20_1]),(1,.int .i64 2),(2,.int .i64 4)]) (cs:=#[.int .i64 x20_0,.int .u64 x20_1,.int .i64 2,.int .i64 4]) z_41 fs_41 (zC rfl (zC rfl (zC rfl zP))) rfl ?_)
   refine za (zT (vs:=[(0,.int .i64 8),(2,.int .u64 100),(4,.agg #[.int .i64 x20_0,.int .u64 x20_1,.int .i64 2,.int .i64 4])]) (cs:=#[.int .i64 8,.int .i64 0,.int .u64 100,.int .i64 0,.int .i64 x20_0,.int .u64 x20_1,.int .i64 2,.int .i64 4]) z_43 fs_43 (zC rfl (zC rfl (zC rfl zP))) rfl ?_)
   refine za (zA (vs:=[.pointer x7,.agg #[.int .i64 8,.int .i64 0,.int .u64 100,.int .i64 0,.int .i64 x20_0,.int .u64 x20_1,.int .i64 2,.int .i64 4]]) en_16 (zj rfl (zj rfl zu)) (CallsH.mono H ?_))
   clear H
   rintro _ h22 ⟨x24,rfl,H⟩
   refine za (zf (v:=.int .i64 x24) rfl ?_)
   refine zi ?_
   refine ze ?_
   refine zc rfl ?_
   refine za (zd (v:=.pointer x7) rfl ?_)
   refine za (zA (vs:=[.pointer x7]) en_17 (zj rfl zu) (CallsH.mono H ?_))
   clear H
   rintro _ h25 ⟨x27a,x27n,x27c,rfl,H⟩
   refine za (zf (v:=.slice x27a x27n x27c) rfl ?_)
   refine zi ?_
   refine ze ?_
   refine zc rfl ?_
   refine za (zd (v:=.pointer x7) rfl ?_)
   refine za (zA (vs:=[.pointer x7]) en_25 (zj rfl zu) (CallsH.mono H ?_))
   clear H
   rintro _ h28 ⟨x30,x31_0,x31_1,x31_2,x31_3,x31_4,x31_5,x31_6,x31_7,x31_8,x32,rfl,H⟩
   refine za (zd (v:=.tuple #[.int .i64 x30,.agg #[.int .i64 x31_0,.int .i64 x31_1,.int .i64 x31_2,.int .u64 x31_3,.int .i64 x31_4,.int .i64 x31_5,.bool x31_6,.bool x31_7,.int .i64 x31_8],.int .i64 x32]) rfl ?_)
   refine za (zy rfl rfl ?_)
   refine za (zy rfl rfl ?_)
   refine za (zy rfl rfl ?_)
   obtain ⟨h33,c34⟩ : ∃ h33,h33=h28.push (.cells #[.int .i64 0,.int .i64 0,.int .i64 0,.int .u64 0,.int .i64 0,.int .i64 0,.bool false,.bool false,.int .i64 0] 63 (0,0)):=⟨_,rfl⟩
   replace H:=H h33 c34
   refine za (zV z_63 c34 ?_)
   refine za (zf (v:=.int .i64 x30) rfl ?_)
   obtain ⟨h36,c35,H⟩:=H
   refine za (zH (v:=.agg #[.int .i64 x31_0,.int .i64 x31_1,.int .i64 x31_2,.int .u64 x31_3,.int .i64 x31_4,.int .i64 x31_5,.bool x31_6,.bool x31_7,.int .i64 x31_8]) rfl rfl sz_63 rfl c35 ?_)
   refine za (zf (v:=.int .i64 x32) rfl ?_)
   refine zi ?_
   refine ze ?_
   refine zc rfl ?_
   refine za (zd (v:=.pointer x7) rfl ?_)
   refine za (zd (v:=.int .i64 x30) rfl ?_)
   obtain ⟨h37,c38⟩ : ∃ h37,h37=h36.push (.cells #[.int .u8 97,.int .u8 98] 5 (0,0)):=⟨_,rfl⟩
   replace H:=H h37 c38
   refine za (op_buildSlice' (cs:=#[.int .u8 97,.int .u8 98]) (vs:=[(0,.int .u8 97),(1,.int .u8 98)]) (zl:=[.int .u8 0]) ri_23 (by decide) rfl rfl (zC rfl (zC rfl zP)) rfl c38 ?_)
   obtain ⟨c41,H⟩:=H
   refine za (op_mark rfl un_23 un_5 c41 ?_)
   intro h39 c40
   replace H:=H h39 c40
   refine za (zA (vs:=[.pointer x7,.int .i64 x30,.int .i64 1,.slice (some ⟨h36.size,0,none⟩) 2 2]) en_26 (zj rfl (zj rfl (zj rfl (zj rfl zu)))) (CallsH.mono H ?_))
   clear H
   rintro _ h42 ⟨x44,rfl,H⟩
   refine za (zf (v:=.int .i64 x44) rfl ?_)
   refine zi ?_
   refine ze ?_
   refine zc rfl ?_
   refine za (zd (v:=.pointer x7) rfl ?_)
   refine za (zd (v:=.int .i64 x30) rfl ?_)
   refine za (zA (vs:=[.pointer x7,.int .i64 x30,.int .i64 9,.bool false]) en_28 (zj rfl (zj rfl (zj rfl (zj rfl zu)))) (CallsH.mono H ?_))
   clear H
   rintro _ h45 ⟨x47,rfl,H⟩
   refine zi ?_
   refine ze ?_
   refine zc rfl ?_
   refine za (zd (v:=.pointer x7) rfl ?_)
   refine za (zA (vs:=[.pointer x7]) en_18 (zj rfl zu) (CallsH.mono H ?_))
   clear H
   rintro _ h48 ⟨x50,x51,rfl,H⟩
   refine za (zd (v:=.tuple #[.int .i64 x50,.int .i64 x51]) rfl ?_)
   refine za (zy rfl rfl ?_)
   refine za (zy rfl rfl ?_)
   refine za (zf (v:=.int .i64 x50) rfl ?_)
   refine za (zf (v:=.int .i64 x51) rfl ?_)
   refine zi ?_
   refine ze ?_
   refine zc rfl ?_
   refine za (zd (v:=.pointer x7) rfl ?_)
   refine za (zA (vs:=[.pointer x7,.int .u64 1]) en_29 (zj rfl (zj rfl zu)) (CallsH.mono H ?_))
   clear H
   rintro _ h52 ⟨x54a,x54n,x54c,x55,rfl,H⟩
   refine za (zd (v:=.tuple #[.slice x54a x54n x54c,.int .i64 x55]) rfl ?_)
   refine za (zy rfl rfl ?_)
   refine za (zy rfl rfl ?_)
   refine za (zf (v:=.slice x54a x54n x54c) rfl ?_)
   refine za (zf (v:=.int .i64 x55) rfl ?_)
   refine zi ?_
   refine ze ?_
   refine wpf_forget ?_
   intro fg56 hfg56
   have ag56_0:fg56 1=(Value.pointer x3):=by rw [hfg56]; exact rfl
   have ag56_1:fg56 4=(Value.pointer (some ⟨h5.size,0,none⟩)):=by rw [hfg56]; exact rfl
   have ag56_2:fg56 5=(Value.int .i64 x19):=by rw [hfg56]; exact rfl
   have ag56_3:fg56 6=(Value.int .i64 x24):=by rw [hfg56]; exact rfl
   have ag56_4:fg56 7=(Value.slice x27a x27n x27c):=by rw [hfg56]; exact rfl
   have ag56_5:fg56 10=(Value.int .i64 x32):=by rw [hfg56]; exact rfl
   have ag56_6:fg56 11=(Value.int .i64 x44):=by rw [hfg56]; exact rfl
   have ag56_7:fg56 12=(Value.int .i64 x50):=by rw [hfg56]; exact rfl
   have ag56_8:fg56 13=(Value.int .i64 x51):=by rw [hfg56]; exact rfl
   have ag56_9:fg56 14=(Value.slice x54a x54n x54c):=by rw [hfg56]; exact rfl
   clear hfg56
   refine zc rfl ?_
   refine za (zd (v:=.pointer x3) ag56_0 ?_)
   obtain ⟨x57_0,x57_1,c58,H⟩:=H
   refine za (zQ ag56_1 ag_39 c58 ?_)
   refine za (zA (vs:=[.pointer x3,.agg #[.int .i64 x57_0,.int .u64 x57_1],.int .i64 3,.int .i64 2]) en_20 (zj rfl (zj rfl (zj rfl (zj rfl zu)))) (CallsH.mono H ?_))
   clear H
   rintro _ h59 ⟨x61a,x61n,x61c,x62,rfl,H⟩
   refine za (zd (v:=.tuple #[.slice x61a x61n x61c,.int .i64 x62]) rfl ?_)
   refine za (zy rfl rfl ?_)
   refine za (zy rfl rfl ?_)
   refine za (zf (v:=.slice x61a x61n x61c) rfl ?_)
   refine za (zf (v:=.int .i64 x62) rfl ?_)
   refine zi ?_
   refine ze ?_
   refine zc rfl ?_
   refine za (zd (v:=.int .i64 x19) ag56_2 ?_)
   refine za (op_eql rfl rfl ?_)
   refine za (zd (v:=.bool (decide (x19=0))) rfl ?_)
   refine zz (b:=decide (x19=0)) (zh rfl rfl) (Value.int .i64 x24) (fun hb N hN=>zd (v:=.int .i64 x24) ag56_3 hN) ?_
   refine zz (b:=decide (x19=0)) (zh rfl rfl) (Value.bool (decide (x24=8))) (fun hb N hN=>op_eql (gv hb) rfl hN) ?_
   refine za (zR rfl (fun hq=>(gv hq)) rfl ?_)
   refine za (zd (v:=.bool ((decide (x19=0)) && (decide (x24=8)))) rfl ?_)
   refine zz (b:=(decide (x19=0)) && (decide (x24=8))) (zh rfl rfl) (Value.slice x27a x27n x27c) (fun hb N hN=>zd (v:=.slice x27a x27n x27c) ag56_4 hN) ?_
   refine zz (b:=(decide (x19=0)) && (decide (x24=8))) (zh rfl rfl) (Value.int .i64 (x27n:Int)) (fun hb N hN=>zM (gv hb) un_34 hN) ?_
   refine zz (b:=(decide (x19=0)) && (decide (x24=8))) (zh rfl rfl) (Value.bool (decide ((x27n:Int)=1))) (fun hb N hN=>op_eql (gv hb) rfl hN) ?_
   refine za (zR rfl (fun hq=>(gv hq)) rfl ?_)
   refine za (zd (v:=.bool (((decide (x19=0)) && (decide (x24=8))) && (decide ((x27n:Int)=1)))) rfl ?_)
   refine zz (b:=((decide (x19=0)) && (decide (x24=8))) && (decide ((x27n:Int)=1))) (zh rfl rfl) (Value.int .i64 x32) (fun hb N hN=>zd (v:=.int .i64 x32) ag56_5 hN) ?_
   refine zz (b:=((decide (x19=0)) && (decide (x24=8))) && (decide ((x27n:Int)=1))) (zh rfl rfl) (Value.bool (decide (x32=0))) (fun hb N hN=>op_eql (gv hb) rfl hN) ?_
   refine za (zR rfl (fun hq=>(gv hq)) rfl ?_)
   refine za (zd (v:=.bool ((((decide (x19=0)) && (decide (x24=8))) && (decide ((x27n:Int)=1))) && (decide (x32=0)))) rfl ?_)
   refine zz (b:=(((decide (x19=0)) && (decide (x24=8))) && (decide ((x27n:Int)=1))) && (decide (x32=0))) (zh rfl rfl) (Value.int .i64 x44) (fun hb N hN=>zd (v:=.int .i64 x44) ag56_6 hN) ?_
   refine zz (b:=(((decide (x19=0)) && (decide (x24=8))) && (decide ((x27n:Int)=1))) && (decide (x32=0))) (zh rfl rfl) (Value.bool (decide (x44=0))) (fun hb N hN=>op_eql (gv hb) rfl hN) ?_
   refine za (zR rfl (fun hq=>(gv hq)) rfl ?_)
   refine za (zd (v:=.bool (((((decide (x19=0)) && (decide (x24=8))) && (decide ((x27n:Int)=1))) && (decide (x32=0))) && (decide (x44=0)))) rfl ?_)
   refine zz (b:=((((decide (x19=0)) && (decide (x24=8))) && (decide ((x27n:Int)=1))) && (decide (x32=0))) && (decide (x44=0))) (zh rfl rfl) (Value.int .i64 x50) (fun hb N hN=>zd (v:=.int .i64 x50) ag56_7 hN) ?_
   refine zz (b:=((((decide (x19=0)) && (decide (x24=8))) && (decide ((x27n:Int)=1))) && (decide (x32=0))) && (decide (x44=0))) (zh rfl rfl) (Value.bool (decide (x50=7))) (fun hb N hN=>op_eql (gv hb) rfl hN) ?_
   refine za (zR rfl (fun hq=>(gv hq)) rfl ?_)
   refine za (zd (v:=.bool ((((((decide (x19=0)) && (decide (x24=8))) && (decide ((x27n:Int)=1))) && (decide (x32=0))) && (decide (x44=0))) && (decide (x50=7)))) rfl ?_)
   refine zz (b:=(((((decide (x19=0)) && (decide (x24=8))) && (decide ((x27n:Int)=1))) && (decide (x32=0))) && (decide (x44=0))) && (decide (x50=7))) (zh rfl rfl) (Value.int .i64 x51) (fun hb N hN=>zd (v:=.int .i64 x51) ag56_8 hN) ?_
   refine zz (b:=(((((decide (x19=0)) && (decide (x24=8))) && (decide ((x27n:Int)=1))) && (decide (x32=0))) && (decide (x44=0))) && (decide (x50=7))) (zh rfl rfl) (Value.bool (decide (x51=0))) (fun hb N hN=>op_eql (gv hb) rfl hN) ?_
   refine za (zR rfl (fun hq=>(gv hq)) rfl ?_)
   refine za (zd (v:=.bool (((((((decide (x19=0)) && (decide (x24=8))) && (decide ((x27n:Int)=1))) && (decide (x32=0))) && (decide (x44=0))) && (decide (x50=7))) && (decide (x51=0)))) rfl ?_)
   refine zz (b:=((((((decide (x19=0)) && (decide (x24=8))) && (decide ((x27n:Int)=1))) && (decide (x32=0))) && (decide (x44=0))) && (decide (x50=7))) && (decide (x51=0))) (zh rfl rfl) (Value.slice x54a x54n x54c) (fun hb N hN=>zd (v:=.slice x54a x54n x54c) ag56_9 hN) ?_
   refine zz (b:=((((((decide (x19=0)) && (decide (x24=8))) && (decide ((x27n:Int)=1))) && (decide (x32=0))) && (decide (x44=0))) && (decide (x50=7))) && (decide (x51=0))) (zh rfl rfl) (Value.int .i64 (x54n:Int)) (fun hb N hN=>zM (gv hb) un_70 hN) ?_
   refine zz (b:=((((((decide (x19=0)) && (decide (x24=8))) && (decide ((x27n:Int)=1))) && (decide (x32=0))) && (decide (x44=0))) && (decide (x50=7))) && (decide (x51=0))) (zh rfl rfl) (Value.bool (decide ((x54n:Int)=1))) (fun hb N hN=>op_eql (gv hb) rfl hN) ?_
   refine za (zR rfl (fun hq=>(gv hq)) rfl ?_)
   refine za (zd (v:=.bool ((((((((decide (x19=0)) && (decide (x24=8))) && (decide ((x27n:Int)=1))) && (decide (x32=0))) && (decide (x44=0))) && (decide (x50=7))) && (decide (x51=0))) && (decide ((x54n:Int)=1)))) rfl ?_)
   refine zz (b:=(((((((decide (x19=0)) && (decide (x24=8))) && (decide ((x27n:Int)=1))) && (decide (x32=0))) && (decide (x44=0))) && (decide (x50=7))) && (decide (x51=0))) && (decide ((x54n:Int)=1))) (zh rfl rfl) (Value.slice x54a x54n x54c) (fun hb N hN=>zd (v:=.slice x54a x54n x54c) ag56_9 hN) ?_
   obtain ⟨b72,o73,c74,H⟩:=H
   obtain ⟨c71,H⟩:=H
   refine zz (b:=(((((((decide (x19=0)) && (decide (x24=8))) && (decide ((x27n:Int)=1))) && (decide (x32=0))) && (decide (x44=0))) && (decide (x50=7))) && (decide (x51=0))) && (decide ((x54n:Int)=1))) (zh rfl rfl) (Value.pointer (some ⟨b72,o73,none⟩)) (fun hb N hN=>zE (Eq.trans (gv hb) (congrArg (fun a=>Value.slice a x54n x54c) (c74 hb))) rfl ei_70 (c71 hb) hN) ?_
   obtain ⟨x75_0,x75_1,x75_2,c76,H⟩:=H
   refine zz (b:=(((((((decide (x19=0)) && (decide (x24=8))) && (decide ((x27n:Int)=1))) && (decide (x32=0))) && (decide (x44=0))) && (decide (x50=7))) && (decide (x51=0))) && (decide ((x54n:Int)=1))) (zh rfl rfl) (Value.agg #[.int .i64 x75_0,.int .i64 x75_1,.int .i64 x75_2]) (fun hb N hN=>zQ (gv hb) ag_74 (c76 hb) hN) ?_
   refine zz (b:=(((((((decide (x19=0)) && (decide (x24=8))) && (decide ((x27n:Int)=1))) && (decide (x32=0))) && (decide (x44=0))) && (decide (x50=7))) && (decide (x51=0))) && (decide ((x54n:Int)=1))) (zh rfl rfl) (Value.agg #[.int .i64 7,.int .i64 1,.int .i64 9]) (fun hb N hN=>zT (vs:=[(0,.int .i64 7),(1,.int .i64 1),(2,.int .i64 9)]) (cs:=#[.int .i64 7,.int .i64 1,.int .i64 9]) z_74 fs_74 (zC rfl (zC rfl (zC rfl zP))) rfl hN) ?_
   refine zz (b:=(((((((decide (x19=0)) && (decide (x24=8))) && (decide ((x27n:Int)=1))) && (decide (x32=0))) && (decide (x44=0))) && (decide (x50=7))) && (decide (x51=0))) && (decide ((x54n:Int)=1))) (zh rfl rfl) (Value.bool ((decide (x75_0=7)) && ((decide (x75_1=1)) && ((decide (x75_2=9)) && true)))) (fun hb N hN=>op_eqs (a:=[.int .i64 x75_0,.int .i64 x75_1,.int .i64 x75_2]) (b:=[.int .i64 7,.int .i64 1,.int .i64 9]) (gv hb) (gv hb) eg_74 (eq_of_plan eqp_74 fun w=>(eqRun_int w un_3 ag_3 rfl rfl (eqRun_int w un_3 ag_3 rfl rfl (eqRun_int w un_3 ag_3 rfl rfl (eqRun_nil w))))) hN) ?_
   refine za (zR rfl (fun hq=>(gv hq)) rfl ?_)
   refine za (zd (v:=.bool (((((((((decide (x19=0)) && (decide (x24=8))) && (decide ((x27n:Int)=1))) && (decide (x32=0))) && (decide (x44=0))) && (decide (x50=7))) && (decide (x51=0))) && (decide ((x54n:Int)=1))) && ((decide (x75_0=7)) && ((decide (x75_1=1)) && ((decide (x75_2=9)) && true))))) rfl ?_)
   refine zz (b:=((((((((decide (x19=0)) && (decide (x24=8))) && (decide ((x27n:Int)=1))) && (decide (x32=0))) && (decide (x44=0))) && (decide (x50=7))) && (decide (x51=0))) && (decide ((x54n:Int)=1))) && ((decide (x75_0=7)) && ((decide (x75_1=1)) && ((decide (x75_2=9)) && true)))) (zh rfl rfl) (Value.slice x61a x61n x61c) (fun hb N hN=>zd (v:=.slice x61a x61n x61c) rfl hN) ?_
   obtain ⟨xs78,c79,H⟩:=H
   refine zz (b:=((((((((decide (x19=0)) && (decide (x24=8))) && (decide ((x27n:Int)=1))) && (decide (x32=0))) && (decide (x44=0))) && (decide (x50=7))) && (decide (x51=0))) && (decide ((x54n:Int)=1))) && ((decide (x75_0=7)) && ((decide (x75_1=1)) && ((decide (x75_2=9)) && true)))) (zh rfl rfl) (Value.string (strOfNums xs78)) (fun hb N hN=>op_b2s (gv hb) un_23 un_5 un_9 (c79 hb) hN) ?_
   refine zz (b:=((((((((decide (x19=0)) && (decide (x24=8))) && (decide ((x27n:Int)=1))) && (decide (x32=0))) && (decide (x44=0))) && (decide (x50=7))) && (decide (x51=0))) && (decide ((x54n:Int)=1))) && ((decide (x75_0=7)) && ((decide (x75_1=1)) && ((decide (x75_2=9)) && true)))) (zh rfl rfl) (Value.bool (decide ((strOfNums xs78)=(ByteArray.mk #[97,98])))) (fun hb N hN=>op_eqstr un_9 (gv hb) rfl hN) ?_
   refine za (zR rfl (fun hq=>(gv hq)) rfl ?_)
   refine za (zf (v:=.bool ((((((((((decide (x19=0)) && (decide (x24=8))) && (decide ((x27n:Int)=1))) && (decide (x32=0))) && (decide (x44=0))) && (decide (x50=7))) && (decide (x51=0))) && (decide ((x54n:Int)=1))) && ((decide (x75_0=7)) && ((decide (x75_1=1)) && ((decide (x75_2=9)) && true)))) && (decide ((strOfNums xs78)=(ByteArray.mk #[97,98]))))) rfl ?_)
   refine zi ?_
   refine zw ?_
   exact zs (zn rfl zr) H
def F_linchpinlaw20_IoqBad (p0:Int) (p1:Int) (K:Bool→Heap→Prop) (h:Heap):Prop:=
 CallsH PR fn_linchpinlaw20_awake #[] h (fun v h1=>∃ (x3:Bool),v=(Value.bool x3)∧(x3=false→K false h1)∧(x3=true→CallsH PR fn_linchpinlaw20_got #[] h1 (fun v h4=>∃ (x6:Option Addr),v=(Value.pointer x6)∧CallsH PR fn_ioq_New #[.pointer x6,.int .i64 2,.int .u64 5] h4 (fun v h7=>∃ (x9:Option Addr) (x10:Int),v=(Value.tuple #[.pointer x9,.int .i64 x10])∧((x9.isNone || (!decide (x10=0)))=true→K false h7)∧((x9.isNone || (!decide (x10=0)))=false→∀ (h13:Heap),h13=h7.push (.cells #[.int .i64 0,.int .u64 0] 39 (0,0))→∃ (h16:Heap),stCells h7.size h13 0 [.int .i64 1,.int .u64 1]=some h16∧∃ (x17_0:Int) (x17_1:Int),ldCells h16 h7.size 0 2=some [.int .i64 x17_0,.int .u64 x17_1]∧∀ (h19:Heap),h19=h16.push (.cells #[.int .i64 0,.int .i64 0,.int .u64 0,.int .i64 0,.int .i64 0,.int .u64 0,.int .i64 0,.int .i64 0] 43 (0,0))→∃ (h22:Heap),stCells h16.size h19 0 [.int .i64 4,.int .i64 0,.int .u64 80,.int .i64 0,.int .i64 x17_0,.int .u64 x17_1,.int .i64 0,.int .i64 3]=some h22∧∃ (x24_0:Int) (x24_1:Int) (x24_2:Int) (x24_3:Int) (x24_4:Int) (x24_5:Int) (x24_6:Int) (x24_7:Int),ldCells h22 h16.size 0 8=some [.int .i64 x24_0,.int .i64 x24_1,.int .u64 x24_2,.int .i64 x24_3,.int .i64 x24_4,.int .u64 x24_5,.int .i64 x24_6,.int .i64 x24_7]∧CallsH PR fn_ioq_Device_Submit #[.pointer x9,.agg #[.int .i64 x24_0,.int .i64 x24_1,.int .u64 x24_2,.int .i64 x24_3,.int .i64 x24_4,.int .u64 x24_5,.int .i64 x24_6,.int .i64 x24_7]] h22 (fun v h26=>∃ (x28:Int),v=(Value.int .i64 x28)∧∃ (x30_0:Int) (x30_1:Int) (x30_2:Int) (x30_3:Int) (x30_4:Int) (x30_5:Int) (x30_6:Int) (x30_7:Int),((x28=0)→ldCells h26 h16.size 0 8=some [.int .i64 x30_0,.int .i64 x30_1,.int .u64 x30_2,.int .i64 x30_3,.int .i64 x30_4,.int .u64 x30_5,.int .i64 x30_6,.int .i64 x30_7])∧∃ J35:Int→Heap→Prop,(∀ (x34:Int) (h32:Heap),J35 x34 h32→(((!decide (x28=0)) || (!decide (x34=8)))=true→K false h32)∧(((!decide (x28=0)) || (!decide (x34=8)))=false→∃ J37:Heap→Prop,(∀ (h39:Heap),J37 h39→∃ J40:Heap→Prop,(∀ (h42:Heap),J40 h42→∃ J44:Int→Heap→Prop,(∀ (x43:Int) (h46:Heap),J44 x43 h46→∃ (x47_0:Int) (x47_1:Int),ldCells h46 h7.size 0 2=some [.int .i64 x47_0,.int .u64 x47_1]∧CallsH PR fn_pool_Pool_Owner #[.pointer x6,.agg #[.int .i64 x47_0,.int .u64 x47_1]] h46 (fun v h49=>∃ (x51:Int) (x52:Int) (x53:Int),v=(Value.tuple #[.int .i64 x51,.int .i64 x52,.int .i64 x53])∧CallsH PR fn_ioq_Device_Go #[.pointer x9,.int .u64 2] h49 (fun v h54=>∃ (x56a:Option Addr) (x56n:Nat) (x56c:Nat) (x57:Int),v=(Value.tuple #[.slice x56a x56n x56c,.int .i64 x57])∧∃ (b62:Nat) (o63:Nat),(((((!decide (x51=1)) || (!decide (x57=0))) || (!decide ((x56n:Int)=1)))=false)→x56a=some ⟨b62,o63,none⟩)∧(((((!decide (x51=1)) || (!decide (x57=0))) || (!decide ((x56n:Int)=1)))=false)→0≤(0:Int)∧(0:Int)<(x56n:Int))∧∃ (x65_0:Int) (x65_1:Int) (x65_2:Int),(((((!decide (x51=1)) || (!decide (x57=0))) || (!decide ((x56n:Int)=1)))=false)→ldCells h54 b62 o63 3=some [.int .i64 x65_0,.int .i64 x65_1,.int .i64 x65_2])∧(((((!decide (x51=1)) || (!decide (x57=0))) || (!decide ((x56n:Int)=1))) || (!((decide (x65_0=4)) && ((decide (x65_1=2)) && ((decide (x65_2=x43)) && true)))))=true→K false h54)∧(((((!decide (x51=1)) || (!decide (x57=0))) || (!decide ((x56n:Int)=1))) || (!((decide (x65_0=4)) && ((decide (x65_1=2)) && ((decide (x65_2=x43)) && true)))))=false→∃ (x68_0:Int) (x68_1:Int) (x68_2:Int) (x68_3:Int) (x68_4:Int) (x68_5:Int) (x68_6:Int) (x68_7:Int),ldCells h54 h16.size 0 8=some [.int .i64 x68_0,.int .i64 x68_1,.int .u64 x68_2,.int .i64 x68_3,.int .i64 x68_4,.int .u64 x68_5,.int .i64 x68_6,.int .i64 x68_7]∧CallsH PR fn_ioq_Device_Submit #[.pointer x9,.agg #[.int .i64 x68_0,.int .i64 x68_1,.int .u64 x68_2,.int .i64 x68_3,.int .i64 x68_4,.int .u64 x68_5,.int .i64 x68_6,.int .i64 x68_7]] h54 (fun v h70=>∃ (x72:Int),v=(Value.int .i64 x72)∧(((decide (((IntKind.i64.wrap p0).tmod 4)=0)) || (decide (((IntKind.i64.wrap p0).tmod 4)=3)))=true→K (decide (x72=0)) h70)∧(((decide (((IntKind.i64.wrap p0).tmod 4)=0)) || (decide (((IntKind.i64.wrap p0).tmod 4)=3)))=false→((¬ (x72=7))→K false h70)∧(x72=7→∃ J77:Heap→Prop,(∀ (h79:Heap),J77 h79→CallsH PR fn_ioq_Device_Finish #[.pointer x9,.int .i64 0,.int .i64 0,.bool false] h79 (fun v h80=>∃ (x82:Int),v=(Value.int .i64 x82)∧CallsH PR fn_ioq_Device_Reap #[.pointer x9] h80 (fun v h83=>∃ (x85:Int) (x86:Int),v=(Value.tuple #[.int .i64 x85,.int .i64 x86])∧∃ (x88_0:Int) (x88_1:Int) (x88_2:Int) (x88_3:Int) (x88_4:Int) (x88_5:Int) (x88_6:Int) (x88_7:Int),((x86=0)→ldCells h83 h16.size 0 8=some [.int .i64 x88_0,.int .i64 x88_1,.int .u64 x88_2,.int .i64 x88_3,.int .i64 x88_4,.int .u64 x88_5,.int .i64 x88_6,.int .i64 x88_7])∧∃ J93:Int→Heap→Prop,(∀ (x92:Int) (h90:Heap),J93 x92 h90→K ((decide (x86=0)) && (decide (x92=0))) h90)∧((x86=0)→CallsH PR fn_ioq_Device_Submit #[.pointer x9,.agg #[.int .i64 x88_0,.int .i64 x88_1,.int .u64 x88_2,.int .i64 x88_3,.int .i64 x88_4,.int .u64 x88_5,.int .i64 x88_6,.int .i64 x88_7]] h83 (fun v h90=>∃ (x92:Int),v=(Value.int .i64 x92)∧J93 x92 h90))∧((¬ (x86=0))→∃ (x92:Int),J93 x92 h83))))∧(((IntKind.i64.wrap p0).tmod 4)=1→CallsH PR fn_ioq_Device_Take #[.pointer x9] h70 (fun v h96=>∃ (x98:Int) (x99_0:Int) (x99_1:Int) (x99_2:Int) (x99_3:Int) (x99_4:Int) (x99_5:Int) (x99_6:Bool) (x99_7:Bool) (x99_8:Int) (x100:Int),v=(Value.tuple #[.int .i64 x98,.agg #[.int .i64 x99_0,.int .i64 x99_1,.int .i64 x99_2,.int .u64 x99_3,.int .i64 x99_4,.int .i64 x99_5,.bool x99_6,.bool x99_7,.int .i64 x99_8],.int .i64 x100])∧J77 h96))∧((¬ (((IntKind.i64.wrap p0).tmod 4)=1))→J77 h70))))))))∧(((IntKind.i64.wrap p0).tmod 4)=3→CallsH PR fn_ioq_Device_Finish #[.pointer x9,.int .i64 0,.int .i64 (IntKind.i64.wrap p1),.bool true] h42 (fun v h102=>∃ (x104:Int),v=(Value.int .i64 x104)∧((¬ (x104=0))→K false h102)∧(x104=0→CallsH PR fn_ioq_Device_Reap #[.pointer x9] h102 (fun v h106=>∃ (x108:Int) (x109:Int),v=(Value.tuple #[.int .i64 x108,.int .i64 x109])∧∃ J115:Int→Heap→Prop,(∀ (x114:Int) (h112:Heap),J115 x114 h112→((((!decide (x108=4)) || (!decide (x109=0))) || (!decide (x114=6)))=true→K false h112)∧((((!decide (x108=4)) || (!decide (x109=0))) || (!decide (x114=6)))=false→J44 2 h112))∧((((!decide (x108=4)) || (!decide (x109=0)))=false)→CallsH PR fn_ioq_Device_Cancel #[.pointer x9,.int .i64 4] h106 (fun v h112=>∃ (x114:Int),v=(Value.int .i64 x114)∧J115 x114 h112))∧((((!decide (x108=4)) || (!decide (x109=0)))=true)→∃ (x114:Int),J115 x114 h106)))))∧((¬ (((IntKind.i64.wrap p0).tmod 4)=3))→CallsH PR fn_ioq_Device_Cancel #[.pointer x9,.int .i64 4] h42 (fun v h117=>∃ (x119:Int),v=(Value.int .i64 x119)∧∃ J124:Int→Heap→Prop,(∀ (x123:Int) (h121:Heap),J124 x123 h121→(((!decide (x119=0)) || (!decide (x123=6)))=true→K false h121)∧(((!decide (x119=0)) || (!decide (x123=6)))=false→J44 3 h121))∧((x119=0)→CallsH PR fn_ioq_Device_Cancel #[.pointer x9,.int .i64 4] h117 (fun v h121=>∃ (x123:Int),v=(Value.int .i64 x123)∧J124 x123 h121))∧((¬ (x119=0))→∃ (x123:Int),J124 x123 h117))))∧(1<((IntKind.i64.wrap p0).tmod 4)→CallsH PR fn_ioq_Device_Take #[.pointer x9] h39 (fun v h127=>∃ (x129:Int) (x130_0:Int) (x130_1:Int) (x130_2:Int) (x130_3:Int) (x130_4:Int) (x130_5:Int) (x130_6:Bool) (x130_7:Bool) (x130_8:Int) (x131:Int),v=(Value.tuple #[.int .i64 x129,.agg #[.int .i64 x130_0,.int .i64 x130_1,.int .i64 x130_2,.int .u64 x130_3,.int .i64 x130_4,.int .i64 x130_5,.bool x130_6,.bool x130_7,.int .i64 x130_8],.int .i64 x131])∧J40 h127))∧((¬ (1<((IntKind.i64.wrap p0).tmod 4)))→J40 h39))∧(0<((IntKind.i64.wrap p0).tmod 4)→CallsH PR fn_ioq_Device_Start #[.pointer x9] h32 (fun v h133=>∃ (x135a:Option Addr) (x135n:Nat) (x135c:Nat),v=(Value.slice x135a x135n x135c)∧J37 h133))∧((¬ (0<((IntKind.i64.wrap p0).tmod 4)))→J37 h32)))∧((x28=0)→CallsH PR fn_ioq_Device_Submit #[.pointer x9,.agg #[.int .i64 x30_0,.int .i64 x30_1,.int .u64 x30_2,.int .i64 x30_3,.int .i64 x30_4,.int .u64 x30_5,.int .i64 x30_6,.int .i64 x30_7]] h26 (fun v h32=>∃ (x34:Int),v=(Value.int .i64 x34)∧J35 x34 h32))∧((¬ (x28=0))→∃ (x34:Int),J35 x34 h26)))))))
theorem F_linchpinlaw20_IoqBad_ok (p0:Int) (p1:Int) (R:Value→Heap→Prop) (h:Heap) (H:F_linchpinlaw20_IoqBad p0 p1 (fun r0 h'=>R (Value.bool r0) h') h):CallsH PR fn_linchpinlaw20_IoqBad #[.int .u8 p0,.int .u8 p1] h R:=by
 refine zF (args:=[.int .u8 p0,.int .u8 p1]) Tryz.func7 rfl rfl ?_
 intro f hf
 have e0:=hf 0 _ rfl
 have e1:=hf 1 _ rfl
 clear hf
 unfold F_linchpinlaw20_IoqBad at H
 refine ze ?_
 refine zc rfl ?_
 refine za (zf (v:=.bool false) rfl ?_)
 refine zi ?_
 refine ze ?_
 refine ze ?_
 refine zc rfl ?_
 refine za (zA (vs:=[]) en_22 zu (CallsH.mono H ?_))
 clear H
 rintro _ h1 ⟨x3,rfl,H⟩
 refine za (op_not rfl ?_)
 refine zi ?_
 refine zx (!x3) rfl ?_ ?_
 ·intro hb
  replace H:=H.1 (zq hb)
  refine ze ?_
  refine zc rfl ?_
  refine za (zf (v:=.bool false) rfl ?_)
  refine zi ?_
  refine zw ?_
  exact zs (zn rfl zr) H
 ·intro hb
  replace H:=H.2 (zI hb)
  refine zB ?_
  refine ze ?_
  refine zc rfl ?_
  refine za (zA (vs:=[]) en_23 zu (CallsH.mono H ?_))
  clear H
  rintro _ h4 ⟨x6,rfl,H⟩
  refine za (zf (v:=.pointer x6) rfl ?_)
  refine zi ?_
  refine ze ?_
  refine zc rfl ?_
  refine za (zd (v:=.pointer x6) rfl ?_)
  refine za (zA (vs:=[.pointer x6,.int .i64 2,.int .u64 5]) en_24 (zj rfl (zj rfl (zj rfl zu))) (CallsH.mono H ?_))
  clear H
  rintro _ h7 ⟨x9,x10,rfl,H⟩
  refine za (zd (v:=.tuple #[.pointer x9,.int .i64 x10]) rfl ?_)
  refine za (zy rfl rfl ?_)
  refine za (zy rfl rfl ?_)
  refine za (zf (v:=.pointer x9) rfl ?_)
  refine za (zf (v:=.int .i64 x10) rfl ?_)
  refine zi ?_
  refine ze ?_
  refine ze ?_
  refine zc rfl ?_
  refine za (zd (v:=.pointer x9) rfl ?_)
  refine za (op_eq_ptr_nil rfl rfl un_28 ?_)
  refine za (zd (v:=.bool x9.isNone) rfl ?_)
  refine zz (b:=!x9.isNone) (zh rfl rfl) (Value.int .i64 x10) (fun hb N hN=>zd (v:=.int .i64 x10) rfl hN) ?_
  refine zz (b:=!x9.isNone) (zh rfl rfl) (Value.bool (!decide (x10=0))) (fun hb N hN=>op_neq (gv hb) rfl hN) ?_
  refine za (zN rfl rfl (fun hq=>(gv (zJ hq))) ?_)
  refine zi ?_
  refine zx (x9.isNone || (!decide (x10=0))) rfl ?_ ?_
  ·intro hb
   replace H:=H.1 hb
   refine ze ?_
   refine zc rfl ?_
   refine za (zf (v:=.bool false) rfl ?_)
   refine zi ?_
   refine zw ?_
   exact zs (zn rfl zr) H
  ·intro hb
   replace H:=H.2 hb
   refine zB ?_
   refine ze ?_
   refine zc rfl ?_
   refine za (zT (vs:=[(0,.int .i64 1),(1,.int .u64 1)]) (cs:=#[.int .i64 1,.int .u64 1]) z_39 fs_39 (zC rfl (zC rfl zP)) rfl ?_)
   obtain ⟨h13,c14⟩ : ∃ h13,h13=h7.push (.cells #[.int .i64 0,.int .u64 0] 39 (0,0)):=⟨_,rfl⟩
   replace H:=H h13 c14
   refine za (zV z_39 c14 ?_)
   obtain ⟨h16,c15,H⟩:=H
   refine za (zH (v:=.agg #[.int .i64 1,.int .u64 1]) rfl rfl sz_39 rfl c15 ?_)
   refine zi ?_
   refine ze ?_
   refine zc rfl ?_
   obtain ⟨x17_0,x17_1,c18,H⟩:=H
   refine za (zQ rfl ag_39 c18 ?_)
   refine za (zT (vs:=[(0,.agg #[.int .i64 x17_0,.int .u64 x17_1]),(2,.int .i64 3)]) (cs:=#[.int .i64 x17_0,.int .u64 x17_1,.int .i64 0,.int .i64 3]) z_41 fs_41 (zC rfl (zC rfl zP)) rfl ?_)
   refine za (zT (vs:=[(0,.int .i64 4),(2,.int .u64 80),(4,.agg #[.int .i64 x17_0,.int .u64 x17_1,.int .i64 0,.int .i64 3])]) (cs:=#[.int .i64 4,.int .i64 0,.int .u64 80,.int .i64 0,.int .i64 x17_0,.int .u64 x17_1,.int .i64 0,.int .i64 3]) z_43 fs_43 (zC rfl (zC rfl (zC rfl zP))) rfl ?_)
   obtain ⟨h19,c20⟩ : ∃ h19,h19=h16.push (.cells #[.int .i64 0,.int .i64 0,.int .u64 0,.int .i64 0,.int .i64 0,.int .u64 0,.int .i64 0,.int .i64 0] 43 (0,0)):=⟨_,rfl⟩
   replace H:=H h19 c20
   refine za (zV z_43 c20 ?_)
   obtain ⟨h22,c21,H⟩:=H
   refine za (zH (v:=.agg #[.int .i64 4,.int .i64 0,.int .u64 80,.int .i64 0,.int .i64 x17_0,.int .u64 x17_1,.int .i64 0,.int .i64 3]) rfl rfl sz_43 rfl c21 ?_)
   refine zi ?_
   refine ze ?_
   refine zc rfl ?_
   refine za (zd (v:=.int .u8 p0) e0 ?_)
   refine za (op_conv rfl (congrArg (Option.map fun _=>()) un_5) un_3 rfl ?_)
   refine za (op_rem rfl rfl (by decide) rfl ?_)
   refine za (zf (v:=.int .i64 ((IntKind.i64.wrap p0).tmod 4)) rfl ?_)
   refine zi ?_
   refine ze ?_
   refine ze ?_
   refine zc rfl ?_
   refine za (zd (v:=.pointer x9) rfl ?_)
   obtain ⟨x24_0,x24_1,x24_2,x24_3,x24_4,x24_5,x24_6,x24_7,c25,H⟩:=H
   refine za (zQ rfl ag_43 c25 ?_)
   refine za (zA (vs:=[.pointer x9,.agg #[.int .i64 x24_0,.int .i64 x24_1,.int .u64 x24_2,.int .i64 x24_3,.int .i64 x24_4,.int .u64 x24_5,.int .i64 x24_6,.int .i64 x24_7]]) en_16 (zj rfl (zj rfl zu)) (CallsH.mono H ?_))
   clear H
   rintro _ h26 ⟨x28,rfl,H⟩
   refine za (op_neq rfl rfl ?_)
   refine za (zd (v:=.bool (!decide (x28=0))) rfl ?_)
   refine zz (b:=!(!decide (x28=0))) (zh rfl rfl) (Value.pointer x9) (fun hb N hN=>zd (v:=.pointer x9) rfl hN) ?_
   obtain ⟨x30_0,x30_1,x30_2,x30_3,x30_4,x30_5,x30_6,x30_7,c31,H⟩:=H
   refine zz (b:=!(!decide (x28=0))) (zh rfl rfl) (Value.agg #[.int .i64 x30_0,.int .i64 x30_1,.int .u64 x30_2,.int .i64 x30_3,.int .i64 x30_4,.int .u64 x30_5,.int .i64 x30_6,.int .i64 x30_7]) (fun hb N hN=>zQ rfl ag_43 (c31 (of_decide_eq_true (zI (zq hb)))) hN) ?_
   obtain ⟨J35,HR,HT,HF⟩:=H
   refine wpL_gl (b:=!(!decide (x28=0))) (zh rfl rfl) (fun v h32=>∃ (x34:Int),v=(bif !(!decide (x28=0)) then (Value.int .i64 x34) else undef)∧J35 x34 h32) ?_ ?_ ?_
   ·rintro _ h32 ⟨x34,rfl,hJ⟩
    have H:=HR x34 h32 hJ
    refine zz (b:=!(!decide (x28=0))) (zh rfl rfl) (Value.bool (!decide (x34=8))) (fun hb N hN=>op_neq (gv hb) rfl hN) ?_
    refine za (zN rfl rfl (fun hq=>(gv (zJ hq))) ?_)
    refine zi ?_
    refine zx ((!decide (x28=0)) || (!decide (x34=8))) rfl ?_ ?_
    ·intro hb
     replace H:=H.1 hb
     refine ze ?_
     refine zc rfl ?_
     refine za (zf (v:=.bool false) rfl ?_)
     refine zi ?_
     refine zw ?_
     exact zs (zn rfl zr) H
    ·intro hb
     replace H:=H.2 hb
     refine zB ?_
     refine ze ?_
     refine zc rfl ?_
     refine za (zf (v:=.int .i64 3) rfl ?_)
     refine zi ?_
     obtain ⟨J37,HR,H⟩:=H
     obtain ⟨J38,hin38,hout38⟩ : ∃ J38:Fr→Heap→Prop,(∀ f hz,f 1 = .int .u8 p1→f 5 = .pointer x6→f 6 = .pointer x9→f 8 = .pointer (some ⟨h7.size,0,none⟩)→f 9 = .pointer (some ⟨h16.size,0,none⟩)→f 10 = .int .i64 ((IntKind.i64.wrap p0).tmod 4)→f 11 = .int .i64 3→J37 hz→J38 f hz)∧(∀ f hz,J38 f hz→f 1 = .int .u8 p1∧f 5 = .pointer x6∧f 6 = .pointer x9∧f 8 = .pointer (some ⟨h7.size,0,none⟩)∧f 9 = .pointer (some ⟨h16.size,0,none⟩)∧f 10 = .int .i64 ((IntKind.i64.wrap p0).tmod 4)∧f 11 = .int .i64 3∧J37 hz):=⟨fun f hz=>f 1 = .int .u8 p1∧f 5 = .pointer x6∧f 6 = .pointer x9∧f 8 = .pointer (some ⟨h7.size,0,none⟩)∧f 9 = .pointer (some ⟨h16.size,0,none⟩)∧f 10 = .int .i64 ((IntKind.i64.wrap p0).tmod 4)∧f 11 = .int .i64 3∧J37 hz,fun _ _ a0 a1 a2 a3 a4 a5 a6 z=>⟨a0,a1,a2,a3,a4,a5,a6,z⟩,fun _ _ hz=>hz⟩
     refine wpf_seq_cut J38 ?_ ?_
     ·skip
      refine ze ?_
      refine zc rfl ?_
      refine za (zd (v:=.int .i64 ((IntKind.i64.wrap p0).tmod 4)) rfl ?_)
      refine za (op_gtr rfl rfl ?_)
      refine zi ?_
      refine zx (decide (0<((IntKind.i64.wrap p0).tmod 4))) rfl ?_ ?_
      ·intro hb
       replace H:=H.1 (of_decide_eq_true hb)
       refine zc rfl ?_
       refine za (zd (v:=.pointer x9) rfl ?_)
       refine za (zA (vs:=[.pointer x9]) en_17 (zj rfl zu) (CallsH.mono H ?_))
       clear H
       rintro _ h133 ⟨x135a,x135n,x135c,rfl,H⟩
       refine zi ?_
       exact hin38 _ _ e1 rfl rfl rfl rfl rfl rfl H
      ·intro hb
       replace H:=H.2 (of_decide_eq_false hb)
       refine zB ?_
       exact hin38 _ _ e1 rfl rfl rfl rfl rfl rfl H
     ·clear H
      intro f h39 hf
      obtain ⟨a38_0,a38_1,a38_2,a38_3,a38_4,a38_5,a38_6,hJ⟩:=hout38 _ _ hf
      have H:=HR h39 hJ
      obtain ⟨J40,HR,H⟩:=H
      obtain ⟨J41,hin41,hout41⟩ : ∃ J41:Fr→Heap→Prop,(∀ f hz,f 1 = .int .u8 p1→f 5 = .pointer x6→f 6 = .pointer x9→f 8 = .pointer (some ⟨h7.size,0,none⟩)→f 9 = .pointer (some ⟨h16.size,0,none⟩)→f 10 = .int .i64 ((IntKind.i64.wrap p0).tmod 4)→f 11 = .int .i64 3→J40 hz→J41 f hz)∧(∀ f hz,J41 f hz→f 1 = .int .u8 p1∧f 5 = .pointer x6∧f 6 = .pointer x9∧f 8 = .pointer (some ⟨h7.size,0,none⟩)∧f 9 = .pointer (some ⟨h16.size,0,none⟩)∧f 10 = .int .i64 ((IntKind.i64.wrap p0).tmod 4)∧f 11 = .int .i64 3∧J40 hz):=⟨fun f hz=>f 1 = .int .u8 p1∧f 5 = .pointer x6∧f 6 = .pointer x9∧f 8 = .pointer (some ⟨h7.size,0,none⟩)∧f 9 = .pointer (some ⟨h16.size,0,none⟩)∧f 10 = .int .i64 ((IntKind.i64.wrap p0).tmod 4)∧f 11 = .int .i64 3∧J40 hz,fun _ _ a0 a1 a2 a3 a4 a5 a6 z=>⟨a0,a1,a2,a3,a4,a5,a6,z⟩,fun _ _ hz=>hz⟩
      refine wpf_seq_cut J41 ?_ ?_
      ·skip
       refine ze ?_
       refine zc rfl ?_
       refine za (zd (v:=.int .i64 ((IntKind.i64.wrap p0).tmod 4)) a38_5 ?_)
       refine za (op_gtr rfl rfl ?_)
       refine zi ?_
       refine zx (decide (1<((IntKind.i64.wrap p0).tmod 4))) rfl ?_ ?_
       ·intro hb
        replace H:=H.1 (of_decide_eq_true hb)
        refine zc rfl ?_
        refine za (zd (v:=.pointer x9) a38_2 ?_)
        refine za (zA (vs:=[.pointer x9]) en_25 (zj rfl zu) (CallsH.mono H ?_))
        clear H
        rintro _ h127 ⟨x129,x130_0,x130_1,x130_2,x130_3,x130_4,x130_5,x130_6,x130_7,x130_8,x131,rfl,H⟩
        refine zi ?_
        exact hin41 _ _ a38_0 a38_1 a38_2 a38_3 a38_4 a38_5 a38_6 H
       ·intro hb
        replace H:=H.2 (of_decide_eq_false hb)
        refine zB ?_
        exact hin41 _ _ a38_0 a38_1 a38_2 a38_3 a38_4 a38_5 a38_6 H
      ·clear H
       intro f h42 hf
       obtain ⟨a41_0,a41_1,a41_2,a41_3,a41_4,a41_5,a41_6,hJ⟩:=hout41 _ _ hf
       have H:=HR h42 hJ
       obtain ⟨J44,HR,H⟩:=H
       obtain ⟨J45,hin45,hout45⟩ : ∃ J45:Fr→Heap→Prop,(∀ f hz (x43:Int),f 11 = .int .i64 x43→f 5 = .pointer x6→f 6 = .pointer x9→f 8 = .pointer (some ⟨h7.size,0,none⟩)→f 9 = .pointer (some ⟨h16.size,0,none⟩)→f 10 = .int .i64 ((IntKind.i64.wrap p0).tmod 4)→J44 x43 hz→J45 f hz)∧(∀ f hz,J45 f hz→∃ (x43:Int),f 11 = .int .i64 x43∧f 5 = .pointer x6∧f 6 = .pointer x9∧f 8 = .pointer (some ⟨h7.size,0,none⟩)∧f 9 = .pointer (some ⟨h16.size,0,none⟩)∧f 10 = .int .i64 ((IntKind.i64.wrap p0).tmod 4)∧J44 x43 hz):=⟨fun f hz=>∃ (x43:Int),f 11 = .int .i64 x43∧f 5 = .pointer x6∧f 6 = .pointer x9∧f 8 = .pointer (some ⟨h7.size,0,none⟩)∧f 9 = .pointer (some ⟨h16.size,0,none⟩)∧f 10 = .int .i64 ((IntKind.i64.wrap p0).tmod 4)∧J44 x43 hz,fun _ _ x43 a0 a1 a2 a3 a4 a5 z=>⟨x43,a0,a1,a2,a3,a4,a5,z⟩,fun _ _ hz=>hz⟩
       refine wpf_seq_cut J45 ?_ ?_
       ·skip
        refine ze ?_
        refine zc rfl ?_
        refine za (zd (v:=.int .i64 ((IntKind.i64.wrap p0).tmod 4)) a41_5 ?_)
        refine za (op_eql rfl rfl ?_)
        refine zi ?_
        refine zx (decide (((IntKind.i64.wrap p0).tmod 4)=3)) rfl ?_ ?_
        ·intro hb
         replace H:=H.1 (of_decide_eq_true hb)
         refine ze ?_
         refine zc rfl ?_
         refine za (zf (v:=.int .i64 2) rfl ?_)
         refine zi ?_
         refine ze ?_
         refine ze ?_
         refine zc rfl ?_
         refine za (zd (v:=.pointer x9) a41_2 ?_)
         refine za (zd (v:=.int .u8 p1) a41_0 ?_)
         refine za (op_conv rfl (congrArg (Option.map fun _=>()) un_5) un_3 rfl ?_)
         refine za (zA (vs:=[.pointer x9,.int .i64 0,.int .i64 (IntKind.i64.wrap p1),.bool true]) en_28 (zj rfl (zj rfl (zj rfl (zj rfl zu)))) (CallsH.mono H ?_))
         clear H
         rintro _ h102 ⟨x104,rfl,H⟩
         refine za (op_neq rfl rfl ?_)
         refine zi ?_
         refine zx (!decide (x104=0)) rfl ?_ ?_
         ·intro hb
          replace H:=H.1 (of_decide_eq_false (zq hb))
          refine ze ?_
          refine zc rfl ?_
          refine za (zf (v:=.bool false) rfl ?_)
          refine zi ?_
          refine zw ?_
          exact zs (zn rfl zr) H
         ·intro hb
          replace H:=H.2 (of_decide_eq_true (zI hb))
          refine zB ?_
          refine ze ?_
          refine zc rfl ?_
          refine za (zd (v:=.pointer x9) a41_2 ?_)
          refine za (zA (vs:=[.pointer x9]) en_18 (zj rfl zu) (CallsH.mono H ?_))
          clear H
          rintro _ h106 ⟨x108,x109,rfl,H⟩
          refine za (zd (v:=.tuple #[.int .i64 x108,.int .i64 x109]) rfl ?_)
          refine za (zy rfl rfl ?_)
          refine za (zy rfl rfl ?_)
          refine za (zf (v:=.int .i64 x108) rfl ?_)
          refine za (zf (v:=.int .i64 x109) rfl ?_)
          refine zi ?_
          refine ze ?_
          refine zc rfl ?_
          refine za (zd (v:=.int .i64 x108) rfl ?_)
          refine za (op_neq rfl rfl ?_)
          refine za (zd (v:=.bool (!decide (x108=4))) rfl ?_)
          refine zz (b:=!(!decide (x108=4))) (zh rfl rfl) (Value.int .i64 x109) (fun hb N hN=>zd (v:=.int .i64 x109) rfl hN) ?_
          refine zz (b:=!(!decide (x108=4))) (zh rfl rfl) (Value.bool (!decide (x109=0))) (fun hb N hN=>op_neq (gv hb) rfl hN) ?_
          refine za (zN rfl rfl (fun hq=>(gv (zJ hq))) ?_)
          refine za (zd (v:=.bool ((!decide (x108=4)) || (!decide (x109=0)))) rfl ?_)
          refine zz (b:=!((!decide (x108=4)) || (!decide (x109=0)))) (zh rfl rfl) (Value.pointer x9) (fun hb N hN=>zd (v:=.pointer x9) a41_2 hN) ?_
          obtain ⟨J115,HR,HT,HF⟩:=H
          refine wpL_gl (b:=!((!decide (x108=4)) || (!decide (x109=0)))) (zh rfl rfl) (fun v h112=>∃ (x114:Int),v=(bif !((!decide (x108=4)) || (!decide (x109=0))) then (Value.int .i64 x114) else undef)∧J115 x114 h112) ?_ ?_ ?_
          ·rintro _ h112 ⟨x114,rfl,hJ⟩
           have H:=HR x114 h112 hJ
           refine zz (b:=!((!decide (x108=4)) || (!decide (x109=0)))) (zh rfl rfl) (Value.bool (!decide (x114=6))) (fun hb N hN=>op_neq (gv hb) rfl hN) ?_
           refine za (zN rfl rfl (fun hq=>(gv (zJ hq))) ?_)
           refine zi ?_
           refine zx (((!decide (x108=4)) || (!decide (x109=0))) || (!decide (x114=6))) rfl ?_ ?_
           ·intro hb
            replace H:=H.1 hb
            refine ze ?_
            refine zc rfl ?_
            refine za (zf (v:=.bool false) rfl ?_)
            refine zi ?_
            refine zw ?_
            exact zs (zn rfl zr) H
           ·intro hb
            replace H:=H.2 hb
            refine zB ?_
            exact hin45 _ _ _ rfl a41_1 a41_2 a41_3 a41_4 a41_5 H
          ·intro hb
           refine zA (vs:=[.pointer x9,.int .i64 4]) en_31 (zj (gv hb) (zj rfl zu)) (CallsH.mono (HT (zq hb)) ?_)
           rintro _ h112 ⟨x114,rfl,hJ⟩
           exact ⟨x114,zt hb,hJ⟩
          ·intro hb
           obtain ⟨x114,hJ⟩:=HF (zI hb)
           exact ⟨x114,zo hb,hJ⟩
        ·intro hb
         replace H:=H.2 (of_decide_eq_false hb)
         refine ze ?_
         refine zc rfl ?_
         refine za (zd (v:=.pointer x9) a41_2 ?_)
         refine za (zA (vs:=[.pointer x9,.int .i64 4]) en_31 (zj rfl (zj rfl zu)) (CallsH.mono H ?_))
         clear H
         rintro _ h117 ⟨x119,rfl,H⟩
         refine za (op_neq rfl rfl ?_)
         refine za (zd (v:=.bool (!decide (x119=0))) rfl ?_)
         refine zz (b:=!(!decide (x119=0))) (zh rfl rfl) (Value.pointer x9) (fun hb N hN=>zd (v:=.pointer x9) a41_2 hN) ?_
         obtain ⟨J124,HR,HT,HF⟩:=H
         refine wpL_gl (b:=!(!decide (x119=0))) (zh rfl rfl) (fun v h121=>∃ (x123:Int),v=(bif !(!decide (x119=0)) then (Value.int .i64 x123) else undef)∧J124 x123 h121) ?_ ?_ ?_
         ·rintro _ h121 ⟨x123,rfl,hJ⟩
          have H:=HR x123 h121 hJ
          refine zz (b:=!(!decide (x119=0))) (zh rfl rfl) (Value.bool (!decide (x123=6))) (fun hb N hN=>op_neq (gv hb) rfl hN) ?_
          refine za (zN rfl rfl (fun hq=>(gv (zJ hq))) ?_)
          refine zi ?_
          refine zx ((!decide (x119=0)) || (!decide (x123=6))) rfl ?_ ?_
          ·intro hb
           replace H:=H.1 hb
           refine ze ?_
           refine zc rfl ?_
           refine za (zf (v:=.bool false) rfl ?_)
           refine zi ?_
           refine zw ?_
           exact zs (zn rfl zr) H
          ·intro hb
           replace H:=H.2 hb
           refine zB ?_
           exact hin45 _ _ _ a41_6 a41_1 a41_2 a41_3 a41_4 a41_5 H
         ·intro hb
          refine zA (vs:=[.pointer x9,.int .i64 4]) en_31 (zj (gv hb) (zj rfl zu)) (CallsH.mono (HT (of_decide_eq_true (zI (zq hb)))) ?_)
          rintro _ h121 ⟨x123,rfl,hJ⟩
          exact ⟨x123,zt hb,hJ⟩
         ·intro hb
          obtain ⟨x123,hJ⟩:=HF (of_decide_eq_false (zq (zI hb)))
          exact ⟨x123,zo hb,hJ⟩
       ·clear H
        intro f h46 hf
        obtain ⟨x43,a45_0,a45_1,a45_2,a45_3,a45_4,a45_5,hJ⟩:=hout45 _ _ hf
        have H:=HR x43 h46 hJ
        refine ze ?_
        refine zc rfl ?_
        refine za (zd (v:=.pointer x6) a45_1 ?_)
        obtain ⟨x47_0,x47_1,c48,H⟩:=H
        refine za (zQ a45_3 ag_39 c48 ?_)
        refine za (zA (vs:=[.pointer x6,.agg #[.int .i64 x47_0,.int .u64 x47_1]]) en_27 (zj rfl (zj rfl zu)) (CallsH.mono H ?_))
        clear H
        rintro _ h49 ⟨x51,x52,x53,rfl,H⟩
        refine za (zd (v:=.tuple #[.int .i64 x51,.int .i64 x52,.int .i64 x53]) rfl ?_)
        refine za (zy rfl rfl ?_)
        refine za (zy rfl rfl ?_)
        refine za (zy rfl rfl ?_)
        refine za (zf (v:=.int .i64 x51) rfl ?_)
        refine za (zf (v:=.int .i64 x52) rfl ?_)
        refine za (zf (v:=.int .i64 x53) rfl ?_)
        refine zi ?_
        refine ze ?_
        refine zc rfl ?_
        refine za (zd (v:=.pointer x9) a45_2 ?_)
        refine za (zA (vs:=[.pointer x9,.int .u64 2]) en_29 (zj rfl (zj rfl zu)) (CallsH.mono H ?_))
        clear H
        rintro _ h54 ⟨x56a,x56n,x56c,x57,rfl,H⟩
        refine za (zd (v:=.tuple #[.slice x56a x56n x56c,.int .i64 x57]) rfl ?_)
        refine za (zy rfl rfl ?_)
        refine za (zy rfl rfl ?_)
        refine za (zf (v:=.slice x56a x56n x56c) rfl ?_)
        refine za (zf (v:=.int .i64 x57) rfl ?_)
        refine zi ?_
        refine ze ?_
        refine ze ?_
        refine zc rfl ?_
        refine za (zd (v:=.int .i64 x51) rfl ?_)
        refine za (op_neq rfl rfl ?_)
        refine za (zd (v:=.bool (!decide (x51=1))) rfl ?_)
        refine zz (b:=!(!decide (x51=1))) (zh rfl rfl) (Value.int .i64 x57) (fun hb N hN=>zd (v:=.int .i64 x57) rfl hN) ?_
        refine zz (b:=!(!decide (x51=1))) (zh rfl rfl) (Value.bool (!decide (x57=0))) (fun hb N hN=>op_neq (gv hb) rfl hN) ?_
        refine za (zN rfl rfl (fun hq=>(gv (zJ hq))) ?_)
        refine za (zd (v:=.bool ((!decide (x51=1)) || (!decide (x57=0)))) rfl ?_)
        refine zz (b:=!((!decide (x51=1)) || (!decide (x57=0)))) (zh rfl rfl) (Value.slice x56a x56n x56c) (fun hb N hN=>zd (v:=.slice x56a x56n x56c) rfl hN) ?_
        refine zz (b:=!((!decide (x51=1)) || (!decide (x57=0)))) (zh rfl rfl) (Value.int .i64 (x56n:Int)) (fun hb N hN=>zM (gv hb) un_70 hN) ?_
        refine zz (b:=!((!decide (x51=1)) || (!decide (x57=0)))) (zh rfl rfl) (Value.bool (!decide ((x56n:Int)=1))) (fun hb N hN=>op_neq (gv hb) rfl hN) ?_
        refine za (zN rfl rfl (fun hq=>(gv (zJ hq))) ?_)
        refine za (zd (v:=.bool (((!decide (x51=1)) || (!decide (x57=0))) || (!decide ((x56n:Int)=1)))) rfl ?_)
        refine zz (b:=!(((!decide (x51=1)) || (!decide (x57=0))) || (!decide ((x56n:Int)=1)))) (zh rfl rfl) (Value.slice x56a x56n x56c) (fun hb N hN=>zd (v:=.slice x56a x56n x56c) rfl hN) ?_
        obtain ⟨b62,o63,c64,H⟩:=H
        obtain ⟨c61,H⟩:=H
        refine zz (b:=!(((!decide (x51=1)) || (!decide (x57=0))) || (!decide ((x56n:Int)=1)))) (zh rfl rfl) (Value.pointer (some ⟨b62,o63,none⟩)) (fun hb N hN=>zE (Eq.trans (gv hb) (congrArg (fun a=>Value.slice a x56n x56c) (c64 (zq hb)))) rfl ei_70 (c61 (zq hb)) hN) ?_
        obtain ⟨x65_0,x65_1,x65_2,c66,H⟩:=H
        refine zz (b:=!(((!decide (x51=1)) || (!decide (x57=0))) || (!decide ((x56n:Int)=1)))) (zh rfl rfl) (Value.agg #[.int .i64 x65_0,.int .i64 x65_1,.int .i64 x65_2]) (fun hb N hN=>zQ (gv hb) ag_74 (c66 (zq hb)) hN) ?_
        refine zz (b:=!(((!decide (x51=1)) || (!decide (x57=0))) || (!decide ((x56n:Int)=1)))) (zh rfl rfl) (Value.int .i64 x43) (fun hb N hN=>zd (v:=.int .i64 x43) a45_0 hN) ?_
        refine zz (b:=!(((!decide (x51=1)) || (!decide (x57=0))) || (!decide ((x56n:Int)=1)))) (zh rfl rfl) (Value.agg #[.int .i64 4,.int .i64 2,.int .i64 x43]) (fun hb N hN=>zT (vs:=[(0,.int .i64 4),(1,.int .i64 2),(2,.int .i64 x43)]) (cs:=#[.int .i64 4,.int .i64 2,.int .i64 x43]) z_74 fs_74 (zC rfl (zC rfl (zC (gv hb) zP))) rfl hN) ?_
        refine zz (b:=!(((!decide (x51=1)) || (!decide (x57=0))) || (!decide ((x56n:Int)=1)))) (zh rfl rfl) (Value.bool (!((decide (x65_0=4)) && ((decide (x65_1=2)) && ((decide (x65_2=x43)) && true))))) (fun hb N hN=>op_nes (a:=[.int .i64 x65_0,.int .i64 x65_1,.int .i64 x65_2]) (b:=[.int .i64 4,.int .i64 2,.int .i64 x43]) (gv hb) (gv hb) eg_74 (eq_of_plan eqp_74 fun w=>(eqRun_int w un_3 ag_3 rfl rfl (eqRun_int w un_3 ag_3 rfl rfl (eqRun_int w un_3 ag_3 rfl rfl (eqRun_nil w))))) hN) ?_
        refine za (zN rfl rfl (fun hq=>(gv (zJ hq))) ?_)
        refine zi ?_
        refine zx ((((!decide (x51=1)) || (!decide (x57=0))) || (!decide ((x56n:Int)=1))) || (!((decide (x65_0=4)) && ((decide (x65_1=2)) && ((decide (x65_2=x43)) && true))))) rfl ?_ ?_
        ·intro hb
         replace H:=H.1 hb
         refine ze ?_
         refine zc rfl ?_
         refine za (zf (v:=.bool false) rfl ?_)
         refine zi ?_
         refine zw ?_
         exact zs (zn rfl zr) H
        ·intro hb
         replace H:=H.2 hb
         refine zB ?_
         refine ze ?_
         refine zc rfl ?_
         refine za (zd (v:=.pointer x9) a45_2 ?_)
         obtain ⟨x68_0,x68_1,x68_2,x68_3,x68_4,x68_5,x68_6,x68_7,c69,H⟩:=H
         refine za (zQ a45_4 ag_43 c69 ?_)
         refine za (zA (vs:=[.pointer x9,.agg #[.int .i64 x68_0,.int .i64 x68_1,.int .u64 x68_2,.int .i64 x68_3,.int .i64 x68_4,.int .u64 x68_5,.int .i64 x68_6,.int .i64 x68_7]]) en_16 (zj rfl (zj rfl zu)) (CallsH.mono H ?_))
         clear H
         rintro _ h70 ⟨x72,rfl,H⟩
         refine za (zf (v:=.int .i64 x72) rfl ?_)
         refine zi ?_
         refine ze ?_
         refine ze ?_
         refine zc rfl ?_
         refine za (zd (v:=.int .i64 ((IntKind.i64.wrap p0).tmod 4)) a45_5 ?_)
         refine za (op_eql rfl rfl ?_)
         refine za (zd (v:=.bool (decide (((IntKind.i64.wrap p0).tmod 4)=0))) rfl ?_)
         refine zz (b:=!(decide (((IntKind.i64.wrap p0).tmod 4)=0))) (zh rfl rfl) (Value.int .i64 ((IntKind.i64.wrap p0).tmod 4)) (fun hb N hN=>zd (v:=.int .i64 ((IntKind.i64.wrap p0).tmod 4)) a45_5 hN) ?_
         refine zz (b:=!(decide (((IntKind.i64.wrap p0).tmod 4)=0))) (zh rfl rfl) (Value.bool (decide (((IntKind.i64.wrap p0).tmod 4)=3))) (fun hb N hN=>op_eql (gv hb) rfl hN) ?_
         refine za (zN rfl rfl (fun hq=>(gv (zJ hq))) ?_)
         refine zi ?_
         refine zx ((decide (((IntKind.i64.wrap p0).tmod 4)=0)) || (decide (((IntKind.i64.wrap p0).tmod 4)=3))) rfl ?_ ?_
         ·intro hb
          replace H:=H.1 hb
          refine ze ?_
          refine zc rfl ?_
          refine za (zd (v:=.int .i64 x72) rfl ?_)
          refine za (op_eql rfl rfl ?_)
          refine za (zf (v:=.bool (decide (x72=0))) rfl ?_)
          refine zi ?_
          refine zw ?_
          exact zs (zn rfl zr) H
         ·intro hb
          replace H:=H.2 hb
          refine zB ?_
          refine ze ?_
          refine ze ?_
          refine zc rfl ?_
          refine za (zd (v:=.int .i64 x72) rfl ?_)
          refine za (op_neq rfl rfl ?_)
          refine zi ?_
          refine zx (!decide (x72=7)) rfl ?_ ?_
          ·intro hb
           replace H:=H.1 (of_decide_eq_false (zq hb))
           refine ze ?_
           refine zc rfl ?_
           refine za (zf (v:=.bool false) rfl ?_)
           refine zi ?_
           refine zw ?_
           exact zs (zn rfl zr) H
          ·intro hb
           replace H:=H.2 (of_decide_eq_true (zI hb))
           refine zB ?_
           obtain ⟨J77,HR,H⟩:=H
           obtain ⟨J78,hin78,hout78⟩ : ∃ J78:Fr→Heap→Prop,(∀ f hz,f 6 = .pointer x9→f 9 = .pointer (some ⟨h16.size,0,none⟩)→J77 hz→J78 f hz)∧(∀ f hz,J78 f hz→f 6 = .pointer x9∧f 9 = .pointer (some ⟨h16.size,0,none⟩)∧J77 hz):=⟨fun f hz=>f 6 = .pointer x9∧f 9 = .pointer (some ⟨h16.size,0,none⟩)∧J77 hz,fun _ _ a0 a1 z=>⟨a0,a1,z⟩,fun _ _ hz=>hz⟩
           refine wpf_seq_cut J78 ?_ ?_
           ·skip
            refine ze ?_
            refine zc rfl ?_
            refine za (zd (v:=.int .i64 ((IntKind.i64.wrap p0).tmod 4)) a45_5 ?_)
            refine za (op_eql rfl rfl ?_)
            refine zi ?_
            refine zx (decide (((IntKind.i64.wrap p0).tmod 4)=1)) rfl ?_ ?_
            ·intro hb
             replace H:=H.1 (of_decide_eq_true hb)
             refine zc rfl ?_
             refine za (zd (v:=.pointer x9) a45_2 ?_)
             refine za (zA (vs:=[.pointer x9]) en_25 (zj rfl zu) (CallsH.mono H ?_))
             clear H
             rintro _ h96 ⟨x98,x99_0,x99_1,x99_2,x99_3,x99_4,x99_5,x99_6,x99_7,x99_8,x100,rfl,H⟩
             refine zi ?_
             exact hin78 _ _ a45_2 a45_4 H
            ·intro hb
             replace H:=H.2 (of_decide_eq_false hb)
             refine zB ?_
             exact hin78 _ _ a45_2 a45_4 H
           ·clear H
            intro f h79 hf
            obtain ⟨a78_0,a78_1,hJ⟩:=hout78 _ _ hf
            have H:=HR h79 hJ
            refine ze ?_
            refine zc rfl ?_
            refine za (zd (v:=.pointer x9) a78_0 ?_)
            refine za (zA (vs:=[.pointer x9,.int .i64 0,.int .i64 0,.bool false]) en_28 (zj rfl (zj rfl (zj rfl (zj rfl zu)))) (CallsH.mono H ?_))
            clear H
            rintro _ h80 ⟨x82,rfl,H⟩
            refine zi ?_
            refine ze ?_
            refine zc rfl ?_
            refine za (zd (v:=.pointer x9) a78_0 ?_)
            refine za (zA (vs:=[.pointer x9]) en_18 (zj rfl zu) (CallsH.mono H ?_))
            clear H
            rintro _ h83 ⟨x85,x86,rfl,H⟩
            refine za (zd (v:=.tuple #[.int .i64 x85,.int .i64 x86]) rfl ?_)
            refine za (zy rfl rfl ?_)
            refine za (zy rfl rfl ?_)
            refine za (zf (v:=.int .i64 x85) rfl ?_)
            refine za (zf (v:=.int .i64 x86) rfl ?_)
            refine zi ?_
            refine ze ?_
            refine zc rfl ?_
            refine za (zd (v:=.int .i64 x86) rfl ?_)
            refine za (op_eql rfl rfl ?_)
            refine za (zd (v:=.bool (decide (x86=0))) rfl ?_)
            refine zz (b:=decide (x86=0)) (zh rfl rfl) (Value.pointer x9) (fun hb N hN=>zd (v:=.pointer x9) a78_0 hN) ?_
            obtain ⟨x88_0,x88_1,x88_2,x88_3,x88_4,x88_5,x88_6,x88_7,c89,H⟩:=H
            refine zz (b:=decide (x86=0)) (zh rfl rfl) (Value.agg #[.int .i64 x88_0,.int .i64 x88_1,.int .u64 x88_2,.int .i64 x88_3,.int .i64 x88_4,.int .u64 x88_5,.int .i64 x88_6,.int .i64 x88_7]) (fun hb N hN=>zQ a78_1 ag_43 (c89 (of_decide_eq_true hb)) hN) ?_
            obtain ⟨J93,HR,HT,HF⟩:=H
            refine wpL_gl (b:=decide (x86=0)) (zh rfl rfl) (fun v h90=>∃ (x92:Int),v=(bif decide (x86=0) then (Value.int .i64 x92) else undef)∧J93 x92 h90) ?_ ?_ ?_
            ·rintro _ h90 ⟨x92,rfl,hJ⟩
             have H:=HR x92 h90 hJ
             refine zz (b:=decide (x86=0)) (zh rfl rfl) (Value.bool (decide (x92=0))) (fun hb N hN=>op_eql (gv hb) rfl hN) ?_
             refine za (zR rfl (fun hq=>(gv hq)) rfl ?_)
             refine za (zf (v:=.bool ((decide (x86=0)) && (decide (x92=0)))) rfl ?_)
             refine zi ?_
             refine zw ?_
             exact zs (zn rfl zr) H
            ·intro hb
             refine zA (vs:=[.pointer x9,.agg #[.int .i64 x88_0,.int .i64 x88_1,.int .u64 x88_2,.int .i64 x88_3,.int .i64 x88_4,.int .u64 x88_5,.int .i64 x88_6,.int .i64 x88_7]]) en_16 (zj (gv hb) (zj (gv hb) zu)) (CallsH.mono (HT (of_decide_eq_true hb)) ?_)
             rintro _ h90 ⟨x92,rfl,hJ⟩
             exact ⟨x92,zt hb,hJ⟩
            ·intro hb
             obtain ⟨x92,hJ⟩:=HF (of_decide_eq_false hb)
             exact ⟨x92,zo hb,hJ⟩
   ·intro hb
    refine zA (vs:=[.pointer x9,.agg #[.int .i64 x30_0,.int .i64 x30_1,.int .u64 x30_2,.int .i64 x30_3,.int .i64 x30_4,.int .u64 x30_5,.int .i64 x30_6,.int .i64 x30_7]]) en_16 (zj (gv hb) (zj (gv hb) zu)) (CallsH.mono (HT (of_decide_eq_true (zI (zq hb)))) ?_)
    rintro _ h32 ⟨x34,rfl,hJ⟩
    exact ⟨x34,zt hb,hJ⟩
   ·intro hb
    obtain ⟨x34,hJ⟩:=HF (of_decide_eq_false (zq (zI hb)))
    exact ⟨x34,zo hb,hJ⟩
end Go.Proofs.Vf
