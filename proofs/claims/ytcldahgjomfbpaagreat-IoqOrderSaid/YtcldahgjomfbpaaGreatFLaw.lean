/- Printed by a program of this claim: for each Go function named below a formula over the heap, and the proof that it gives the call of that function. No conditions. -/
import Derived.Test.YtcldahgjomfbpaaGreatBase
namespace Go.Proofs.Vf
open Go Go.Proofs Go.VC
set_option maxRecDepth 100000
set_option maxHeartbeats 4000000
set_option linter.unusedVariables false
def F_linchpinlaw20_classes (K:Option Addr→Nat→Nat→Heap→Prop) (h:Heap):Prop:=
 ∀ (h1:Heap),h1=h.push (.cells #[.int .i64 8,.int .i64 3,.int .i64 20,.int .i64 2] 202 (0,0))→K (some ⟨h.size,0,none⟩) 2 2 h1
theorem F_linchpinlaw20_classes_ok (R:Value→Heap→Prop) (h:Heap) (H:F_linchpinlaw20_classes  (fun r0a r0n r0c h'=>R (Value.slice r0a r0n r0c) h') h):CallsH PR fn_linchpinlaw20_classes #[] h R:=by
 refine zB (args:=[]) Tryz.func34 U U ?_
 intro f hf
 clear hf
 unfold F_linchpinlaw20_classes at H
 refine ze ?_
 refine zc U ?_
 refine za (zg (v:=.slice none 0 0) U ?_)
 refine zh ?_
 refine ze ?_
 refine zc U ?_
 refine za (zV (vs:=[(0,.int .i64 8),(1,.int .i64 3)]) (cs:=#[.int .i64 8,.int .i64 3]) z_202 fs_202 (zK U (zK U zR)) U ?_)
 refine za (zV (vs:=[(0,.int .i64 20),(1,.int .i64 2)]) (cs:=#[.int .i64 20,.int .i64 2]) z_202 fs_202 (zK U (zK U zR)) U ?_)
 obtain ⟨h1,c2⟩ : ∃ h1,h1=h.push (.cells #[.int .i64 8,.int .i64 3,.int .i64 20,.int .i64 2] 202 (0,0)):=⟨_,rfl⟩
 replace H:=H h1 c2
 refine za (ye (cs:=#[.int .i64 8,.int .i64 3,.int .i64 20,.int .i64 2]) (vs:=[(0,.agg #[.int .i64 8,.int .i64 3]),(1,.agg #[.int .i64 20,.int .i64 2])]) (zl:=[.int .i64 0,.int .i64 0]) ri_86 (by decide) U U (zK U (zK U zR)) U c2 ?_)
 refine za (zg (v:=.slice (some ⟨h.size,0,none⟩) 2 2) U ?_)
 refine zh ?_
 refine zv ?_
 exact zt (zo U zs) H
def F_linchpinlaw20_got (K:Option Addr→Heap→Prop) (h:Heap):Prop:=
 CallsH PR fn_linchpinlaw20_classes #[] h (fun v h1=>∃ (x3a:Option Addr) (x3n:Nat) (x3c:Nat),v=(Value.slice x3a x3n x3c)∧CallsH PR fn_pool_New #[.slice x3a x3n x3c] h1 (fun v h4=>∃ (x6:Option Addr) (x7:Int),v=(Value.tuple #[.pointer x6,.int .i64 x7])∧((x6.isNone || (!decide (x7=0)))=true→K none h4)∧((x6.isNone || (!decide (x7=0)))=false→∃ (I11:Int→Heap→Prop) (mu12:Int→Heap→Nat),I11 0 h4∧∀ (x10:Int) (h14:Heap),I11 x10 h14→(x10<4→CallsH PR fn_pool_Pool_Get #[.pointer x6,.int .i64 1] h14 (fun v h16=>∃ (x18_0:Int) (x18_1:Int) (x19:Int),v=(Value.tuple #[.agg #[.int .i64 x18_0,.int .u64 x18_1],.int .i64 x19])∧(-9223372036854775808≤x10+1∧x10+1<9223372036854775808)∧(I11 (x10+1) h16∧mu12 (x10+1) h16<mu12 x10 h14)))∧((¬ (x10<4))→K x6 h14))))
theorem F_linchpinlaw20_got_ok (R:Value→Heap→Prop) (h:Heap) (H:F_linchpinlaw20_got  (fun r0 h'=>R (Value.pointer r0) h') h):CallsH PR fn_linchpinlaw20_got #[] h R:=by
 refine zB (args:=[]) Tryz.func23 U U ?_
 intro f hf
 clear hf
 unfold F_linchpinlaw20_got at H
 refine ze ?_
 refine zc U ?_
 refine za (zg (v:=.pointer none) U ?_)
 refine zh ?_
 refine ze ?_
 refine zc U ?_
 refine za (zE (vs:=[]) en_34 zw (CallsH.mono H ?_))
 clear H
 rintro _ h1 ⟨x3a,x3n,x3c,rfl,H⟩
 refine za (zE (vs:=[.slice x3a x3n x3c]) en_57 (zm U zw) (CallsH.mono H ?_))
 clear H
 rintro _ h4 ⟨x6,x7,rfl,H⟩
 refine za (zd (v:=.tuple #[.pointer x6,.int .i64 x7]) U ?_)
 refine za (zz U U ?_)
 refine za (zz U U ?_)
 refine za (zg (v:=.pointer x6) U ?_)
 refine za (zg (v:=.int .i64 x7) U ?_)
 refine zh ?_
 refine ze ?_
 refine ze ?_
 refine zc U ?_
 refine za (zd (v:=.pointer x6) U ?_)
 refine za (op_eq_ptr_nil U U un_27 ?_)
 refine za (zd (v:=.bool x6.isNone) U ?_)
 refine zD (b:=!x6.isNone) (zi U U) (Value.int .i64 x7) (fun hb N hN=>zd (v:=.int .i64 x7) U hN) ?_
 refine zD (b:=!x6.isNone) (zi U U) (Value.bool (!decide (x7=0))) (fun hb N hN=>op_neq (gv hb) U hN) ?_
 refine za (zP U U (fun hq=>(gv (zN hq))) ?_)
 refine zh ?_
 refine zx (x6.isNone || (!decide (x7=0))) U ?_ ?_
 ·intro hb
  replace H:=H.1 hb
  refine ze ?_
  refine zc U ?_
  refine za (zg (v:=.pointer none) U ?_)
  refine zh ?_
  refine zv ?_
  exact zt (zo U zs) H
 ·intro hb
  replace H:=H.2 hb
  refine zA ?_
  refine ze ?_
  refine ze ?_
  refine zc U ?_
  refine za (zg (v:=.int .i64 0) U ?_)
  refine zh ?_
  refine zI ?_
  obtain ⟨I11,mu12,hI,H⟩:=H
  obtain ⟨I13,mu13,hin13,hout13,hmu13⟩ : ∃ (J13:Fr→Heap→Prop) (m:Fr→Heap→Nat),(∀ f hz (x10:Int),f 3 = .int .i64 x10→f 1 = .pointer x6→I11 x10 hz→J13 f hz)∧(∀ f hz,J13 f hz→∃ (x10:Int),f 3 = .int .i64 x10∧f 1 = .pointer x6∧I11 x10 hz)∧(∀ f hz (x10:Int),f 3 = .int .i64 x10→m f hz=mu12 x10 hz):=⟨fun f hz=>∃ (x10:Int),f 3 = .int .i64 x10∧f 1 = .pointer x6∧I11 x10 hz,fun f hz=>mu12 (dInt (f 3)) hz,fun _ _ x10 a0 a1 z=>⟨x10,a0,a1,z⟩,fun _ _ hz=>hz,fun f hz x10 a0=>by simp only [a0]; rfl⟩
  refine zZ I13 mu13 (hin13 _ _ _ U U hI) ?_
  clear hI
  intro f h14 hf
  obtain ⟨x10,a13_0,a13_1,hJ⟩:=hout13 _ _ hf
  replace H:=H x10 h14 hJ
  refine ze ?_
  refine ze ?_
  refine zc U ?_
  refine za (zd (v:=.int .i64 x10) a13_0 ?_)
  refine za (zW U U ?_)
  refine zh ?_
  refine zx (decide (x10<4)) U ?_ ?_
  ·intro hb
   replace H:=H.1 (of_decide_eq_true hb)
   refine zA ?_
   refine ze ?_
   refine zI ?_
   refine zc U ?_
   refine za (zd (v:=.pointer x6) a13_1 ?_)
   refine za (zE (vs:=[.pointer x6,.int .i64 1]) en_61 (zm U (zm U zw)) (CallsH.mono H ?_))
   clear H
   rintro _ h16 ⟨x18_0,x18_1,x19,rfl,H⟩
   refine zh ?_
   refine zc U ?_
   refine za (zd (v:=.int .i64 x10) a13_0 ?_)
   obtain ⟨c20,H⟩:=H
   refine za (yd U U (zS c20) ?_)
   refine za (zg (v:=.int .i64 (x10+1)) U ?_)
   refine zh ?_
   exact And.intro (hin13 _ _ _ rfl a13_1 H.1) (yi (hmu13 _ _ _ rfl) (hmu13 _ _ _ a13_0) H.2)
  ·intro hb
   replace H:=H.2 (of_decide_eq_false hb)
   refine zY ?_
   refine ze ?_
   refine zc U ?_
   refine za (zd (v:=.pointer x6) a13_1 ?_)
   refine za (zg (v:=.pointer x6) U ?_)
   refine zh ?_
   refine zv ?_
   exact zt (zo U zs) H
def F_linchpinlaw20_awake (K:Bool→Heap→Prop) (h:Heap):Prop:=
 CallsH PR fn_linchpinlaw20_got #[] h (fun v h1=>∃ (x3:Option Addr),v=(Value.pointer x3)∧(x3.isNone=true→K false h1)∧(x3.isNone=false→CallsH PR fn_ioq_New #[.pointer x3,.int .i64 2,.int .u64 5] h1 (fun v h5=>∃ (x7:Option Addr) (x8:Int),v=(Value.tuple #[.pointer x7,.int .i64 x8])∧((x7.isNone || (!decide (x8=0)))=true→K false h5)∧((x7.isNone || (!decide (x8=0)))=false→∀ (h11:Heap),h11=h5.push (.cells #[.int .i64 0,.int .u64 0] 39 (0,0))→∃ (h14:Heap),stCells h5.size h11 0 [.int .i64 0,.int .u64 1]=some h14∧∃ (x15_0:Int) (x15_1:Int),ldCells h14 h5.size 0 2=some [.int .i64 x15_0,.int .u64 x15_1]∧CallsH PR fn_ioq_Device_Submit #[.pointer x7,.agg #[.int .i64 7,.int .i64 0,.int .u64 100,.int .i64 0,.int .i64 x15_0,.int .u64 x15_1,.int .i64 2,.int .i64 4]] h14 (fun v h17=>∃ (x19:Int),v=(Value.int .i64 x19)∧∃ (x20_0:Int) (x20_1:Int),ldCells h17 h5.size 0 2=some [.int .i64 x20_0,.int .u64 x20_1]∧CallsH PR fn_ioq_Device_Submit #[.pointer x7,.agg #[.int .i64 8,.int .i64 0,.int .u64 100,.int .i64 0,.int .i64 x20_0,.int .u64 x20_1,.int .i64 2,.int .i64 4]] h17 (fun v h22=>∃ (x24:Int),v=(Value.int .i64 x24)∧CallsH PR fn_ioq_Device_Start #[.pointer x7] h22 (fun v h25=>∃ (x27a:Option Addr) (x27n:Nat) (x27c:Nat),v=(Value.slice x27a x27n x27c)∧CallsH PR fn_ioq_Device_Take #[.pointer x7] h25 (fun v h28=>∃ (x30:Int) (x31_0:Int) (x31_1:Int) (x31_2:Int) (x31_3:Int) (x31_4:Int) (x31_5:Int) (x31_6:Bool) (x31_7:Bool) (x31_8:Int) (x32:Int),v=(Value.tuple #[.int .i64 x30,.agg #[.int .i64 x31_0,.int .i64 x31_1,.int .i64 x31_2,.int .u64 x31_3,.int .i64 x31_4,.int .i64 x31_5,.bool x31_6,.bool x31_7,.int .i64 x31_8],.int .i64 x32])∧∀ (h33:Heap),h33=h28.push (.cells #[.int .i64 0,.int .i64 0,.int .i64 0,.int .u64 0,.int .i64 0,.int .i64 0,.bool false,.bool false,.int .i64 0] 63 (0,0))→∃ (h36:Heap),stCells h28.size h33 0 [.int .i64 x31_0,.int .i64 x31_1,.int .i64 x31_2,.int .u64 x31_3,.int .i64 x31_4,.int .i64 x31_5,.bool x31_6,.bool x31_7,.int .i64 x31_8]=some h36∧∀ (h37:Heap),h37=h36.push (.cells #[.int .u8 97,.int .u8 98] 5 (0,0))→isBlk h37 h36.size∧∀ (h39:Heap),MarkH h36.size h37 h39→CallsH PR fn_ioq_Device_Write #[.pointer x7,.int .i64 x30,.int .i64 1,.slice (some ⟨h36.size,0,none⟩) 2 2] h39 (fun v h42=>∃ (x44:Int),v=(Value.int .i64 x44)∧CallsH PR fn_ioq_Device_Finish #[.pointer x7,.int .i64 x30,.int .i64 9,.bool false] h42 (fun v h45=>∃ (x47:Int),v=(Value.int .i64 x47)∧CallsH PR fn_ioq_Device_Reap #[.pointer x7] h45 (fun v h48=>∃ (x50:Int) (x51:Int),v=(Value.tuple #[.int .i64 x50,.int .i64 x51])∧CallsH PR fn_ioq_Device_Go #[.pointer x7,.int .u64 1] h48 (fun v h52=>∃ (x54a:Option Addr) (x54n:Nat) (x54c:Nat) (x55:Int),v=(Value.tuple #[.slice x54a x54n x54c,.int .i64 x55])∧∃ (x57_0:Int) (x57_1:Int),ldCells h52 h5.size 0 2=some [.int .i64 x57_0,.int .u64 x57_1]∧CallsH PR fn_pool_Pool_Read #[.pointer x3,.agg #[.int .i64 x57_0,.int .u64 x57_1],.int .i64 3,.int .i64 2] h52 (fun v h59=>∃ (x61a:Option Addr) (x61n:Nat) (x61c:Nat) (x62:Int),v=(Value.tuple #[.slice x61a x61n x61c,.int .i64 x62])∧∃ (b72:Nat) (o73:Nat),((((((((((decide (x19=0)) && (decide (x24=8))) && (decide ((x27n:Int)=1))) && (decide (x32=0))) && (decide (x44=0))) && (decide (x50=7))) && (decide (x51=0))) && (decide ((x54n:Int)=1)))=true)→x54a=some ⟨b72,o73,none⟩)∧((((((((((decide (x19=0)) && (decide (x24=8))) && (decide ((x27n:Int)=1))) && (decide (x32=0))) && (decide (x44=0))) && (decide (x50=7))) && (decide (x51=0))) && (decide ((x54n:Int)=1)))=true)→0≤(0:Int)∧(0:Int)<(x54n:Int))∧∃ (x75_0:Int) (x75_1:Int) (x75_2:Int),((((((((((decide (x19=0)) && (decide (x24=8))) && (decide ((x27n:Int)=1))) && (decide (x32=0))) && (decide (x44=0))) && (decide (x50=7))) && (decide (x51=0))) && (decide ((x54n:Int)=1)))=true)→ldCells h59 b72 o73 3=some [.int .i64 x75_0,.int .i64 x75_1,.int .i64 x75_2])∧∃ (xs78:List Int),(((((((((((decide (x19=0)) && (decide (x24=8))) && (decide ((x27n:Int)=1))) && (decide (x32=0))) && (decide (x44=0))) && (decide (x50=7))) && (decide (x51=0))) && (decide ((x54n:Int)=1))) && ((decide (x75_0=7)) && ((decide (x75_1=1)) && ((decide (x75_2=9)) && true))))=true)→firstH h59 1 x61n (Value.slice x61a x61n x61c)=some (xs78.map (Value.int .u8)))∧K ((((((((((decide (x19=0)) && (decide (x24=8))) && (decide ((x27n:Int)=1))) && (decide (x32=0))) && (decide (x44=0))) && (decide (x50=7))) && (decide (x51=0))) && (decide ((x54n:Int)=1))) && ((decide (x75_0=7)) && ((decide (x75_1=1)) && ((decide (x75_2=9)) && true)))) && (decide ((strOfNums xs78)=(ByteArray.mk #[97,98])))) h59)))))))))))))
theorem F_linchpinlaw20_awake_ok (R:Value→Heap→Prop) (h:Heap) (H:F_linchpinlaw20_awake  (fun r0 h'=>R (Value.bool r0) h') h):CallsH PR fn_linchpinlaw20_awake #[] h R:=by
 refine zB (args:=[]) Tryz.func22 U U ?_
 intro f hf
 clear hf
 unfold F_linchpinlaw20_awake at H
 refine ze ?_
 refine zc U ?_
 refine za (zg (v:=.bool false) U ?_)
 refine zh ?_
 refine ze ?_
 refine zc U ?_
 refine za (zE (vs:=[]) en_23 zw (CallsH.mono H ?_))
 clear H
 rintro _ h1 ⟨x3,rfl,H⟩
 refine za (zg (v:=.pointer x3) U ?_)
 refine zh ?_
 refine ze ?_
 refine ze ?_
 refine zc U ?_
 refine za (zd (v:=.pointer x3) U ?_)
 refine za (op_eq_ptr_nil U U un_27 ?_)
 refine zh ?_
 refine zx (x3.isNone) U ?_ ?_
 ·intro hb
  replace H:=H.1 hb
  refine ze ?_
  refine zc U ?_
  refine za (zg (v:=.bool false) U ?_)
  refine zh ?_
  refine zv ?_
  exact zt (zo U zs) H
 ·intro hb
  replace H:=H.2 hb
  refine zA ?_
  refine ze ?_
  refine zc U ?_
  refine za (zd (v:=.pointer x3) U ?_)
  refine za (zE (vs:=[.pointer x3,.int .i64 2,.int .u64 5]) en_24 (zm U (zm U (zm U zw))) (CallsH.mono H ?_))
  clear H
  rintro _ h5 ⟨x7,x8,rfl,H⟩
  refine za (zd (v:=.tuple #[.pointer x7,.int .i64 x8]) U ?_)
  refine za (zz U U ?_)
  refine za (zz U U ?_)
  refine za (zg (v:=.pointer x7) U ?_)
  refine za (zg (v:=.int .i64 x8) U ?_)
  refine zh ?_
  refine ze ?_
  refine ze ?_
  refine zc U ?_
  refine za (zd (v:=.pointer x7) U ?_)
  refine za (op_eq_ptr_nil U U un_28 ?_)
  refine za (zd (v:=.bool x7.isNone) U ?_)
  refine zD (b:=!x7.isNone) (zi U U) (Value.int .i64 x8) (fun hb N hN=>zd (v:=.int .i64 x8) U hN) ?_
  refine zD (b:=!x7.isNone) (zi U U) (Value.bool (!decide (x8=0))) (fun hb N hN=>op_neq (gv hb) U hN) ?_
  refine za (zP U U (fun hq=>(gv (zN hq))) ?_)
  refine zh ?_
  refine zx (x7.isNone || (!decide (x8=0))) U ?_ ?_
  ·intro hb
   replace H:=H.1 hb
   refine ze ?_
   refine zc U ?_
   refine za (zg (v:=.bool false) U ?_)
   refine zh ?_
   refine zv ?_
   exact zt (zo U zs) H
  ·intro hb
   replace H:=H.2 hb
   refine zA ?_
   refine ze ?_
   refine zc U ?_
   refine za (zV (vs:=[(0,.int .i64 0),(1,.int .u64 1)]) (cs:=#[.int .i64 0,.int .u64 1]) z_39 fs_39 (zK U (zK U zR)) U ?_)
   obtain ⟨h11,c12⟩ : ∃ h11,h11=h5.push (.cells #[.int .i64 0,.int .u64 0] 39 (0,0)):=⟨_,rfl⟩
   replace H:=H h11 c12
   refine za (zU z_39 c12 ?_)
   obtain ⟨h14,c13,H⟩:=H
   refine za (zG (v:=.agg #[.int .i64 0,.int .u64 1]) U U sz_39 U c13 ?_)
   refine zh ?_
   refine ze ?_
   refine zc U ?_
   refine za (zd (v:=.pointer x7) U ?_)
   obtain ⟨x15_0,x15_1,c16,H⟩:=H
   refine za (zQ U ag_39 c16 ?_)
   refine za (zV (vs:=[(0,.agg #[.int .i64 x15_0,.int .u64 x15_1]),(1,.int .i64 2),(2,.int .i64 4)]) (cs:=#[.int .i64 x15_0,.int .u64 x15_1,.int .i64 2,.int .i64 4]) z_41 fs_41 (zK U (zK U (zK U zR))) U ?_)
   refine za (zV (vs:=[(0,.int .i64 7),(2,.int .u64 100),(4,.agg #[.int .i64 x15_0,.int .u64 x15_1,.int .i64 2,.int .i64 4])]) (cs:=#[.int .i64 7,.int .i64 0,.int .u64 100,.int .i64 0,.int .i64 x15_0,.int .u64 x15_1,.int .i64 2,.int .i64 4]) z_43 fs_43 (zK U (zK U (zK U zR))) U ?_)
   refine za (zE (vs:=[.pointer x7,.agg #[.int .i64 7,.int .i64 0,.int .u64 100,.int .i64 0,.int .i64 x15_0,.int .u64 x15_1,.int .i64 2,.int .i64 4]]) en_16 (zm U (zm U zw)) (CallsH.mono H ?_))
   clear H
   rintro _ h17 ⟨x19,rfl,H⟩
   refine za (zg (v:=.int .i64 x19) U ?_)
   refine zh ?_
   refine ze ?_
   refine zc U ?_
   refine za (zd (v:=.pointer x7) U ?_)
   obtain ⟨x20_0,x20_1,c21,H⟩:=H
   refine za (zQ U ag_39 c21 ?_)
   refine za (zV (vs:=[(0,.agg #[.int .i64 x20_0,.int .u64 x20_1]),(1,.int .i64 2),(2,.int .i64 4)]) (cs:=#[.int .i64 x20_0,.int .u64 x20_1,.int .i64 2,.int .i64 4]) z_41 fs_41 (zK U (zK U (zK U zR))) U ?_)
   refine za (zV (vs:=[(0,.int .i64 8),(2,.int .u64 100),(4,.agg #[.int .i64 x20_0,.int .u64 x20_1,.int .i64 2,.int .i64 4])]) (cs:=#[.int .i64 8,.int .i64 0,.int .u64 100,.int .i64 0,.int .i64 x20_0,.int .u64 x20_1,.int .i64 2,.int .i64 4]) z_43 fs_43 (zK U (zK U (zK U zR))) U ?_)
   refine za (zE (vs:=[.pointer x7,.agg #[.int .i64 8,.int .i64 0,.int .u64 100,.int .i64 0,.int .i64 x20_0,.int .u64 x20_1,.int .i64 2,.int .i64 4]]) en_16 (zm U (zm U zw)) (CallsH.mono H ?_))
   clear H
   rintro _ h22 ⟨x24,rfl,H⟩
   refine za (zg (v:=.int .i64 x24) U ?_)
   refine zh ?_
   refine ze ?_
   refine zc U ?_
   refine za (zd (v:=.pointer x7) U ?_)
   refine za (zE (vs:=[.pointer x7]) en_17 (zm U zw) (CallsH.mono H ?_))
   clear H
   rintro _ h25 ⟨x27a,x27n,x27c,rfl,H⟩
   refine za (zg (v:=.slice x27a x27n x27c) U ?_)
   refine zh ?_
   refine ze ?_
   refine zc U ?_
   refine za (zd (v:=.pointer x7) U ?_)
   refine za (zE (vs:=[.pointer x7]) en_25 (zm U zw) (CallsH.mono H ?_))
   clear H
   rintro _ h28 ⟨x30,x31_0,x31_1,x31_2,x31_3,x31_4,x31_5,x31_6,x31_7,x31_8,x32,rfl,H⟩
   refine za (zd (v:=.tuple #[.int .i64 x30,.agg #[.int .i64 x31_0,.int .i64 x31_1,.int .i64 x31_2,.int .u64 x31_3,.int .i64 x31_4,.int .i64 x31_5,.bool x31_6,.bool x31_7,.int .i64 x31_8],.int .i64 x32]) U ?_)
   refine za (zz U U ?_)
   refine za (zz U U ?_)
   refine za (zz U U ?_)
   obtain ⟨h33,c34⟩ : ∃ h33,h33=h28.push (.cells #[.int .i64 0,.int .i64 0,.int .i64 0,.int .u64 0,.int .i64 0,.int .i64 0,.bool false,.bool false,.int .i64 0] 63 (0,0)):=⟨_,rfl⟩
   replace H:=H h33 c34
   refine za (zU z_63 c34 ?_)
   refine za (zg (v:=.int .i64 x30) U ?_)
   obtain ⟨h36,c35,H⟩:=H
   refine za (zG (v:=.agg #[.int .i64 x31_0,.int .i64 x31_1,.int .i64 x31_2,.int .u64 x31_3,.int .i64 x31_4,.int .i64 x31_5,.bool x31_6,.bool x31_7,.int .i64 x31_8]) U U sz_63 U c35 ?_)
   refine za (zg (v:=.int .i64 x32) U ?_)
   refine zh ?_
   refine ze ?_
   refine zc U ?_
   refine za (zd (v:=.pointer x7) U ?_)
   refine za (zd (v:=.int .i64 x30) U ?_)
   obtain ⟨h37,c38⟩ : ∃ h37,h37=h36.push (.cells #[.int .u8 97,.int .u8 98] 5 (0,0)):=⟨_,rfl⟩
   replace H:=H h37 c38
   refine za (ye (cs:=#[.int .u8 97,.int .u8 98]) (vs:=[(0,.int .u8 97),(1,.int .u8 98)]) (zl:=[.int .u8 0]) ri_23 (by decide) U U (zK U (zK U zR)) U c38 ?_)
   obtain ⟨c41,H⟩:=H
   refine za (op_mark U un_23 un_5 c41 ?_)
   intro h39 c40
   replace H:=H h39 c40
   refine za (zE (vs:=[.pointer x7,.int .i64 x30,.int .i64 1,.slice (some ⟨h36.size,0,none⟩) 2 2]) en_26 (zm U (zm U (zm U (zm U zw)))) (CallsH.mono H ?_))
   clear H
   rintro _ h42 ⟨x44,rfl,H⟩
   refine za (zg (v:=.int .i64 x44) U ?_)
   refine zh ?_
   refine ze ?_
   refine zc U ?_
   refine za (zd (v:=.pointer x7) U ?_)
   refine za (zd (v:=.int .i64 x30) U ?_)
   refine za (zE (vs:=[.pointer x7,.int .i64 x30,.int .i64 9,.bool false]) en_28 (zm U (zm U (zm U (zm U zw)))) (CallsH.mono H ?_))
   clear H
   rintro _ h45 ⟨x47,rfl,H⟩
   refine zh ?_
   refine ze ?_
   refine zc U ?_
   refine za (zd (v:=.pointer x7) U ?_)
   refine za (zE (vs:=[.pointer x7]) en_18 (zm U zw) (CallsH.mono H ?_))
   clear H
   rintro _ h48 ⟨x50,x51,rfl,H⟩
   refine za (zd (v:=.tuple #[.int .i64 x50,.int .i64 x51]) U ?_)
   refine za (zz U U ?_)
   refine za (zz U U ?_)
   refine za (zg (v:=.int .i64 x50) U ?_)
   refine za (zg (v:=.int .i64 x51) U ?_)
   refine zh ?_
   refine ze ?_
   refine zc U ?_
   refine za (zd (v:=.pointer x7) U ?_)
   refine za (zE (vs:=[.pointer x7,.int .u64 1]) en_29 (zm U (zm U zw)) (CallsH.mono H ?_))
   clear H
   rintro _ h52 ⟨x54a,x54n,x54c,x55,rfl,H⟩
   refine za (zd (v:=.tuple #[.slice x54a x54n x54c,.int .i64 x55]) U ?_)
   refine za (zz U U ?_)
   refine za (zz U U ?_)
   refine za (zg (v:=.slice x54a x54n x54c) U ?_)
   refine za (zg (v:=.int .i64 x55) U ?_)
   refine zh ?_
   refine ze ?_
   refine wpf_forget ?_
   intro fg56 hfg56
   have ag56_0:fg56 1=(Value.pointer x3):=by rw [hfg56]; exact rfl
   have ag56_1:fg56 4=(Value.pointer (some ⟨h5.size,0,none⟩)):=by rw [hfg56]; exact rfl
   have ag56_2:fg56 5=(Value.int .i64 x19):=by rw [hfg56]; exact rfl
   have ag56_3:fg56 6=(Value.int .i64 x24):=by rw [hfg56]; exact rfl
   have ag56_4:fg56 7=(Value.slice x27a x27n x27c):=by rw [hfg56]; exact rfl
   have ag56_5:fg56 10=(Value.int .i64 x32):=by rw [hfg56]; exact rfl
   have ag56_6:fg56 11=(Value.int .i64 x44):=by rw [hfg56]; exact rfl
   have ag56_7:fg56 12=(Value.int .i64 x50):=by rw [hfg56]; exact rfl
   have ag56_8:fg56 13=(Value.int .i64 x51):=by rw [hfg56]; exact rfl
   have ag56_9:fg56 14=(Value.slice x54a x54n x54c):=by rw [hfg56]; exact rfl
   clear hfg56
   refine zc U ?_
   refine za (zd (v:=.pointer x3) ag56_0 ?_)
   obtain ⟨x57_0,x57_1,c58,H⟩:=H
   refine za (zQ ag56_1 ag_39 c58 ?_)
   refine za (zE (vs:=[.pointer x3,.agg #[.int .i64 x57_0,.int .u64 x57_1],.int .i64 3,.int .i64 2]) en_20 (zm U (zm U (zm U (zm U zw)))) (CallsH.mono H ?_))
   clear H
   rintro _ h59 ⟨x61a,x61n,x61c,x62,rfl,H⟩
   refine za (zd (v:=.tuple #[.slice x61a x61n x61c,.int .i64 x62]) U ?_)
   refine za (zz U U ?_)
   refine za (zz U U ?_)
   refine za (zg (v:=.slice x61a x61n x61c) U ?_)
   refine za (zg (v:=.int .i64 x62) U ?_)
   refine zh ?_
   refine ze ?_
   refine zc U ?_
   refine za (zd (v:=.int .i64 x19) ag56_2 ?_)
   refine za (op_eql U U ?_)
   refine za (zd (v:=.bool (decide (x19=0))) U ?_)
   refine zD (b:=decide (x19=0)) (zi U U) (Value.int .i64 x24) (fun hb N hN=>zd (v:=.int .i64 x24) ag56_3 hN) ?_
   refine zD (b:=decide (x19=0)) (zi U U) (Value.bool (decide (x24=8))) (fun hb N hN=>op_eql (gv hb) U hN) ?_
   refine za (zT U (fun hq=>(gv hq)) U ?_)
   refine za (zd (v:=.bool ((decide (x19=0)) && (decide (x24=8)))) U ?_)
   refine zD (b:=(decide (x19=0)) && (decide (x24=8))) (zi U U) (Value.slice x27a x27n x27c) (fun hb N hN=>zd (v:=.slice x27a x27n x27c) ag56_4 hN) ?_
   refine zD (b:=(decide (x19=0)) && (decide (x24=8))) (zi U U) (Value.int .i64 (x27n:Int)) (fun hb N hN=>zL (gv hb) un_34 hN) ?_
   refine zD (b:=(decide (x19=0)) && (decide (x24=8))) (zi U U) (Value.bool (decide ((x27n:Int)=1))) (fun hb N hN=>op_eql (gv hb) U hN) ?_
   refine za (zT U (fun hq=>(gv hq)) U ?_)
   refine za (zd (v:=.bool (((decide (x19=0)) && (decide (x24=8))) && (decide ((x27n:Int)=1)))) U ?_)
   refine zD (b:=((decide (x19=0)) && (decide (x24=8))) && (decide ((x27n:Int)=1))) (zi U U) (Value.int .i64 x32) (fun hb N hN=>zd (v:=.int .i64 x32) ag56_5 hN) ?_
   refine zD (b:=((decide (x19=0)) && (decide (x24=8))) && (decide ((x27n:Int)=1))) (zi U U) (Value.bool (decide (x32=0))) (fun hb N hN=>op_eql (gv hb) U hN) ?_
   refine za (zT U (fun hq=>(gv hq)) U ?_)
   refine za (zd (v:=.bool ((((decide (x19=0)) && (decide (x24=8))) && (decide ((x27n:Int)=1))) && (decide (x32=0)))) U ?_)
   refine zD (b:=(((decide (x19=0)) && (decide (x24=8))) && (decide ((x27n:Int)=1))) && (decide (x32=0))) (zi U U) (Value.int .i64 x44) (fun hb N hN=>zd (v:=.int .i64 x44) ag56_6 hN) ?_
   refine zD (b:=(((decide (x19=0)) && (decide (x24=8))) && (decide ((x27n:Int)=1))) && (decide (x32=0))) (zi U U) (Value.bool (decide (x44=0))) (fun hb N hN=>op_eql (gv hb) U hN) ?_
   refine za (zT U (fun hq=>(gv hq)) U ?_)
   refine za (zd (v:=.bool (((((decide (x19=0)) && (decide (x24=8))) && (decide ((x27n:Int)=1))) && (decide (x32=0))) && (decide (x44=0)))) U ?_)
   refine zD (b:=((((decide (x19=0)) && (decide (x24=8))) && (decide ((x27n:Int)=1))) && (decide (x32=0))) && (decide (x44=0))) (zi U U) (Value.int .i64 x50) (fun hb N hN=>zd (v:=.int .i64 x50) ag56_7 hN) ?_
   refine zD (b:=((((decide (x19=0)) && (decide (x24=8))) && (decide ((x27n:Int)=1))) && (decide (x32=0))) && (decide (x44=0))) (zi U U) (Value.bool (decide (x50=7))) (fun hb N hN=>op_eql (gv hb) U hN) ?_
   refine za (zT U (fun hq=>(gv hq)) U ?_)
   refine za (zd (v:=.bool ((((((decide (x19=0)) && (decide (x24=8))) && (decide ((x27n:Int)=1))) && (decide (x32=0))) && (decide (x44=0))) && (decide (x50=7)))) U ?_)
   refine zD (b:=(((((decide (x19=0)) && (decide (x24=8))) && (decide ((x27n:Int)=1))) && (decide (x32=0))) && (decide (x44=0))) && (decide (x50=7))) (zi U U) (Value.int .i64 x51) (fun hb N hN=>zd (v:=.int .i64 x51) ag56_8 hN) ?_
   refine zD (b:=(((((decide (x19=0)) && (decide (x24=8))) && (decide ((x27n:Int)=1))) && (decide (x32=0))) && (decide (x44=0))) && (decide (x50=7))) (zi U U) (Value.bool (decide (x51=0))) (fun hb N hN=>op_eql (gv hb) U hN) ?_
   refine za (zT U (fun hq=>(gv hq)) U ?_)
   refine za (zd (v:=.bool (((((((decide (x19=0)) && (decide (x24=8))) && (decide ((x27n:Int)=1))) && (decide (x32=0))) && (decide (x44=0))) && (decide (x50=7))) && (decide (x51=0)))) U ?_)
   refine zD (b:=((((((decide (x19=0)) && (decide (x24=8))) && (decide ((x27n:Int)=1))) && (decide (x32=0))) && (decide (x44=0))) && (decide (x50=7))) && (decide (x51=0))) (zi U U) (Value.slice x54a x54n x54c) (fun hb N hN=>zd (v:=.slice x54a x54n x54c) ag56_9 hN) ?_
   refine zD (b:=((((((decide (x19=0)) && (decide (x24=8))) && (decide ((x27n:Int)=1))) && (decide (x32=0))) && (decide (x44=0))) && (decide (x50=7))) && (decide (x51=0))) (zi U U) (Value.int .i64 (x54n:Int)) (fun hb N hN=>zL (gv hb) un_70 hN) ?_
   refine zD (b:=((((((decide (x19=0)) && (decide (x24=8))) && (decide ((x27n:Int)=1))) && (decide (x32=0))) && (decide (x44=0))) && (decide (x50=7))) && (decide (x51=0))) (zi U U) (Value.bool (decide ((x54n:Int)=1))) (fun hb N hN=>op_eql (gv hb) U hN) ?_
   refine za (zT U (fun hq=>(gv hq)) U ?_)
   refine za (zd (v:=.bool ((((((((decide (x19=0)) && (decide (x24=8))) && (decide ((x27n:Int)=1))) && (decide (x32=0))) && (decide (x44=0))) && (decide (x50=7))) && (decide (x51=0))) && (decide ((x54n:Int)=1)))) U ?_)
   refine zD (b:=(((((((decide (x19=0)) && (decide (x24=8))) && (decide ((x27n:Int)=1))) && (decide (x32=0))) && (decide (x44=0))) && (decide (x50=7))) && (decide (x51=0))) && (decide ((x54n:Int)=1))) (zi U U) (Value.slice x54a x54n x54c) (fun hb N hN=>zd (v:=.slice x54a x54n x54c) ag56_9 hN) ?_
   obtain ⟨b72,o73,c74,H⟩:=H
   obtain ⟨c71,H⟩:=H
   refine zD (b:=(((((((decide (x19=0)) && (decide (x24=8))) && (decide ((x27n:Int)=1))) && (decide (x32=0))) && (decide (x44=0))) && (decide (x50=7))) && (decide (x51=0))) && (decide ((x54n:Int)=1))) (zi U U) (Value.pointer (some ⟨b72,o73,none⟩)) (fun hb N hN=>zC (Eq.trans (gv hb) (congrArg (fun a=>Value.slice a x54n x54c) (c74 hb))) U ei_70 (c71 hb) hN) ?_
   obtain ⟨x75_0,x75_1,x75_2,c76,H⟩:=H
   refine zD (b:=(((((((decide (x19=0)) && (decide (x24=8))) && (decide ((x27n:Int)=1))) && (decide (x32=0))) && (decide (x44=0))) && (decide (x50=7))) && (decide (x51=0))) && (decide ((x54n:Int)=1))) (zi U U) (Value.agg #[.int .i64 x75_0,.int .i64 x75_1,.int .i64 x75_2]) (fun hb N hN=>zQ (gv hb) ag_74 (c76 hb) hN) ?_
   refine zD (b:=(((((((decide (x19=0)) && (decide (x24=8))) && (decide ((x27n:Int)=1))) && (decide (x32=0))) && (decide (x44=0))) && (decide (x50=7))) && (decide (x51=0))) && (decide ((x54n:Int)=1))) (zi U U) (Value.agg #[.int .i64 7,.int .i64 1,.int .i64 9]) (fun hb N hN=>zV (vs:=[(0,.int .i64 7),(1,.int .i64 1),(2,.int .i64 9)]) (cs:=#[.int .i64 7,.int .i64 1,.int .i64 9]) z_74 fs_74 (zK U (zK U (zK U zR))) U hN) ?_
   refine zD (b:=(((((((decide (x19=0)) && (decide (x24=8))) && (decide ((x27n:Int)=1))) && (decide (x32=0))) && (decide (x44=0))) && (decide (x50=7))) && (decide (x51=0))) && (decide ((x54n:Int)=1))) (zi U U) (Value.bool ((decide (x75_0=7)) && ((decide (x75_1=1)) && ((decide (x75_2=9)) && true)))) (fun hb N hN=>op_eqs (a:=[.int .i64 x75_0,.int .i64 x75_1,.int .i64 x75_2]) (b:=[.int .i64 7,.int .i64 1,.int .i64 9]) (gv hb) (gv hb) eg_74 (eq_of_plan eqp_74 fun w=>(eqRun_int w un_3 ag_3 U U (eqRun_int w un_3 ag_3 U U (eqRun_int w un_3 ag_3 U U (eqRun_nil w))))) hN) ?_
   refine za (zT U (fun hq=>(gv hq)) U ?_)
   refine za (zd (v:=.bool (((((((((decide (x19=0)) && (decide (x24=8))) && (decide ((x27n:Int)=1))) && (decide (x32=0))) && (decide (x44=0))) && (decide (x50=7))) && (decide (x51=0))) && (decide ((x54n:Int)=1))) && ((decide (x75_0=7)) && ((decide (x75_1=1)) && ((decide (x75_2=9)) && true))))) U ?_)
   refine zD (b:=((((((((decide (x19=0)) && (decide (x24=8))) && (decide ((x27n:Int)=1))) && (decide (x32=0))) && (decide (x44=0))) && (decide (x50=7))) && (decide (x51=0))) && (decide ((x54n:Int)=1))) && ((decide (x75_0=7)) && ((decide (x75_1=1)) && ((decide (x75_2=9)) && true)))) (zi U U) (Value.slice x61a x61n x61c) (fun hb N hN=>zd (v:=.slice x61a x61n x61c) U hN) ?_
   obtain ⟨xs78,c79,H⟩:=H
   refine zD (b:=((((((((decide (x19=0)) && (decide (x24=8))) && (decide ((x27n:Int)=1))) && (decide (x32=0))) && (decide (x44=0))) && (decide (x50=7))) && (decide (x51=0))) && (decide ((x54n:Int)=1))) && ((decide (x75_0=7)) && ((decide (x75_1=1)) && ((decide (x75_2=9)) && true)))) (zi U U) (Value.string (strOfNums xs78)) (fun hb N hN=>op_b2s (gv hb) un_23 un_5 un_9 (c79 hb) hN) ?_
   refine zD (b:=((((((((decide (x19=0)) && (decide (x24=8))) && (decide ((x27n:Int)=1))) && (decide (x32=0))) && (decide (x44=0))) && (decide (x50=7))) && (decide (x51=0))) && (decide ((x54n:Int)=1))) && ((decide (x75_0=7)) && ((decide (x75_1=1)) && ((decide (x75_2=9)) && true)))) (zi U U) (Value.bool (decide ((strOfNums xs78)=(ByteArray.mk #[97,98])))) (fun hb N hN=>op_eqstr un_9 (gv hb) U hN) ?_
   refine za (zT U (fun hq=>(gv hq)) U ?_)
   refine za (zg (v:=.bool ((((((((((decide (x19=0)) && (decide (x24=8))) && (decide ((x27n:Int)=1))) && (decide (x32=0))) && (decide (x44=0))) && (decide (x50=7))) && (decide (x51=0))) && (decide ((x54n:Int)=1))) && ((decide (x75_0=7)) && ((decide (x75_1=1)) && ((decide (x75_2=9)) && true)))) && (decide ((strOfNums xs78)=(ByteArray.mk #[97,98]))))) U ?_)
   refine zh ?_
   refine zv ?_
   exact zt (zo U zs) H
def cert_linchpinlaw20_IoqOrder_21:Cert:=⟨[[],[0],[0,1],[0,1,2],[0,1,2,3],[0,1,2,3,4],[0,1,2],[0,1,2],[0,1,2,6,7],[0,1,2,6,7,8],[0,1,2,6,7,8,9],[0,1,2,6,7,8,9,10],[0,1,2,3,4,5,6,7,8,9,10,11],[0,1,2,3,4,5,6,7,8,9,10,11,12]],[false,false,false,false,false,false,false,false,false,false,false,false,false,false]⟩
def cert_linchpinlaw20_IoqOrder_27:Cert:=⟨[[],[0],[],[],[2,3],[2,3,4],[0,1,2,3,4,5],[0,1,2,3,4,5,6],[0,1,2,3,4,5,6,7],[0,1,2,3,4,5,6,7],[0,1,2,3,4,5,6,7,8,9],[0,1,2,3,4,5,6,7,8,9,10],[0,1,2,3,4,5,6,7,8,9,10,11]],[false,false,false,false,false,false,false,false,false,false,true,false,false]⟩
def F_linchpinlaw20_IoqOrder (p0_0:Int) (p0_1:Int) (p0_2:Int) (p0_3:Int) (p1:Int) (K:Bool→Heap→Prop) (h:Heap):Prop:=
 ∀ (h1:Heap),h1=h.push (.cells #[.int .u8 p0_0,.int .u8 p0_1,.int .u8 p0_2,.int .u8 p0_3] 77 (0,0))→CallsH PR fn_linchpinlaw20_awake #[] h1 (fun v h3=>∃ (x5:Bool),v=(Value.bool x5)∧(x5=false→K false h3)∧(x5=true→CallsH PR fn_linchpinlaw20_got #[] h3 (fun v h6=>∃ (x8:Option Addr),v=(Value.pointer x8)∧(-9223372036854775808≤1+((IntKind.i64.wrap p1).tmod 6)∧1+((IntKind.i64.wrap p1).tmod 6)<9223372036854775808)∧CallsH PR fn_ioq_New #[.pointer x8,.int .i64 (1+((IntKind.i64.wrap p1).tmod 6)),.int .u64 5] h6 (fun v h11=>∃ (x13:Option Addr) (x14:Int),v=(Value.tuple #[.pointer x13,.int .i64 x14])∧((x13.isNone || (!decide (x14=0)))=true→K false h11)∧((x13.isNone || (!decide (x14=0)))=false→∃ (I18:Int→Heap→Prop) (mu19:Int→Heap→Nat),I18 0 h11∧∀ (x17:Int) (h21:Heap),I18 x17 h21→(x17<4→(0≤x17∧x17<4)∧∃ (x24:Int),cellH h21 h.size (0+x17.toNat * 1)=some (.int .u8 x24)∧CallsH PR fn_ioq_Device_Submit #[.pointer x13,.agg #[.int .i64 x17,.int .i64 0,.int .u64 (IntKind.u64.wrap (10+(IntKind.u64.wrap x24))),.int .i64 x17,.int .i64 x17,.int .u64 1,.int .i64 0,.int .i64 1]] h21 (fun v h27=>∃ (x29:Int),v=(Value.int .i64 x29)∧((¬ (x29=0))→K false h27)∧(x29=0→(-9223372036854775808≤x17+1∧x17+1<9223372036854775808)∧(I18 (x17+1) h27∧mu19 (x17+1) h27<mu19 x17 h21))))∧((¬ (x17<4))→∃ J33:Option Addr→Nat→Nat→Heap→Prop,(∀ (x32a:Option Addr) (x32n:Nat) (x32c:Nat) (h35:Heap),J33 x32a x32n x32c h35→CallsH PR fn_ioq_Device_Counts #[.pointer x13] h35 (fun v h36=>∃ (x38:Int) (x39:Int),v=(Value.tuple #[.int .i64 x38,.int .i64 x39])∧K (((decide ((x32n:Int)=4)) && (decide (x38=0))) && (decide (x39=0))) h36))∧∃ (I46:Option Addr→Nat→Nat→Int→Int→Heap→Prop) (mu47:Option Addr→Nat→Nat→Int→Int→Heap→Nat),I46 none 0 0 (-1) 0 h21∧∀ (x43a:Option Addr) (x43n:Nat) (x43c:Nat) (x44:Int) (x45:Int) (h49:Heap),I46 x43a x43n x43c x44 x45 h49→(x45<8→CallsH PR fn_ioq_Device_Start #[.pointer x13] h49 (fun v h51=>∃ (x53a:Option Addr) (x53n:Nat) (x53c:Nat),v=(Value.slice x53a x53n x53c)∧∃ (I56:Int→Int→Heap→Prop) (mu57:Int→Int→Heap→Nat),I56 x44 0 h51∧∀ (x54:Int) (x55:Int) (h59:Heap),I56 x54 x55 h59→(x55<(x53n:Int)→((0≤x54)→0≤x54∧x54<4)∧∃ (x63:Int),((0≤x54)→cellH h59 h.size (0+x54.toNat * 1)=some (.int .u8 x63))∧∃ (b66:Nat) (o67:Nat),((0≤x54)→x53a=some ⟨b66,o67,none⟩)∧((0≤x54)→0≤x55∧x55<(x53n:Int))∧∃ (x69:Int),((0≤x54)→cellH h59 b66 (o67+x55.toNat * 1)=some (.int .i64 x69))∧((0≤x54)→0≤x69∧x69<4)∧∃ (x72:Int),((0≤x54)→cellH h59 h.size (0+x69.toNat * 1)=some (.int .u8 x72))∧(((decide (0≤x54)) && (decide (x72<x63)))=true→K false h59)∧(((decide (0≤x54)) && (decide (x72<x63)))=false→∃ (b76:Nat) (o77:Nat),x53a=some ⟨b76,o77,none⟩∧(0≤x55∧x55<(x53n:Int))∧∃ (x79:Int),cellH h59 b76 (o77+x55.toNat * 1)=some (.int .i64 x79)∧(-9223372036854775808≤x55+1∧x55+1<9223372036854775808)∧(I56 x79 (x55+1) h59∧mu57 x79 (x55+1) h59<mu57 x54 x55 h59)))∧((¬ (x55<(x53n:Int)))→∃ (m82:Nat) (ns83:List Value),(lenH (Value.slice x53a x53n x53c)=some m82∧firstH h59 1 m82 (Value.slice x53a x53n x53c)=some ns83)∧appH 3 1 8 (Value.int .i64 0) x43a x43n x43c m82 ns83 h59 (fun a86 n87 q88 h89=>CallsH PR fn_ioq_Device_Take #[.pointer x13] h89 (fun v h90=>∃ (x92:Int) (x93_0:Int) (x93_1:Int) (x93_2:Int) (x93_3:Int) (x93_4:Int) (x93_5:Int) (x93_6:Bool) (x93_7:Bool) (x93_8:Int) (x94:Int),v=(Value.tuple #[.int .i64 x92,.agg #[.int .i64 x93_0,.int .i64 x93_1,.int .i64 x93_2,.int .u64 x93_3,.int .i64 x93_4,.int .i64 x93_5,.bool x93_6,.bool x93_7,.int .i64 x93_8],.int .i64 x94])∧∀ (h95:Heap),h95=h90.push (.cells #[.int .i64 0,.int .i64 0,.int .i64 0,.int .u64 0,.int .i64 0,.int .i64 0,.bool false,.bool false,.int .i64 0] 63 (0,0))→∃ (h98:Heap),stCells h90.size h95 0 [.int .i64 x93_0,.int .i64 x93_1,.int .i64 x93_2,.int .u64 x93_3,.int .i64 x93_4,.int .i64 x93_5,.bool x93_6,.bool x93_7,.int .i64 x93_8]=some h98∧((¬ (x94=0))→J33 a86 n87 q88 h98)∧(x94=0→∃ (x100:Int),cellH h98 h90.size 1=some (.int .i64 x100)∧∃ (b103:Nat) (o104:Nat),a86=some ⟨b103,o104,none⟩∧(0≤x92∧x92<(n87:Int))∧∃ (x106:Int),cellH h98 b103 (o104+x92.toNat * 1)=some (.int .i64 x106)∧∃ J112:Int→Heap→Prop,(∀ (x111:Int) (h109:Heap),J112 x111 h109→(((!decide (x100=x106)) || (!decide (x111=0)))=true→K false h109)∧(((!decide (x100=x106)) || (!decide (x111=0)))=false→CallsH PR fn_ioq_Device_Reap #[.pointer x13] h109 (fun v h114=>∃ (x116:Int) (x117:Int),v=(Value.tuple #[.int .i64 x116,.int .i64 x117])∧∃ (x119:Int),((x117=0)→cellH h114 h90.size 1=some (.int .i64 x119))∧(((!decide (x117=0)) || (!decide (x116=x119)))=true→K false h114)∧(((!decide (x117=0)) || (!decide (x116=x119)))=false→(-9223372036854775808≤x45+1∧x45+1<9223372036854775808)∧(I46 (some ⟨b103,o104,none⟩) n87 q88 x54 (x45+1) h114∧mu47 (some ⟨b103,o104,none⟩) n87 q88 x54 (x45+1) h114<mu47 x43a x43n x43c x44 x45 h49)))))∧((x100=x106)→CallsH PR fn_ioq_Device_Finish #[.pointer x13,.int .i64 x92,.int .i64 0,.bool false] h98 (fun v h109=>∃ (x111:Int),v=(Value.int .i64 x111)∧J112 x111 h109))∧((¬ (x100=x106))→∃ (x111:Int),J112 x111 h98)))))))∧((¬ (x45<8))→J33 x43a x43n x43c h49)))))))
theorem F_linchpinlaw20_IoqOrder_ok (p0_0:Int) (p0_1:Int) (p0_2:Int) (p0_3:Int) (p1:Int) (R:Value→Heap→Prop) (h:Heap) (H:F_linchpinlaw20_IoqOrder p0_0 p0_1 p0_2 p0_3 p1 (fun r0 h'=>R (Value.bool r0) h') h):CallsH PR fn_linchpinlaw20_IoqOrder #[.agg #[.int .u8 p0_0,.int .u8 p0_1,.int .u8 p0_2,.int .u8 p0_3],.int .u8 p1] h R:=by
 refine zB (args:=[.agg #[.int .u8 p0_0,.int .u8 p0_1,.int .u8 p0_2,.int .u8 p0_3],.int .u8 p1]) Tryz.func6 U U ?_
 intro f hf
 have e0:=hf 0 _ rfl
 have e1:=hf 1 _ rfl
 clear hf
 unfold F_linchpinlaw20_IoqOrder at H
 refine ze ?_
 refine zc U ?_
 obtain ⟨h1,c2⟩ : ∃ h1,h1=h.push (.cells #[.int .u8 p0_0,.int .u8 p0_1,.int .u8 p0_2,.int .u8 p0_3] 77 (0,0)):=⟨_,rfl⟩
 replace H:=H h1 c2
 refine za (yb (v:=.agg #[.int .u8 p0_0,.int .u8 p0_1,.int .u8 p0_2,.int .u8 p0_3]) e0 c2 ?_)
 refine za (zg (v:=.bool false) U ?_)
 refine zh ?_
 refine ze ?_
 refine ze ?_
 refine zc U ?_
 refine za (zE (vs:=[]) en_22 zw (CallsH.mono H ?_))
 clear H
 rintro _ h3 ⟨x5,rfl,H⟩
 refine za (yg U ?_)
 refine zh ?_
 refine zx (!x5) U ?_ ?_
 ·intro hb
  replace H:=H.1 (zr hb)
  refine ze ?_
  refine zc U ?_
  refine za (zg (v:=.bool false) U ?_)
  refine zh ?_
  refine zv ?_
  exact zt (zo U zs) H
 ·intro hb
  replace H:=H.2 (zJ hb)
  refine zA ?_
  refine ze ?_
  refine zc U ?_
  refine za (zE (vs:=[]) en_23 zw (CallsH.mono H ?_))
  clear H
  rintro _ h6 ⟨x8,rfl,H⟩
  refine za (zg (v:=.pointer x8) U ?_)
  refine zh ?_
  refine ze ?_
  refine zc U ?_
  refine za (zd (v:=.pointer x8) U ?_)
  refine za (zd (v:=.int .u8 p1) e1 ?_)
  refine za (op_conv U (congrArg (Option.map fun _=>()) un_5) un_3 U ?_)
  refine za (op_rem U U (by decide) U ?_)
  obtain ⟨c10,H⟩:=H
  refine za (yd U U (zS c10) ?_)
  refine za (zE (vs:=[.pointer x8,.int .i64 (1+((IntKind.i64.wrap p1).tmod 6)),.int .u64 5]) en_24 (zm U (zm U (zm U zw))) (CallsH.mono H ?_))
  clear H
  rintro _ h11 ⟨x13,x14,rfl,H⟩
  refine za (zd (v:=.tuple #[.pointer x13,.int .i64 x14]) U ?_)
  refine za (zz U U ?_)
  refine za (zz U U ?_)
  refine za (zg (v:=.pointer x13) U ?_)
  refine za (zg (v:=.int .i64 x14) U ?_)
  refine zh ?_
  refine ze ?_
  refine ze ?_
  refine zc U ?_
  refine za (zd (v:=.pointer x13) U ?_)
  refine za (op_eq_ptr_nil U U un_28 ?_)
  refine za (zd (v:=.bool x13.isNone) U ?_)
  refine zD (b:=!x13.isNone) (zi U U) (Value.int .i64 x14) (fun hb N hN=>zd (v:=.int .i64 x14) U hN) ?_
  refine zD (b:=!x13.isNone) (zi U U) (Value.bool (!decide (x14=0))) (fun hb N hN=>op_neq (gv hb) U hN) ?_
  refine za (zP U U (fun hq=>(gv (zN hq))) ?_)
  refine zh ?_
  refine zx (x13.isNone || (!decide (x14=0))) U ?_ ?_
  ·intro hb
   replace H:=H.1 hb
   refine ze ?_
   refine zc U ?_
   refine za (zg (v:=.bool false) U ?_)
   refine zh ?_
   refine zv ?_
   exact zt (zo U zs) H
  ·intro hb
   replace H:=H.2 hb
   refine zA ?_
   refine ze ?_
   refine ze ?_
   refine zc U ?_
   refine za (zg (v:=.int .i64 0) U ?_)
   refine zh ?_
   refine zI ?_
   obtain ⟨I18,mu19,hI,H⟩:=H
   obtain ⟨I20,mu20,hin20,hout20,hmu20⟩ : ∃ (J20:Fr→Heap→Prop) (m:Fr→Heap→Nat),(∀ f hz (x17:Int),f 8 = .int .i64 x17→f 2 = .pointer (some ⟨h.size,0,none⟩)→f 6 = .pointer x13→I18 x17 hz→J20 f hz)∧(∀ f hz,J20 f hz→∃ (x17:Int),f 8 = .int .i64 x17∧f 2 = .pointer (some ⟨h.size,0,none⟩)∧f 6 = .pointer x13∧I18 x17 hz)∧(∀ f hz (x17:Int),f 8 = .int .i64 x17→m f hz=mu19 x17 hz):=⟨fun f hz=>∃ (x17:Int),f 8 = .int .i64 x17∧f 2 = .pointer (some ⟨h.size,0,none⟩)∧f 6 = .pointer x13∧I18 x17 hz,fun f hz=>mu19 (dInt (f 8)) hz,fun _ _ x17 a0 a1 a2 z=>⟨x17,a0,a1,a2,z⟩,fun _ _ hz=>hz,fun f hz x17 a0=>by simp only [a0]; rfl⟩
   refine zZ I20 mu20 (hin20 _ _ _ U U U hI) ?_
   clear hI
   intro f h21 hf
   obtain ⟨x17,a20_0,a20_1,a20_2,hJ⟩:=hout20 _ _ hf
   replace H:=H x17 h21 hJ
   refine ze ?_
   refine ze ?_
   refine zc U ?_
   refine za (zd (v:=.int .i64 x17) a20_0 ?_)
   refine za (zW U U ?_)
   refine zh ?_
   refine zx (decide (x17<4)) U ?_ ?_
   ·intro hb
    replace H:=H.1 (of_decide_eq_true hb)
    refine zA ?_
    refine ze ?_
    refine zI ?_
    refine ze ?_
    refine zc U ?_
    refine za (zd (v:=.pointer x13) a20_2 ?_)
    refine za (zd (v:=.int .i64 x17) a20_0 ?_)
    refine za (zd (v:=.int .i64 x17) a20_0 ?_)
    obtain ⟨c23,H⟩:=H
    refine za (zO a20_1 U ei_77 c23 ?_)
    obtain ⟨x24,c25,H⟩:=H
    refine za (zk U ag_5 c25 ?_)
    refine za (op_conv U (congrArg (Option.map fun _=>()) un_5) un_37 U ?_)
    refine za (yd U U U ?_)
    refine za (zd (v:=.int .i64 x17) a20_0 ?_)
    refine za (zd (v:=.int .i64 x17) a20_0 ?_)
    refine za (zV (vs:=[(0,.int .i64 x17),(1,.int .u64 1)]) (cs:=#[.int .i64 x17,.int .u64 1]) z_39 fs_39 (zK U (zK U zR)) U ?_)
    refine za (zV (vs:=[(0,.agg #[.int .i64 x17,.int .u64 1]),(2,.int .i64 1)]) (cs:=#[.int .i64 x17,.int .u64 1,.int .i64 0,.int .i64 1]) z_41 fs_41 (zK U (zK U zR)) U ?_)
    refine za (zV (vs:=[(0,.int .i64 x17),(2,.int .u64 (IntKind.u64.wrap (10+(IntKind.u64.wrap x24)))),(3,.int .i64 x17),(4,.agg #[.int .i64 x17,.int .u64 1,.int .i64 0,.int .i64 1])]) (cs:=#[.int .i64 x17,.int .i64 0,.int .u64 (IntKind.u64.wrap (10+(IntKind.u64.wrap x24))),.int .i64 x17,.int .i64 x17,.int .u64 1,.int .i64 0,.int .i64 1]) z_43 fs_43 (zK U (zK U (zK U (zK U zR)))) U ?_)
    refine za (zE (vs:=[.pointer x13,.agg #[.int .i64 x17,.int .i64 0,.int .u64 (IntKind.u64.wrap (10+(IntKind.u64.wrap x24))),.int .i64 x17,.int .i64 x17,.int .u64 1,.int .i64 0,.int .i64 1]]) en_16 (zm U (zm U zw)) (CallsH.mono H ?_))
    clear H
    rintro _ h27 ⟨x29,rfl,H⟩
    refine za (op_neq U U ?_)
    refine zh ?_
    refine zx (!decide (x29=0)) U ?_ ?_
    ·intro hb
     replace H:=H.1 (of_decide_eq_false (zr hb))
     refine ze ?_
     refine zc U ?_
     refine za (zg (v:=.bool false) U ?_)
     refine zh ?_
     refine zv ?_
     exact zt (zo U zs) H
    ·intro hb
     replace H:=H.2 (of_decide_eq_true (zJ hb))
     refine zA ?_
     refine zc U ?_
     refine za (zd (v:=.int .i64 x17) a20_0 ?_)
     obtain ⟨c31,H⟩:=H
     refine za (yd U U (zS c31) ?_)
     refine za (zg (v:=.int .i64 (x17+1)) U ?_)
     refine zh ?_
     exact And.intro (hin20 _ _ _ rfl a20_1 a20_2 H.1) (yi (hmu20 _ _ _ rfl) (hmu20 _ _ _ a20_0) H.2)
   ·intro hb
    replace H:=H.2 (of_decide_eq_false hb)
    refine zY ?_
    refine ze ?_
    refine zc U ?_
    refine za (zg (v:=.slice none 0 0) U ?_)
    refine zh ?_
    refine ze ?_
    refine zc U ?_
    refine za (zg (v:=.int .i64 (-1)) U ?_)
    refine zh ?_
    obtain ⟨J33,HR,H⟩:=H
    obtain ⟨J34,hin34,hout34⟩ : ∃ J34:Fr→Heap→Prop,(∀ f hz (x32a:Option Addr) (x32n:Nat) (x32c:Nat),f 9 = .slice x32a x32n x32c→f 6 = .pointer x13→J33 x32a x32n x32c hz→J34 f hz)∧(∀ f hz,J34 f hz→∃ (x32a:Option Addr) (x32n:Nat) (x32c:Nat),f 9 = .slice x32a x32n x32c∧f 6 = .pointer x13∧J33 x32a x32n x32c hz):=⟨fun f hz=>∃ (x32a:Option Addr) (x32n:Nat) (x32c:Nat),f 9 = .slice x32a x32n x32c∧f 6 = .pointer x13∧J33 x32a x32n x32c hz,fun _ _ x32a x32n x32c a0 a1 z=>⟨x32a,x32n,x32c,a0,a1,z⟩,fun _ _ hz=>hz⟩
    refine yk J34 ?_ ?_
    ·skip
     refine ze ?_
     refine zc U ?_
     refine za (zg (v:=.int .i64 0) U ?_)
     refine zh ?_
     refine zI ?_
     obtain ⟨I46,mu47,hI,H⟩:=H
     obtain ⟨I48,mu48,hin48,hout48,hmu48⟩ : ∃ (J48:Fr→Heap→Prop) (m:Fr→Heap→Nat),(∀ f hz (x43a:Option Addr) (x43n:Nat) (x43c:Nat) (x44:Int) (x45:Int),f 9 = .slice x43a x43n x43c→f 10 = .int .i64 x44→f 11 = .int .i64 x45→f 2 = .pointer (some ⟨h.size,0,none⟩)→f 6 = .pointer x13→I46 x43a x43n x43c x44 x45 hz→J48 f hz)∧(∀ f hz,J48 f hz→∃ (x43a:Option Addr) (x43n:Nat) (x43c:Nat) (x44:Int) (x45:Int),f 9 = .slice x43a x43n x43c∧f 10 = .int .i64 x44∧f 11 = .int .i64 x45∧f 2 = .pointer (some ⟨h.size,0,none⟩)∧f 6 = .pointer x13∧I46 x43a x43n x43c x44 x45 hz)∧(∀ f hz (x43a:Option Addr) (x43n:Nat) (x43c:Nat) (x44:Int) (x45:Int),f 9 = .slice x43a x43n x43c→f 10 = .int .i64 x44→f 11 = .int .i64 x45→m f hz=mu47 x43a x43n x43c x44 x45 hz):=⟨fun f hz=>∃ (x43a:Option Addr) (x43n:Nat) (x43c:Nat) (x44:Int) (x45:Int),f 9 = .slice x43a x43n x43c∧f 10 = .int .i64 x44∧f 11 = .int .i64 x45∧f 2 = .pointer (some ⟨h.size,0,none⟩)∧f 6 = .pointer x13∧I46 x43a x43n x43c x44 x45 hz,fun f hz=>mu47 (dSlA (f 9)) (dSlN (f 9)) (dSlC (f 9)) (dInt (f 10)) (dInt (f 11)) hz,fun _ _ x43a x43n x43c x44 x45 a0 a1 a2 a3 a4 z=>⟨x43a,x43n,x43c,x44,x45,a0,a1,a2,a3,a4,z⟩,fun _ _ hz=>hz,fun f hz x43a x43n x43c x44 x45 a0 a1 a2=>by simp only [a0,a1,a2]; rfl⟩
     refine zZ I48 mu48 (hin48 _ _ _ _ _ _ _ U U U a20_1 a20_2 hI) ?_
     clear hI
     intro f h49 hf
     obtain ⟨x43a,x43n,x43c,x44,x45,a48_0,a48_1,a48_2,a48_3,a48_4,hJ⟩:=hout48 _ _ hf
     replace H:=H x43a x43n x43c x44 x45 h49 hJ
     refine ze ?_
     refine ze ?_
     refine zc U ?_
     refine za (zd (v:=.int .i64 x45) a48_2 ?_)
     refine za (zW U U ?_)
     refine zh ?_
     refine zx (decide (x45<8)) U ?_ ?_
     ·intro hb
      replace H:=H.1 (of_decide_eq_true hb)
      refine zA ?_
      refine ze ?_
      refine zI ?_
      refine ze ?_
      refine zc U ?_
      refine za (zd (v:=.pointer x13) a48_4 ?_)
      refine za (zE (vs:=[.pointer x13]) en_17 (zm U zw) (CallsH.mono H ?_))
      clear H
      rintro _ h51 ⟨x53a,x53n,x53c,rfl,H⟩
      refine za (zg (v:=.slice x53a x53n x53c) U ?_)
      refine zh ?_
      refine ze ?_
      refine ze ?_
      refine zc U ?_
      refine za (zg (v:=.int .i64 0) U ?_)
      refine zh ?_
      refine zI ?_
      obtain ⟨I56,mu57,hI,H⟩:=H
      obtain ⟨I58,mu58,hin58,hout58,hmu58⟩ : ∃ (J58:Fr→Heap→Prop) (m:Fr→Heap→Nat),(∀ f hz (x54:Int) (x55:Int),f 10 = .int .i64 x54→f 13 = .int .i64 x55→f 2 = .pointer (some ⟨h.size,0,none⟩)→f 6 = .pointer x13→f 9 = .slice x43a x43n x43c→f 11 = .int .i64 x45→f 12 = .slice x53a x53n x53c→I56 x54 x55 hz→J58 f hz)∧(∀ f hz,J58 f hz→∃ (x54:Int) (x55:Int),f 10 = .int .i64 x54∧f 13 = .int .i64 x55∧f 2 = .pointer (some ⟨h.size,0,none⟩)∧f 6 = .pointer x13∧f 9 = .slice x43a x43n x43c∧f 11 = .int .i64 x45∧f 12 = .slice x53a x53n x53c∧I56 x54 x55 hz)∧(∀ f hz (x54:Int) (x55:Int),f 10 = .int .i64 x54→f 13 = .int .i64 x55→m f hz=mu57 x54 x55 hz):=⟨fun f hz=>∃ (x54:Int) (x55:Int),f 10 = .int .i64 x54∧f 13 = .int .i64 x55∧f 2 = .pointer (some ⟨h.size,0,none⟩)∧f 6 = .pointer x13∧f 9 = .slice x43a x43n x43c∧f 11 = .int .i64 x45∧f 12 = .slice x53a x53n x53c∧I56 x54 x55 hz,fun f hz=>mu57 (dInt (f 10)) (dInt (f 13)) hz,fun _ _ x54 x55 a0 a1 a2 a3 a4 a5 a6 z=>⟨x54,x55,a0,a1,a2,a3,a4,a5,a6,z⟩,fun _ _ hz=>hz,fun f hz x54 x55 a0 a1=>by simp only [a0,a1]; rfl⟩
      refine zZ I58 mu58 (hin58 _ _ _ _ a48_1 U a48_3 a48_4 a48_0 a48_2 U hI) ?_
      clear hI
      intro f h59 hf
      obtain ⟨x54,x55,a58_0,a58_1,a58_2,a58_3,a58_4,a58_5,a58_6,hJ⟩:=hout58 _ _ hf
      replace H:=H x54 x55 h59 hJ
      refine ze ?_
      refine ze ?_
      refine zc U ?_
      refine za (zd (v:=.int .i64 x55) a58_1 ?_)
      refine za (zd (v:=.slice x53a x53n x53c) a58_6 ?_)
      refine za (zL U un_34 ?_)
      refine za (zW U U ?_)
      refine zh ?_
      refine zx (decide (x55<(x53n:Int))) U ?_ ?_
      ·intro hb
       replace H:=H.1 (of_decide_eq_true hb)
       refine zA ?_
       refine ze ?_
       refine zI ?_
       refine ze ?_
       refine ze ?_
       obtain ⟨c62,H⟩:=H
       obtain ⟨x63,c64,H⟩:=H
       obtain ⟨b66,o67,c68,H⟩:=H
       obtain ⟨c65,H⟩:=H
       obtain ⟨x69,c70,H⟩:=H
       obtain ⟨c71,H⟩:=H
       obtain ⟨x72,c73,H⟩:=H
       refine zM cert_linchpinlaw20_IoqOrder_21 0 [(Value.int .i64 x54),(Value.bool (decide (0≤x54))),(Value.bool (decide (0≤x54))),(bif decide (0≤x54) then (Value.int .i64 x54) else undef),(bif decide (0≤x54) then (Value.pointer (some ⟨h.size,0+x54.toNat * 1,none⟩)) else undef),(bif decide (0≤x54) then (Value.int .u8 x63) else undef),(bif decide (0≤x54) then (Value.slice x53a x53n x53c) else undef),(bif decide (0≤x54) then (Value.int .i64 x55) else undef),(bif decide (0≤x54) then (Value.pointer (some ⟨b66,o67+x55.toNat * 1,none⟩)) else undef),(bif decide (0≤x54) then (Value.int .i64 x69) else undef),(bif decide (0≤x54) then (Value.pointer (some ⟨h.size,0+x69.toNat * 1,none⟩)) else undef),(bif decide (0≤x54) then (Value.int .u8 x72) else undef),(bif decide (0≤x54) then (Value.bool (decide (x72<x63))) else undef),(Value.bool ((decide (0≤x54)) && (decide (x72<x63))))] (by kernel_rfl) U mixed_PR ?_
       refine zH U (zu [0,1,2,3,4,5,6,7,8,9,10,11,12,13] U ⟨zb U U (zd (v:=.int .i64 x54) a58_0 ⟨U,U⟩),zb U U (op_geq U U ⟨U,U⟩),zb U U (zd (v:=.bool (decide (0≤x54))) U ⟨U,U⟩),zp (b:=decide (0≤x54)) U U (zi U U) (fun hb=>zd (v:=.int .i64 x54) a58_0 ⟨zq hb,U⟩) (fun hb=>⟨zn hb,U⟩),zp (b:=decide (0≤x54)) U U (zi U U) (fun hb=>zO a58_2 (gv hb) ei_77 (c62 (of_decide_eq_true hb)) ⟨zq hb,U⟩) (fun hb=>⟨zn hb,U⟩),zp (b:=decide (0≤x54)) U U (zi U U) (fun hb=>zk (gv hb) ag_5 (c64 (of_decide_eq_true hb)) ⟨zq hb,U⟩) (fun hb=>⟨zn hb,U⟩),zp (b:=decide (0≤x54)) U U (zi U U) (fun hb=>zd (v:=.slice x53a x53n x53c) a58_6 ⟨zq hb,U⟩) (fun hb=>⟨zn hb,U⟩),zp (b:=decide (0≤x54)) U U (zi U U) (fun hb=>zd (v:=.int .i64 x55) a58_1 ⟨zq hb,U⟩) (fun hb=>⟨zn hb,U⟩),zp (b:=decide (0≤x54)) U U (zi U U) (fun hb=>zC (Eq.trans (gv hb) (congrArg (fun a=>Value.slice a x53n x53c) (c68 (of_decide_eq_true hb)))) (gv hb) ei_34 (c65 (of_decide_eq_true hb)) ⟨zq hb,U⟩) (fun hb=>⟨zn hb,U⟩),zp (b:=decide (0≤x54)) U U (zi U U) (fun hb=>zk (gv hb) ag_3 (c70 (of_decide_eq_true hb)) ⟨zq hb,U⟩) (fun hb=>⟨zn hb,U⟩),zp (b:=decide (0≤x54)) U U (zi U U) (fun hb=>zO a58_2 (gv hb) ei_77 (c71 (of_decide_eq_true hb)) ⟨zq hb,U⟩) (fun hb=>⟨zn hb,U⟩),zp (b:=decide (0≤x54)) U U (zi U U) (fun hb=>zk (gv hb) ag_5 (c73 (of_decide_eq_true hb)) ⟨zq hb,U⟩) (fun hb=>⟨zn hb,U⟩),zp (b:=decide (0≤x54)) U U (zi U U) (fun hb=>yh (gv hb) (gv hb) ⟨zq hb,U⟩) (fun hb=>⟨zn hb,U⟩),zb U U (zT U (fun hq=>(gv hq)) U ⟨U,U⟩),V⟩) U ?_
       refine zx ((decide (0≤x54)) && (decide (x72<x63))) U ?_ ?_
       ·intro hb
        replace H:=H.1 hb
        refine ze ?_
        refine zc U ?_
        refine za (zg (v:=.bool false) U ?_)
        refine zh ?_
        refine zv ?_
        exact zt (zo U zs) H
       ·intro hb
        replace H:=H.2 hb
        refine zA ?_
        refine zc U ?_
        refine za (zd (v:=.slice x53a x53n x53c) a58_6 ?_)
        refine za (zd (v:=.int .i64 x55) a58_1 ?_)
        obtain ⟨b76,o77,rfl,H⟩:=H
        obtain ⟨c75,H⟩:=H
        refine za (zC U U ei_34 c75 ?_)
        obtain ⟨x79,c80,H⟩:=H
        refine za (zk U ag_3 c80 ?_)
        refine za (zg (v:=.int .i64 x79) U ?_)
        refine zh ?_
        refine zc U ?_
        refine za (zd (v:=.int .i64 x55) a58_1 ?_)
        obtain ⟨c81,H⟩:=H
        refine za (yd U U (zS c81) ?_)
        refine za (zg (v:=.int .i64 (x55+1)) U ?_)
        refine zh ?_
        exact And.intro (hin58 _ _ _ _ rfl rfl a58_2 a58_3 a58_4 a58_5 a58_6 H.1) (yi (hmu58 _ _ _ _ rfl rfl) (hmu58 _ _ _ _ a58_0 a58_1) H.2)
      ·intro hb
       replace H:=H.2 (of_decide_eq_false hb)
       refine zY ?_
       refine ze ?_
       refine zc U ?_
       refine za (zd (v:=.slice x43a x43n x43c) a58_4 ?_)
       refine za (zd (v:=.slice x53a x53n x53c) a58_6 ?_)
       obtain ⟨m82,ns83,c84,H⟩:=H
       refine za (op_append' (src:=(Value.slice x53a x53n x53c)) (news:=ns83) ri_34 (.inl ⟨_,un_34⟩) U U c84.1 c84.2 (appH.mono H ?_))
       clear H
       intro a86 n87 q88 h89 H
       refine za (zg (v:=.slice a86 n87 q88) U ?_)
       refine zh ?_
       refine ze ?_
       refine zc U ?_
       refine za (zd (v:=.pointer x13) a58_3 ?_)
       refine za (zE (vs:=[.pointer x13]) en_25 (zm U zw) (CallsH.mono H ?_))
       clear H
       rintro _ h90 ⟨x92,x93_0,x93_1,x93_2,x93_3,x93_4,x93_5,x93_6,x93_7,x93_8,x94,rfl,H⟩
       refine za (zd (v:=.tuple #[.int .i64 x92,.agg #[.int .i64 x93_0,.int .i64 x93_1,.int .i64 x93_2,.int .u64 x93_3,.int .i64 x93_4,.int .i64 x93_5,.bool x93_6,.bool x93_7,.int .i64 x93_8],.int .i64 x94]) U ?_)
       refine za (zz U U ?_)
       refine za (zz U U ?_)
       refine za (zz U U ?_)
       obtain ⟨h95,c96⟩ : ∃ h95,h95=h90.push (.cells #[.int .i64 0,.int .i64 0,.int .i64 0,.int .u64 0,.int .i64 0,.int .i64 0,.bool false,.bool false,.int .i64 0] 63 (0,0)):=⟨_,rfl⟩
       replace H:=H h95 c96
       refine za (zU z_63 c96 ?_)
       refine za (zg (v:=.int .i64 x92) U ?_)
       obtain ⟨h98,c97,H⟩:=H
       refine za (zG (v:=.agg #[.int .i64 x93_0,.int .i64 x93_1,.int .i64 x93_2,.int .u64 x93_3,.int .i64 x93_4,.int .i64 x93_5,.bool x93_6,.bool x93_7,.int .i64 x93_8]) U U sz_63 U c97 ?_)
       refine za (zg (v:=.int .i64 x94) U ?_)
       refine zh ?_
       refine ze ?_
       refine ze ?_
       refine zc U ?_
       refine za (zd (v:=.int .i64 x94) U ?_)
       refine za (op_neq U U ?_)
       refine zh ?_
       refine zx (!decide (x94=0)) U ?_ ?_
       ·intro hb
        replace H:=H.1 (of_decide_eq_false (zr hb))
        refine zY ?_
        exact hin34 _ _ _ _ _ rfl a58_3 H
       ·intro hb
        replace H:=H.2 (of_decide_eq_true (zJ hb))
        refine zA ?_
        refine ze ?_
        refine ze ?_
        obtain ⟨x100,c101,H⟩:=H
        obtain ⟨b103,o104,rfl,H⟩:=H
        obtain ⟨c102,H⟩:=H
        obtain ⟨x106,c107,H⟩:=H
        refine zM cert_linchpinlaw20_IoqOrder_27 1 [(Value.pointer (some ⟨h90.size,1,none⟩)),(Value.int .i64 x100),(Value.slice (some ⟨b103,o104,none⟩) n87 q88),(Value.int .i64 x92),(Value.pointer (some ⟨b103,o104+x92.toNat * 1,none⟩)),(Value.int .i64 x106),(Value.bool (!decide (x100=x106))),(Value.bool (!decide (x100=x106))),(bif !(!decide (x100=x106)) then (Value.pointer x13) else undef),(bif !(!decide (x100=x106)) then (Value.int .i64 x92) else undef),undef,undef,undef] (by kernel_rfl) U mixed_PR ?_
        refine zy [10] (by decide) U (zu [0,1,2,3,4,5,6,7,8,9] U ⟨zb U U (zf U fo_63_1 ⟨U,U⟩),zb U U (zk U ag_3 c101 ⟨U,U⟩),zb U U (zd (v:=.slice (some ⟨b103,o104,none⟩) n87 q88) U ⟨U,U⟩),zb U U (zd (v:=.int .i64 x92) U ⟨U,U⟩),zb U U (zC U U ei_34 c102 ⟨U,U⟩),zb U U (zk U ag_3 c107 ⟨U,U⟩),zb U U (op_neq U U ⟨U,U⟩),zb U U (zd (v:=.bool (!decide (x100=x106))) U ⟨U,U⟩),zp (b:=!(!decide (x100=x106))) U U (zi U U) (fun hb=>zd (v:=.pointer x13) a58_3 ⟨zq hb,U⟩) (fun hb=>⟨zn hb,U⟩),zp (b:=!(!decide (x100=x106))) U U (zi U U) (fun hb=>zd (v:=.int .i64 x92) U ⟨zq hb,U⟩) (fun hb=>⟨zn hb,U⟩),V⟩) U ⟨?_,V⟩
        obtain ⟨J112,HR,HT,HF⟩:=H
        refine stepAt_gl (b:=!(!decide (x100=x106))) U U (zi U U) (fun v h109=>∃ (x111:Int),v=(bif !(!decide (x100=x106)) then (Value.int .i64 x111) else undef)∧J112 x111 h109) ?_ ?_ ?_
        ·rintro _ h109 ⟨x111,rfl,hJ⟩
         have H:=HR x111 h109 hJ
         refine ⟨[(Value.pointer (some ⟨h90.size,1,none⟩)),(Value.int .i64 x100),(Value.slice (some ⟨b103,o104,none⟩) n87 q88),(Value.int .i64 x92),(Value.pointer (some ⟨b103,o104+x92.toNat * 1,none⟩)),(Value.int .i64 x106),(Value.bool (!decide (x100=x106))),(Value.bool (!decide (x100=x106))),(bif !(!decide (x100=x106)) then (Value.pointer x13) else undef),(bif !(!decide (x100=x106)) then (Value.int .i64 x92) else undef),(bif !(!decide (x100=x106)) then (Value.int .i64 x111) else undef),(bif !(!decide (x100=x106)) then (Value.bool (!decide (x111=0))) else undef),(Value.bool ((!decide (x100=x106)) || (!decide (x111=0))))],U,(zF [0,1,2,3,4,5,6,7,8,9] U ⟨U,U,U,U,U,U,U,U,U,U,V⟩),?_⟩
         refine zH U (zu [11,12] U ⟨zp (b:=!(!decide (x100=x106))) U U (zi U U) (fun hb=>op_neq (gv hb) U ⟨zq hb,U⟩) (fun hb=>⟨zn hb,U⟩),zb U U (zP U U (fun hq=>(gv (zN hq))) ⟨U,U⟩),V⟩) U ?_
         refine zx ((!decide (x100=x106)) || (!decide (x111=0))) U ?_ ?_
         ·intro hb
          replace H:=H.1 hb
          refine ze ?_
          refine zc U ?_
          refine za (zg (v:=.bool false) U ?_)
          refine zh ?_
          refine zv ?_
          exact zt (zo U zs) H
         ·intro hb
          replace H:=H.2 hb
          refine zA ?_
          refine ze ?_
          refine zc U ?_
          refine za (zd (v:=.pointer x13) a58_3 ?_)
          refine za (zE (vs:=[.pointer x13]) en_18 (zm U zw) (CallsH.mono H ?_))
          clear H
          rintro _ h114 ⟨x116,x117,rfl,H⟩
          refine za (zd (v:=.tuple #[.int .i64 x116,.int .i64 x117]) U ?_)
          refine za (zz U U ?_)
          refine za (zz U U ?_)
          refine za (zg (v:=.int .i64 x116) U ?_)
          refine za (zg (v:=.int .i64 x117) U ?_)
          refine zh ?_
          refine ze ?_
          refine zc U ?_
          refine za (zd (v:=.int .i64 x117) U ?_)
          refine za (op_neq U U ?_)
          refine za (zd (v:=.bool (!decide (x117=0))) U ?_)
          refine zD (b:=!(!decide (x117=0))) (zi U U) (Value.int .i64 x116) (fun hb N hN=>zd (v:=.int .i64 x116) U hN) ?_
          refine zD (b:=!(!decide (x117=0))) (zi U U) (Value.pointer (some ⟨h90.size,1,none⟩)) (fun hb N hN=>zf U fo_63_1 hN) ?_
          obtain ⟨x119,c120,H⟩:=H
          refine zD (b:=!(!decide (x117=0))) (zi U U) (Value.int .i64 x119) (fun hb N hN=>zk (gv hb) ag_3 (c120 (of_decide_eq_true (zJ (zr hb)))) hN) ?_
          refine zD (b:=!(!decide (x117=0))) (zi U U) (Value.bool (!decide (x116=x119))) (fun hb N hN=>op_neq (gv hb) (gv hb) hN) ?_
          refine za (zP U U (fun hq=>(gv (zN hq))) ?_)
          refine zh ?_
          refine zx ((!decide (x117=0)) || (!decide (x116=x119))) U ?_ ?_
          ·intro hb
           replace H:=H.1 hb
           refine ze ?_
           refine zc U ?_
           refine za (zg (v:=.bool false) U ?_)
           refine zh ?_
           refine zv ?_
           exact zt (zo U zs) H
          ·intro hb
           replace H:=H.2 hb
           refine zA ?_
           refine zc U ?_
           refine za (zd (v:=.int .i64 x45) a58_5 ?_)
           obtain ⟨c122,H⟩:=H
           refine za (yd U U (zS c122) ?_)
           refine za (zg (v:=.int .i64 (x45+1)) U ?_)
           refine zh ?_
           exact And.intro (hin48 _ _ _ _ _ _ _ rfl a58_0 rfl a58_2 a58_3 H.1) (yi (hmu48 _ _ _ _ _ _ _ rfl a58_0 rfl) (hmu48 _ _ _ _ _ _ _ a48_0 a48_1 a48_2) H.2)
        ·intro hb
         refine zE (vs:=[.pointer x13,.int .i64 x92,.int .i64 0,.bool false]) en_28 (zm (gv hb) (zm (gv hb) (zm U (zm U zw)))) (CallsH.mono (HT (of_decide_eq_true (zJ (zr hb)))) ?_)
         rintro _ h109 ⟨x111,rfl,hJ⟩
         exact ⟨x111,zq hb,hJ⟩
        ·intro hb
         obtain ⟨x111,hJ⟩:=HF (of_decide_eq_false (zr (zJ hb)))
         exact ⟨x111,zn hb,hJ⟩
     ·intro hb
      replace H:=H.2 (of_decide_eq_false hb)
      refine zY ?_
      exact hin34 _ _ _ _ _ a48_0 a48_4 H
    ·clear H
     intro f h35 hf
     obtain ⟨x32a,x32n,x32c,a34_0,a34_1,hJ⟩:=hout34 _ _ hf
     have H:=HR x32a x32n x32c h35 hJ
     refine ze ?_
     refine zc U ?_
     refine za (zd (v:=.pointer x13) a34_1 ?_)
     refine za (zE (vs:=[.pointer x13]) en_30 (zm U zw) (CallsH.mono H ?_))
     clear H
     rintro _ h36 ⟨x38,x39,rfl,H⟩
     refine za (zd (v:=.tuple #[.int .i64 x38,.int .i64 x39]) U ?_)
     refine za (zz U U ?_)
     refine za (zz U U ?_)
     refine za (zg (v:=.int .i64 x38) U ?_)
     refine za (zg (v:=.int .i64 x39) U ?_)
     refine zh ?_
     refine ze ?_
     refine zc U ?_
     refine za (zd (v:=.slice x32a x32n x32c) a34_0 ?_)
     refine za (zL U un_34 ?_)
     refine za (op_eql U U ?_)
     refine za (zd (v:=.bool (decide ((x32n:Int)=4))) U ?_)
     refine zD (b:=decide ((x32n:Int)=4)) (zi U U) (Value.int .i64 x38) (fun hb N hN=>zd (v:=.int .i64 x38) U hN) ?_
     refine zD (b:=decide ((x32n:Int)=4)) (zi U U) (Value.bool (decide (x38=0))) (fun hb N hN=>op_eql (gv hb) U hN) ?_
     refine za (zT U (fun hq=>(gv hq)) U ?_)
     refine za (zd (v:=.bool ((decide ((x32n:Int)=4)) && (decide (x38=0)))) U ?_)
     refine zD (b:=(decide ((x32n:Int)=4)) && (decide (x38=0))) (zi U U) (Value.int .i64 x39) (fun hb N hN=>zd (v:=.int .i64 x39) U hN) ?_
     refine zD (b:=(decide ((x32n:Int)=4)) && (decide (x38=0))) (zi U U) (Value.bool (decide (x39=0))) (fun hb N hN=>op_eql (gv hb) U hN) ?_
     refine za (zT U (fun hq=>(gv hq)) U ?_)
     refine za (zg (v:=.bool (((decide ((x32n:Int)=4)) && (decide (x38=0))) && (decide (x39=0)))) U ?_)
     refine zh ?_
     refine zv ?_
     exact zt (zo U zs) H
end Go.Proofs.Vf
