/- Printed by a program of this claim: for each Go function named below a formula over the heap, and the proof that it gives the call of that function. No conditions. -/
import Derived.Test.YtcldahgjomfbpaaGreatBase
namespace Go.Proofs.Vf
open Go Go.Proofs Go.VC
set_option maxRecDepth 100000
set_option maxHeartbeats 4000000
set_option linter.unusedVariables false
def F_linchpinlaw20_classes (K:Option Addr→Nat→Nat→Heap→Prop) (h:Heap):Prop:=
 ∀ (h1:Heap),h1=h.push (.cells #[.int .i64 8,.int .i64 3,.int .i64 20,.int .i64 2] 202 (0,0))→K (some ⟨h.size,0,none⟩) 2 2 h1
theorem F_linchpinlaw20_classes_ok (R:Value→Heap→Prop) (h:Heap) (H:F_linchpinlaw20_classes  (fun r0a r0n r0c h'=>R (Value.slice r0a r0n r0c) h') h):CallsH PR fn_linchpinlaw20_classes #[] h R:=by
 refine zB (args:=[]) Tryz.func34 U U ?_
 intro f hf
 clear hf
 unfold F_linchpinlaw20_classes at H
 refine ze ?_
 refine zc U ?_
 refine za (zg (v:=.slice none 0 0) U ?_)
 refine zh ?_
 refine ze ?_
 refine zc U ?_
 refine za (zV (vs:=[(0,.int .i64 8),(1,.int .i64 3)]) (cs:=#[.int .i64 8,.int .i64 3]) z_202 fs_202 (zK U (zK U zR)) U ?_)
 refine za (zV (vs:=[(0,.int .i64 20),(1,.int .i64 2)]) (cs:=#[.int .i64 20,.int .i64 2]) z_202 fs_202 (zK U (zK U zR)) U ?_)
 obtain ⟨h1,c2⟩ : ∃ h1,h1=h.push (.cells #[.int .i64 8,.int .i64 3,.int .i64 20,.int .i64 2] 202 (0,0)):=⟨_,rfl⟩
 replace H:=H h1 c2
 refine za (ye (cs:=#[.int .i64 8,.int .i64 3,.int .i64 20,.int .i64 2]) (vs:=[(0,.agg #[.int .i64 8,.int .i64 3]),(1,.agg #[.int .i64 20,.int .i64 2])]) (zl:=[.int .i64 0,.int .i64 0]) ri_86 (by decide) U U (zK U (zK U zR)) U c2 ?_)
 refine za (zg (v:=.slice (some ⟨h.size,0,none⟩) 2 2) U ?_)
 refine zh ?_
 refine zv ?_
 exact zt (zo U zs) H
def F_linchpinlaw20_got (K:Option Addr→Heap→Prop) (h:Heap):Prop:=
 CallsH PR fn_linchpinlaw20_classes #[] h (fun v h1=>∃ (x3a:Option Addr) (x3n:Nat) (x3c:Nat),v=(Value.slice x3a x3n x3c)∧CallsH PR fn_pool_New #[.slice x3a x3n x3c] h1 (fun v h4=>∃ (x6:Option Addr) (x7:Int),v=(Value.tuple #[.pointer x6,.int .i64 x7])∧((x6.isNone || (!decide (x7=0)))=true→K none h4)∧((x6.isNone || (!decide (x7=0)))=false→∃ (I11:Int→Heap→Prop) (mu12:Int→Heap→Nat),I11 0 h4∧∀ (x10:Int) (h14:Heap),I11 x10 h14→(x10<4→CallsH PR fn_pool_Pool_Get #[.pointer x6,.int .i64 1] h14 (fun v h16=>∃ (x18_0:Int) (x18_1:Int) (x19:Int),v=(Value.tuple #[.agg #[.int .i64 x18_0,.int .u64 x18_1],.int .i64 x19])∧(-9223372036854775808≤x10+1∧x10+1<9223372036854775808)∧(I11 (x10+1) h16∧mu12 (x10+1) h16<mu12 x10 h14)))∧((¬ (x10<4))→K x6 h14))))
theorem F_linchpinlaw20_got_ok (R:Value→Heap→Prop) (h:Heap) (H:F_linchpinlaw20_got  (fun r0 h'=>R (Value.pointer r0) h') h):CallsH PR fn_linchpinlaw20_got #[] h R:=by
 refine zB (args:=[]) Tryz.func23 U U ?_
 intro f hf
 clear hf
 unfold F_linchpinlaw20_got at H
 refine ze ?_
 refine zc U ?_
 refine za (zg (v:=.pointer none) U ?_)
 refine zh ?_
 refine ze ?_
 refine zc U ?_
 refine za (zE (vs:=[]) en_34 zw (CallsH.mono H ?_))
 clear H
 rintro _ h1 ⟨x3a,x3n,x3c,rfl,H⟩
 refine za (zE (vs:=[.slice x3a x3n x3c]) en_57 (zm U zw) (CallsH.mono H ?_))
 clear H
 rintro _ h4 ⟨x6,x7,rfl,H⟩
 refine za (zd (v:=.tuple #[.pointer x6,.int .i64 x7]) U ?_)
 refine za (zz U U ?_)
 refine za (zz U U ?_)
 refine za (zg (v:=.pointer x6) U ?_)
 refine za (zg (v:=.int .i64 x7) U ?_)
 refine zh ?_
 refine ze ?_
 refine ze ?_
 refine zc U ?_
 refine za (zd (v:=.pointer x6) U ?_)
 refine za (op_eq_ptr_nil U U un_27 ?_)
 refine za (zd (v:=.bool x6.isNone) U ?_)
 refine zD (b:=!x6.isNone) (zi U U) (Value.int .i64 x7) (fun hb N hN=>zd (v:=.int .i64 x7) U hN) ?_
 refine zD (b:=!x6.isNone) (zi U U) (Value.bool (!decide (x7=0))) (fun hb N hN=>op_neq (gv hb) U hN) ?_
 refine za (zP U U (fun hq=>(gv (zN hq))) ?_)
 refine zh ?_
 refine zx (x6.isNone || (!decide (x7=0))) U ?_ ?_
 ·intro hb
  replace H:=H.1 hb
  refine ze ?_
  refine zc U ?_
  refine za (zg (v:=.pointer none) U ?_)
  refine zh ?_
  refine zv ?_
  exact zt (zo U zs) H
 ·intro hb
  replace H:=H.2 hb
  refine zA ?_
  refine ze ?_
  refine ze ?_
  refine zc U ?_
  refine za (zg (v:=.int .i64 0) U ?_)
  refine zh ?_
  refine zI ?_
  obtain ⟨I11,mu12,hI,H⟩:=H
  obtain ⟨I13,mu13,hin13,hout13,hmu13⟩ : ∃ (J13:Fr→Heap→Prop) (m:Fr→Heap→Nat),(∀ f hz (x10:Int),f 3 = .int .i64 x10→f 1 = .pointer x6→I11 x10 hz→J13 f hz)∧(∀ f hz,J13 f hz→∃ (x10:Int),f 3 = .int .i64 x10∧f 1 = .pointer x6∧I11 x10 hz)∧(∀ f hz (x10:Int),f 3 = .int .i64 x10→m f hz=mu12 x10 hz):=⟨fun f hz=>∃ (x10:Int),f 3 = .int .i64 x10∧f 1 = .pointer x6∧I11 x10 hz,fun f hz=>mu12 (dInt (f 3)) hz,fun _ _ x10 a0 a1 z=>⟨x10,a0,a1,z⟩,fun _ _ hz=>hz,fun f hz x10 a0=>by simp only [a0]; rfl⟩
  refine zZ I13 mu13 (hin13 _ _ _ U U hI) ?_
  clear hI
  intro f h14 hf
  obtain ⟨x10,a13_0,a13_1,hJ⟩:=hout13 _ _ hf
  replace H:=H x10 h14 hJ
  refine ze ?_
  refine ze ?_
  refine zc U ?_
  refine za (zd (v:=.int .i64 x10) a13_0 ?_)
  refine za (zW U U ?_)
  refine zh ?_
  refine zx (decide (x10<4)) U ?_ ?_
  ·intro hb
   replace H:=H.1 (of_decide_eq_true hb)
   refine zA ?_
   refine ze ?_
   refine zI ?_
   refine zc U ?_
   refine za (zd (v:=.pointer x6) a13_1 ?_)
   refine za (zE (vs:=[.pointer x6,.int .i64 1]) en_61 (zm U (zm U zw)) (CallsH.mono H ?_))
   clear H
   rintro _ h16 ⟨x18_0,x18_1,x19,rfl,H⟩
   refine zh ?_
   refine zc U ?_
   refine za (zd (v:=.int .i64 x10) a13_0 ?_)
   obtain ⟨c20,H⟩:=H
   refine za (yd U U (zS c20) ?_)
   refine za (zg (v:=.int .i64 (x10+1)) U ?_)
   refine zh ?_
   exact And.intro (hin13 _ _ _ rfl a13_1 H.1) (yi (hmu13 _ _ _ rfl) (hmu13 _ _ _ a13_0) H.2)
  ·intro hb
   replace H:=H.2 (of_decide_eq_false hb)
   refine zY ?_
   refine ze ?_
   refine zc U ?_
   refine za (zd (v:=.pointer x6) a13_1 ?_)
   refine za (zg (v:=.pointer x6) U ?_)
   refine zh ?_
   refine zv ?_
   exact zt (zo U zs) H
def F_linchpinlaw20_awake (K:Bool→Heap→Prop) (h:Heap):Prop:=
 CallsH PR fn_linchpinlaw20_got #[] h (fun v h1=>∃ (x3:Option Addr),v=(Value.pointer x3)∧(x3.isNone=true→K false h1)∧(x3.isNone=false→CallsH PR fn_ioq_New #[.pointer x3,.int .i64 2,.int .u64 5] h1 (fun v h5=>∃ (x7:Option Addr) (x8:Int),v=(Value.tuple #[.pointer x7,.int .i64 x8])∧((x7.isNone || (!decide (x8=0)))=true→K false h5)∧((x7.isNone || (!decide (x8=0)))=false→∀ (h11:Heap),h11=h5.push (.cells #[.int .i64 0,.int .u64 0] 39 (0,0))→∃ (h14:Heap),stCells h5.size h11 0 [.int .i64 0,.int .u64 1]=some h14∧∃ (x15_0:Int) (x15_1:Int),ldCells h14 h5.size 0 2=some [.int .i64 x15_0,.int .u64 x15_1]∧CallsH PR fn_ioq_Device_Submit #[.pointer x7,.agg #[.int .i64 7,.int .i64 0,.int .u64 100,.int .i64 0,.int .i64 x15_0,.int .u64 x15_1,.int .i64 2,.int .i64 4]] h14 (fun v h17=>∃ (x19:Int),v=(Value.int .i64 x19)∧∃ (x20_0:Int) (x20_1:Int),ldCells h17 h5.size 0 2=some [.int .i64 x20_0,.int .u64 x20_1]∧CallsH PR fn_ioq_Device_Submit #[.pointer x7,.agg #[.int .i64 8,.int .i64 0,.int .u64 100,.int .i64 0,.int .i64 x20_0,.int .u64 x20_1,.int .i64 2,.int .i64 4]] h17 (fun v h22=>∃ (x24:Int),v=(Value.int .i64 x24)∧CallsH PR fn_ioq_Device_Start #[.pointer x7] h22 (fun v h25=>∃ (x27a:Option Addr) (x27n:Nat) (x27c:Nat),v=(Value.slice x27a x27n x27c)∧CallsH PR fn_ioq_Device_Take #[.pointer x7] h25 (fun v h28=>∃ (x30:Int) (x31_0:Int) (x31_1:Int) (x31_2:Int) (x31_3:Int) (x31_4:Int) (x31_5:Int) (x31_6:Bool) (x31_7:Bool) (x31_8:Int) (x32:Int),v=(Value.tuple #[.int .i64 x30,.agg #[.int .i64 x31_0,.int .i64 x31_1,.int .i64 x31_2,.int .u64 x31_3,.int .i64 x31_4,.int .i64 x31_5,.bool x31_6,.bool x31_7,.int .i64 x31_8],.int .i64 x32])∧∀ (h33:Heap),h33=h28.push (.cells #[.int .i64 0,.int .i64 0,.int .i64 0,.int .u64 0,.int .i64 0,.int .i64 0,.bool false,.bool false,.int .i64 0] 63 (0,0))→∃ (h36:Heap),stCells h28.size h33 0 [.int .i64 x31_0,.int .i64 x31_1,.int .i64 x31_2,.int .u64 x31_3,.int .i64 x31_4,.int .i64 x31_5,.bool x31_6,.bool x31_7,.int .i64 x31_8]=some h36∧∀ (h37:Heap),h37=h36.push (.cells #[.int .u8 97,.int .u8 98] 5 (0,0))→isBlk h37 h36.size∧∀ (h39:Heap),MarkH h36.size h37 h39→CallsH PR fn_ioq_Device_Write #[.pointer x7,.int .i64 x30,.int .i64 1,.slice (some ⟨h36.size,0,none⟩) 2 2] h39 (fun v h42=>∃ (x44:Int),v=(Value.int .i64 x44)∧CallsH PR fn_ioq_Device_Finish #[.pointer x7,.int .i64 x30,.int .i64 9,.bool false] h42 (fun v h45=>∃ (x47:Int),v=(Value.int .i64 x47)∧CallsH PR fn_ioq_Device_Reap #[.pointer x7] h45 (fun v h48=>∃ (x50:Int) (x51:Int),v=(Value.tuple #[.int .i64 x50,.int .i64 x51])∧CallsH PR fn_ioq_Device_Go #[.pointer x7,.int .u64 1] h48 (fun v h52=>∃ (x54a:Option Addr) (x54n:Nat) (x54c:Nat) (x55:Int),v=(Value.tuple #[.slice x54a x54n x54c,.int .i64 x55])∧∃ (x57_0:Int) (x57_1:Int),ldCells h52 h5.size 0 2=some [.int .i64 x57_0,.int .u64 x57_1]∧CallsH PR fn_pool_Pool_Read #[.pointer x3,.agg #[.int .i64 x57_0,.int .u64 x57_1],.int .i64 3,.int .i64 2] h52 (fun v h59=>∃ (x61a:Option Addr) (x61n:Nat) (x61c:Nat) (x62:Int),v=(Value.tuple #[.slice x61a x61n x61c,.int .i64 x62])∧∃ (b72:Nat) (o73:Nat),((((((((((decide (x19=0)) && (decide (x24=8))) && (decide ((x27n:Int)=1))) && (decide (x32=0))) && (decide (x44=0))) && (decide (x50=7))) && (decide (x51=0))) && (decide ((x54n:Int)=1)))=true)→x54a=some ⟨b72,o73,none⟩)∧((((((((((decide (x19=0)) && (decide (x24=8))) && (decide ((x27n:Int)=1))) && (decide (x32=0))) && (decide (x44=0))) && (decide (x50=7))) && (decide (x51=0))) && (decide ((x54n:Int)=1)))=true)→0≤(0:Int)∧(0:Int)<(x54n:Int))∧∃ (x75_0:Int) (x75_1:Int) (x75_2:Int),((((((((((decide (x19=0)) && (decide (x24=8))) && (decide ((x27n:Int)=1))) && (decide (x32=0))) && (decide (x44=0))) && (decide (x50=7))) && (decide (x51=0))) && (decide ((x54n:Int)=1)))=true)→ldCells h59 b72 o73 3=some [.int .i64 x75_0,.int .i64 x75_1,.int .i64 x75_2])∧∃ (xs78:List Int),(((((((((((decide (x19=0)) && (decide (x24=8))) && (decide ((x27n:Int)=1))) && (decide (x32=0))) && (decide (x44=0))) && (decide (x50=7))) && (decide (x51=0))) && (decide ((x54n:Int)=1))) && ((decide (x75_0=7)) && ((decide (x75_1=1)) && ((decide (x75_2=9)) && true))))=true)→firstH h59 1 x61n (Value.slice x61a x61n x61c)=some (xs78.map (Value.int .u8)))∧K ((((((((((decide (x19=0)) && (decide (x24=8))) && (decide ((x27n:Int)=1))) && (decide (x32=0))) && (decide (x44=0))) && (decide (x50=7))) && (decide (x51=0))) && (decide ((x54n:Int)=1))) && ((decide (x75_0=7)) && ((decide (x75_1=1)) && ((decide (x75_2=9)) && true)))) && (decide ((strOfNums xs78)=(ByteArray.mk #[97,98])))) h59)))))))))))))
theorem F_linchpinlaw20_awake_ok (R:Value→Heap→Prop) (h:Heap) (H:F_linchpinlaw20_awake  (fun r0 h'=>R (Value.bool r0) h') h):CallsH PR fn_linchpinlaw20_awake #[] h R:=by
 refine zB (args:=[]) Tryz.func22 U U ?_
 intro f hf
 clear hf
 unfold F_linchpinlaw20_awake at H
 refine ze ?_
 refine zc U ?_
 refine za (zg (v:=.bool false) U ?_)
 refine zh ?_
 refine ze ?_
 refine zc U ?_
 refine za (zE (vs:=[]) en_23 zw (CallsH.mono H ?_))
 clear H
 rintro _ h1 ⟨x3,rfl,H⟩
 refine za (zg (v:=.pointer x3) U ?_)
 refine zh ?_
 refine ze ?_
 refine ze ?_
 refine zc U ?_
 refine za (zd (v:=.pointer x3) U ?_)
 refine za (op_eq_ptr_nil U U un_27 ?_)
 refine zh ?_
 refine zx (x3.isNone) U ?_ ?_
 ·intro hb
  replace H:=H.1 hb
  refine ze ?_
  refine zc U ?_
  refine za (zg (v:=.bool false) U ?_)
  refine zh ?_
  refine zv ?_
  exact zt (zo U zs) H
 ·intro hb
  replace H:=H.2 hb
  refine zA ?_
  refine ze ?_
  refine zc U ?_
  refine za (zd (v:=.pointer x3) U ?_)
  refine za (zE (vs:=[.pointer x3,.int .i64 2,.int .u64 5]) en_24 (zm U (zm U (zm U zw))) (CallsH.mono H ?_))
  clear H
  rintro _ h5 ⟨x7,x8,rfl,H⟩
  refine za (zd (v:=.tuple #[.pointer x7,.int .i64 x8]) U ?_)
  refine za (zz U U ?_)
  refine za (zz U U ?_)
  refine za (zg (v:=.pointer x7) U ?_)
  refine za (zg (v:=.int .i64 x8) U ?_)
  refine zh ?_
  refine ze ?_
  refine ze ?_
  refine zc U ?_
  refine za (zd (v:=.pointer x7) U ?_)
  refine za (op_eq_ptr_nil U U un_28 ?_)
  refine za (zd (v:=.bool x7.isNone) U ?_)
  refine zD (b:=!x7.isNone) (zi U U) (Value.int .i64 x8) (fun hb N hN=>zd (v:=.int .i64 x8) U hN) ?_
  refine zD (b:=!x7.isNone) (zi U U) (Value.bool (!decide (x8=0))) (fun hb N hN=>op_neq (gv hb) U hN) ?_
  refine za (zP U U (fun hq=>(gv (zN hq))) ?_)
  refine zh ?_
  refine zx (x7.isNone || (!decide (x8=0))) U ?_ ?_
  ·intro hb
   replace H:=H.1 hb
   refine ze ?_
   refine zc U ?_
   refine za (zg (v:=.bool false) U ?_)
   refine zh ?_
   refine zv ?_
   exact zt (zo U zs) H
  ·intro hb
   replace H:=H.2 hb
   refine zA ?_
   refine ze ?_
   refine zc U ?_
   refine za (zV (vs:=[(0,.int .i64 0),(1,.int .u64 1)]) (cs:=#[.int .i64 0,.int .u64 1]) z_39 fs_39 (zK U (zK U zR)) U ?_)
   obtain ⟨h11,c12⟩ : ∃ h11,h11=h5.push (.cells #[.int .i64 0,.int .u64 0] 39 (0,0)):=⟨_,rfl⟩
   replace H:=H h11 c12
   refine za (zU z_39 c12 ?_)
   obtain ⟨h14,c13,H⟩:=H
   refine za (zG (v:=.agg #[.int .i64 0,.int .u64 1]) U U sz_39 U c13 ?_)
   refine zh ?_
   refine ze ?_
   refine zc U ?_
   refine za (zd (v:=.pointer x7) U ?_)
   obtain ⟨x15_0,x15_1,c16,H⟩:=H
   refine za (zQ U ag_39 c16 ?_)
   refine za (zV (vs:=[(0,.agg #[.int .i64 x15_0,.int .u64 x15_1]),(1,.int .i64 2),(2,.int .i64 4)]) (cs:=#[.int .i64 x15_0,.int .u64 x15_1,.int .i64 2,.int .i64 4]) z_41 fs_41 (zK U (zK U (zK U zR))) U ?_)
   refine za (zV (vs:=[(0,.int .i64 7),(2,.int .u64 100),(4,.agg #[.int .i64 x15_0,.int .u64 x15_1,.int .i64 2,.int .i64 4])]) (cs:=#[.int .i64 7,.int .i64 0,.int .u64 100,.int .i64 0,.int .i64 x15_0,.int .u64 x15_1,.int .i64 2,.int .i64 4]) z_43 fs_43 (zK U (zK U (zK U zR))) U ?_)
   refine za (zE (vs:=[.pointer x7,.agg #[.int .i64 7,.int .i64 0,.int .u64 100,.int .i64 0,.int .i64 x15_0,.int .u64 x15_1,.int .i64 2,.int .i64 4]]) en_16 (zm U (zm U zw)) (CallsH.mono H ?_))
   clear H
   rintro _ h17 ⟨x19,rfl,H⟩
   refine za (zg (v:=.int .i64 x19) U ?_)
   refine zh ?_
   refine ze ?_
   refine zc U ?_
   refine za (zd (v:=.pointer x7) U ?_)
   obtain ⟨x20_0,x20_1,c21,H⟩:=H
   refine za (zQ U ag_39 c21 ?_)
   refine za (zV (vs:=[(0,.agg #[.int .i64 x20_0,.int .u64 x20_1]),(1,.int .i64 2),(2,.int .i64 4)]) (cs:=#[.int .i64 x20_0,.int .u64 x20_1,.int .i64 2,.int .i64 4]) z_41 fs_41 (zK U (zK U (zK U zR))) U ?_)
   refine za (zV (vs:=[(0,.int .i64 8),(2,.int .u64 100),(4,.agg #[.int .i64 x20_0,.int .u64 x20_1,.int .i64 2,.int .i64 4])]) (cs:=#[.int .i64 8,.int .i64 0,.int .u64 100,.int .i64 0,.int .i64 x20_0,.int .u64 x20_1,.int .i64 2,.int .i64 4]) z_43 fs_43 (zK U (zK U (zK U zR))) U ?_)
   refine za (zE (vs:=[.pointer x7,.agg #[.int .i64 8,.int .i64 0,.int .u64 100,.int .i64 0,.int .i64 x20_0,.int .u64 x20_1,.int .i64 2,.int .i64 4]]) en_16 (zm U (zm U zw)) (CallsH.mono H ?_))
   clear H
   rintro _ h22 ⟨x24,rfl,H⟩
   refine za (zg (v:=.int .i64 x24) U ?_)
   refine zh ?_
   refine ze ?_
   refine zc U ?_
   refine za (zd (v:=.pointer x7) U ?_)
   refine za (zE (vs:=[.pointer x7]) en_17 (zm U zw) (CallsH.mono H ?_))
   clear H
   rintro _ h25 ⟨x27a,x27n,x27c,rfl,H⟩
   refine za (zg (v:=.slice x27a x27n x27c) U ?_)
   refine zh ?_
   refine ze ?_
   refine zc U ?_
   refine za (zd (v:=.pointer x7) U ?_)
   refine za (zE (vs:=[.pointer x7]) en_25 (zm U zw) (CallsH.mono H ?_))
   clear H
   rintro _ h28 ⟨x30,x31_0,x31_1,x31_2,x31_3,x31_4,x31_5,x31_6,x31_7,x31_8,x32,rfl,H⟩
   refine za (zd (v:=.tuple #[.int .i64 x30,.agg #[.int .i64 x31_0,.int .i64 x31_1,.int .i64 x31_2,.int .u64 x31_3,.int .i64 x31_4,.int .i64 x31_5,.bool x31_6,.bool x31_7,.int .i64 x31_8],.int .i64 x32]) U ?_)
   refine za (zz U U ?_)
   refine za (zz U U ?_)
   refine za (zz U U ?_)
   obtain ⟨h33,c34⟩ : ∃ h33,h33=h28.push (.cells #[.int .i64 0,.int .i64 0,.int .i64 0,.int .u64 0,.int .i64 0,.int .i64 0,.bool false,.bool false,.int .i64 0] 63 (0,0)):=⟨_,rfl⟩
   replace H:=H h33 c34
   refine za (zU z_63 c34 ?_)
   refine za (zg (v:=.int .i64 x30) U ?_)
   obtain ⟨h36,c35,H⟩:=H
   refine za (zG (v:=.agg #[.int .i64 x31_0,.int .i64 x31_1,.int .i64 x31_2,.int .u64 x31_3,.int .i64 x31_4,.int .i64 x31_5,.bool x31_6,.bool x31_7,.int .i64 x31_8]) U U sz_63 U c35 ?_)
   refine za (zg (v:=.int .i64 x32) U ?_)
   refine zh ?_
   refine ze ?_
   refine zc U ?_
   refine za (zd (v:=.pointer x7) U ?_)
   refine za (zd (v:=.int .i64 x30) U ?_)
   obtain ⟨h37,c38⟩ : ∃ h37,h37=h36.push (.cells #[.int .u8 97,.int .u8 98] 5 (0,0)):=⟨_,rfl⟩
   replace H:=H h37 c38
   refine za (ye (cs:=#[.int .u8 97,.int .u8 98]) (vs:=[(0,.int .u8 97),(1,.int .u8 98)]) (zl:=[.int .u8 0]) ri_23 (by decide) U U (zK U (zK U zR)) U c38 ?_)
   obtain ⟨c41,H⟩:=H
   refine za (op_mark U un_23 un_5 c41 ?_)
   intro h39 c40
   replace H:=H h39 c40
   refine za (zE (vs:=[.pointer x7,.int .i64 x30,.int .i64 1,.slice (some ⟨h36.size,0,none⟩) 2 2]) en_26 (zm U (zm U (zm U (zm U zw)))) (CallsH.mono H ?_))
   clear H
   rintro _ h42 ⟨x44,rfl,H⟩
   refine za (zg (v:=.int .i64 x44) U ?_)
   refine zh ?_
   refine ze ?_
   refine zc U ?_
   refine za (zd (v:=.pointer x7) U ?_)
   refine za (zd (v:=.int .i64 x30) U ?_)
   refine za (zE (vs:=[.pointer x7,.int .i64 x30,.int .i64 9,.bool false]) en_28 (zm U (zm U (zm U (zm U zw)))) (CallsH.mono H ?_))
   clear H
   rintro _ h45 ⟨x47,rfl,H⟩
   refine zh ?_
   refine ze ?_
   refine zc U ?_
   refine za (zd (v:=.pointer x7) U ?_)
   refine za (zE (vs:=[.pointer x7]) en_18 (zm U zw) (CallsH.mono H ?_))
   clear H
   rintro _ h48 ⟨x50,x51,rfl,H⟩
   refine za (zd (v:=.tuple #[.int .i64 x50,.int .i64 x51]) U ?_)
   refine za (zz U U ?_)
   refine za (zz U U ?_)
   refine za (zg (v:=.int .i64 x50) U ?_)
   refine za (zg (v:=.int .i64 x51) U ?_)
   refine zh ?_
   refine ze ?_
   refine zc U ?_
   refine za (zd (v:=.pointer x7) U ?_)
   refine za (zE (vs:=[.pointer x7,.int .u64 1]) en_29 (zm U (zm U zw)) (CallsH.mono H ?_))
   clear H
   rintro _ h52 ⟨x54a,x54n,x54c,x55,rfl,H⟩
   refine za (zd (v:=.tuple #[.slice x54a x54n x54c,.int .i64 x55]) U ?_)
   refine za (zz U U ?_)
   refine za (zz U U ?_)
   refine za (zg (v:=.slice x54a x54n x54c) U ?_)
   refine za (zg (v:=.int .i64 x55) U ?_)
   refine zh ?_
   refine ze ?_
   refine wpf_forget ?_
   intro fg56 hfg56
   have ag56_0:fg56 1=(Value.pointer x3):=by rw [hfg56]; exact rfl
   have ag56_1:fg56 4=(Value.pointer (some ⟨h5.size,0,none⟩)):=by rw [hfg56]; exact rfl
   have ag56_2:fg56 5=(Value.int .i64 x19):=by rw [hfg56]; exact rfl
   have ag56_3:fg56 6=(Value.int .i64 x24):=by rw [hfg56]; exact rfl
   have ag56_4:fg56 7=(Value.slice x27a x27n x27c):=by rw [hfg56]; exact rfl
   have ag56_5:fg56 10=(Value.int .i64 x32):=by rw [hfg56]; exact rfl
   have ag56_6:fg56 11=(Value.int .i64 x44):=by rw [hfg56]; exact rfl
   have ag56_7:fg56 12=(Value.int .i64 x50):=by rw [hfg56]; exact rfl
   have ag56_8:fg56 13=(Value.int .i64 x51):=by rw [hfg56]; exact rfl
   have ag56_9:fg56 14=(Value.slice x54a x54n x54c):=by rw [hfg56]; exact rfl
   clear hfg56
   refine zc U ?_
   refine za (zd (v:=.pointer x3) ag56_0 ?_)
   obtain ⟨x57_0,x57_1,c58,H⟩:=H
   refine za (zQ ag56_1 ag_39 c58 ?_)
   refine za (zE (vs:=[.pointer x3,.agg #[.int .i64 x57_0,.int .u64 x57_1],.int .i64 3,.int .i64 2]) en_20 (zm U (zm U (zm U (zm U zw)))) (CallsH.mono H ?_))
   clear H
   rintro _ h59 ⟨x61a,x61n,x61c,x62,rfl,H⟩
   refine za (zd (v:=.tuple #[.slice x61a x61n x61c,.int .i64 x62]) U ?_)
   refine za (zz U U ?_)
   refine za (zz U U ?_)
   refine za (zg (v:=.slice x61a x61n x61c) U ?_)
   refine za (zg (v:=.int .i64 x62) U ?_)
   refine zh ?_
   refine ze ?_
   refine zc U ?_
   refine za (zd (v:=.int .i64 x19) ag56_2 ?_)
   refine za (op_eql U U ?_)
   refine za (zd (v:=.bool (decide (x19=0))) U ?_)
   refine zD (b:=decide (x19=0)) (zi U U) (Value.int .i64 x24) (fun hb N hN=>zd (v:=.int .i64 x24) ag56_3 hN) ?_
   refine zD (b:=decide (x19=0)) (zi U U) (Value.bool (decide (x24=8))) (fun hb N hN=>op_eql (gv hb) U hN) ?_
   refine za (zT U (fun hq=>(gv hq)) U ?_)
   refine za (zd (v:=.bool ((decide (x19=0)) && (decide (x24=8)))) U ?_)
   refine zD (b:=(decide (x19=0)) && (decide (x24=8))) (zi U U) (Value.slice x27a x27n x27c) (fun hb N hN=>zd (v:=.slice x27a x27n x27c) ag56_4 hN) ?_
   refine zD (b:=(decide (x19=0)) && (decide (x24=8))) (zi U U) (Value.int .i64 (x27n:Int)) (fun hb N hN=>zL (gv hb) un_34 hN) ?_
   refine zD (b:=(decide (x19=0)) && (decide (x24=8))) (zi U U) (Value.bool (decide ((x27n:Int)=1))) (fun hb N hN=>op_eql (gv hb) U hN) ?_
   refine za (zT U (fun hq=>(gv hq)) U ?_)
   refine za (zd (v:=.bool (((decide (x19=0)) && (decide (x24=8))) && (decide ((x27n:Int)=1)))) U ?_)
   refine zD (b:=((decide (x19=0)) && (decide (x24=8))) && (decide ((x27n:Int)=1))) (zi U U) (Value.int .i64 x32) (fun hb N hN=>zd (v:=.int .i64 x32) ag56_5 hN) ?_
   refine zD (b:=((decide (x19=0)) && (decide (x24=8))) && (decide ((x27n:Int)=1))) (zi U U) (Value.bool (decide (x32=0))) (fun hb N hN=>op_eql (gv hb) U hN) ?_
   refine za (zT U (fun hq=>(gv hq)) U ?_)
   refine za (zd (v:=.bool ((((decide (x19=0)) && (decide (x24=8))) && (decide ((x27n:Int)=1))) && (decide (x32=0)))) U ?_)
   refine zD (b:=(((decide (x19=0)) && (decide (x24=8))) && (decide ((x27n:Int)=1))) && (decide (x32=0))) (zi U U) (Value.int .i64 x44) (fun hb N hN=>zd (v:=.int .i64 x44) ag56_6 hN) ?_
   refine zD (b:=(((decide (x19=0)) && (decide (x24=8))) && (decide ((x27n:Int)=1))) && (decide (x32=0))) (zi U U) (Value.bool (decide (x44=0))) (fun hb N hN=>op_eql (gv hb) U hN) ?_
   refine za (zT U (fun hq=>(gv hq)) U ?_)
   refine za (zd (v:=.bool (((((decide (x19=0)) && (decide (x24=8))) && (decide ((x27n:Int)=1))) && (decide (x32=0))) && (decide (x44=0)))) U ?_)
   refine zD (b:=((((decide (x19=0)) && (decide (x24=8))) && (decide ((x27n:Int)=1))) && (decide (x32=0))) && (decide (x44=0))) (zi U U) (Value.int .i64 x50) (fun hb N hN=>zd (v:=.int .i64 x50) ag56_7 hN) ?_
   refine zD (b:=((((decide (x19=0)) && (decide (x24=8))) && (decide ((x27n:Int)=1))) && (decide (x32=0))) && (decide (x44=0))) (zi U U) (Value.bool (decide (x50=7))) (fun hb N hN=>op_eql (gv hb) U hN) ?_
   refine za (zT U (fun hq=>(gv hq)) U ?_)
   refine za (zd (v:=.bool ((((((decide (x19=0)) && (decide (x24=8))) && (decide ((x27n:Int)=1))) && (decide (x32=0))) && (decide (x44=0))) && (decide (x50=7)))) U ?_)
   refine zD (b:=(((((decide (x19=0)) && (decide (x24=8))) && (decide ((x27n:Int)=1))) && (decide (x32=0))) && (decide (x44=0))) && (decide (x50=7))) (zi U U) (Value.int .i64 x51) (fun hb N hN=>zd (v:=.int .i64 x51) ag56_8 hN) ?_
   refine zD (b:=(((((decide (x19=0)) && (decide (x24=8))) && (decide ((x27n:Int)=1))) && (decide (x32=0))) && (decide (x44=0))) && (decide (x50=7))) (zi U U) (Value.bool (decide (x51=0))) (fun hb N hN=>op_eql (gv hb) U hN) ?_
   refine za (zT U (fun hq=>(gv hq)) U ?_)
   refine za (zd (v:=.bool (((((((decide (x19=0)) && (decide (x24=8))) && (decide ((x27n:Int)=1))) && (decide (x32=0))) && (decide (x44=0))) && (decide (x50=7))) && (decide (x51=0)))) U ?_)
   refine zD (b:=((((((decide (x19=0)) && (decide (x24=8))) && (decide ((x27n:Int)=1))) && (decide (x32=0))) && (decide (x44=0))) && (decide (x50=7))) && (decide (x51=0))) (zi U U) (Value.slice x54a x54n x54c) (fun hb N hN=>zd (v:=.slice x54a x54n x54c) ag56_9 hN) ?_
   refine zD (b:=((((((decide (x19=0)) && (decide (x24=8))) && (decide ((x27n:Int)=1))) && (decide (x32=0))) && (decide (x44=0))) && (decide (x50=7))) && (decide (x51=0))) (zi U U) (Value.int .i64 (x54n:Int)) (fun hb N hN=>zL (gv hb) un_70 hN) ?_
   refine zD (b:=((((((decide (x19=0)) && (decide (x24=8))) && (decide ((x27n:Int)=1))) && (decide (x32=0))) && (decide (x44=0))) && (decide (x50=7))) && (decide (x51=0))) (zi U U) (Value.bool (decide ((x54n:Int)=1))) (fun hb N hN=>op_eql (gv hb) U hN) ?_
   refine za (zT U (fun hq=>(gv hq)) U ?_)
   refine za (zd (v:=.bool ((((((((decide (x19=0)) && (decide (x24=8))) && (decide ((x27n:Int)=1))) && (decide (x32=0))) && (decide (x44=0))) && (decide (x50=7))) && (decide (x51=0))) && (decide ((x54n:Int)=1)))) U ?_)
   refine zD (b:=(((((((decide (x19=0)) && (decide (x24=8))) && (decide ((x27n:Int)=1))) && (decide (x32=0))) && (decide (x44=0))) && (decide (x50=7))) && (decide (x51=0))) && (decide ((x54n:Int)=1))) (zi U U) (Value.slice x54a x54n x54c) (fun hb N hN=>zd (v:=.slice x54a x54n x54c) ag56_9 hN) ?_
   obtain ⟨b72,o73,c74,H⟩:=H
   obtain ⟨c71,H⟩:=H
   refine zD (b:=(((((((decide (x19=0)) && (decide (x24=8))) && (decide ((x27n:Int)=1))) && (decide (x32=0))) && (decide (x44=0))) && (decide (x50=7))) && (decide (x51=0))) && (decide ((x54n:Int)=1))) (zi U U) (Value.pointer (some ⟨b72,o73,none⟩)) (fun hb N hN=>zC (Eq.trans (gv hb) (congrArg (fun a=>Value.slice a x54n x54c) (c74 hb))) U ei_70 (c71 hb) hN) ?_
   obtain ⟨x75_0,x75_1,x75_2,c76,H⟩:=H
   refine zD (b:=(((((((decide (x19=0)) && (decide (x24=8))) && (decide ((x27n:Int)=1))) && (decide (x32=0))) && (decide (x44=0))) && (decide (x50=7))) && (decide (x51=0))) && (decide ((x54n:Int)=1))) (zi U U) (Value.agg #[.int .i64 x75_0,.int .i64 x75_1,.int .i64 x75_2]) (fun hb N hN=>zQ (gv hb) ag_74 (c76 hb) hN) ?_
   refine zD (b:=(((((((decide (x19=0)) && (decide (x24=8))) && (decide ((x27n:Int)=1))) && (decide (x32=0))) && (decide (x44=0))) && (decide (x50=7))) && (decide (x51=0))) && (decide ((x54n:Int)=1))) (zi U U) (Value.agg #[.int .i64 7,.int .i64 1,.int .i64 9]) (fun hb N hN=>zV (vs:=[(0,.int .i64 7),(1,.int .i64 1),(2,.int .i64 9)]) (cs:=#[.int .i64 7,.int .i64 1,.int .i64 9]) z_74 fs_74 (zK U (zK U (zK U zR))) U hN) ?_
   refine zD (b:=(((((((decide (x19=0)) && (decide (x24=8))) && (decide ((x27n:Int)=1))) && (decide (x32=0))) && (decide (x44=0))) && (decide (x50=7))) && (decide (x51=0))) && (decide ((x54n:Int)=1))) (zi U U) (Value.bool ((decide (x75_0=7)) && ((decide (x75_1=1)) && ((decide (x75_2=9)) && true)))) (fun hb N hN=>op_eqs (a:=[.int .i64 x75_0,.int .i64 x75_1,.int .i64 x75_2]) (b:=[.int .i64 7,.int .i64 1,.int .i64 9]) (gv hb) (gv hb) eg_74 (eq_of_plan eqp_74 fun w=>(eqRun_int w un_3 ag_3 U U (eqRun_int w un_3 ag_3 U U (eqRun_int w un_3 ag_3 U U (eqRun_nil w))))) hN) ?_
   refine za (zT U (fun hq=>(gv hq)) U ?_)
   refine za (zd (v:=.bool (((((((((decide (x19=0)) && (decide (x24=8))) && (decide ((x27n:Int)=1))) && (decide (x32=0))) && (decide (x44=0))) && (decide (x50=7))) && (decide (x51=0))) && (decide ((x54n:Int)=1))) && ((decide (x75_0=7)) && ((decide (x75_1=1)) && ((decide (x75_2=9)) && true))))) U ?_)
   refine zD (b:=((((((((decide (x19=0)) && (decide (x24=8))) && (decide ((x27n:Int)=1))) && (decide (x32=0))) && (decide (x44=0))) && (decide (x50=7))) && (decide (x51=0))) && (decide ((x54n:Int)=1))) && ((decide (x75_0=7)) && ((decide (x75_1=1)) && ((decide (x75_2=9)) && true)))) (zi U U) (Value.slice x61a x61n x61c) (fun hb N hN=>zd (v:=.slice x61a x61n x61c) U hN) ?_
   obtain ⟨xs78,c79,H⟩:=H
   refine zD (b:=((((((((decide (x19=0)) && (decide (x24=8))) && (decide ((x27n:Int)=1))) && (decide (x32=0))) && (decide (x44=0))) && (decide (x50=7))) && (decide (x51=0))) && (decide ((x54n:Int)=1))) && ((decide (x75_0=7)) && ((decide (x75_1=1)) && ((decide (x75_2=9)) && true)))) (zi U U) (Value.string (strOfNums xs78)) (fun hb N hN=>op_b2s (gv hb) un_23 un_5 un_9 (c79 hb) hN) ?_
   refine zD (b:=((((((((decide (x19=0)) && (decide (x24=8))) && (decide ((x27n:Int)=1))) && (decide (x32=0))) && (decide (x44=0))) && (decide (x50=7))) && (decide (x51=0))) && (decide ((x54n:Int)=1))) && ((decide (x75_0=7)) && ((decide (x75_1=1)) && ((decide (x75_2=9)) && true)))) (zi U U) (Value.bool (decide ((strOfNums xs78)=(ByteArray.mk #[97,98])))) (fun hb N hN=>op_eqstr un_9 (gv hb) U hN) ?_
   refine za (zT U (fun hq=>(gv hq)) U ?_)
   refine za (zg (v:=.bool ((((((((((decide (x19=0)) && (decide (x24=8))) && (decide ((x27n:Int)=1))) && (decide (x32=0))) && (decide (x44=0))) && (decide (x50=7))) && (decide (x51=0))) && (decide ((x54n:Int)=1))) && ((decide (x75_0=7)) && ((decide (x75_1=1)) && ((decide (x75_2=9)) && true)))) && (decide ((strOfNums xs78)=(ByteArray.mk #[97,98]))))) U ?_)
   refine zh ?_
   refine zv ?_
   exact zt (zo U zs) H
def F_linchpinlaw20_IoqSilent (p0:Int) (p1a:Option Addr) (p1n:Nat) (p1c:Nat) (p2:Int) (K:Bool→Heap→Prop) (h:Heap):Prop:=
 CallsH PR fn_linchpinlaw20_awake #[] h (fun v h1=>∃ (x3:Bool),v=(Value.bool x3)∧(x3=false→K false h1)∧(x3=true→CallsH PR fn_linchpinlaw20_got #[] h1 (fun v h4=>∃ (x6:Option Addr),v=(Value.pointer x6)∧(-9223372036854775808≤1+((IntKind.i64.wrap p0).tmod 4)∧1+((IntKind.i64.wrap p0).tmod 4)<9223372036854775808)∧CallsH PR fn_ioq_New #[.pointer x6,.int .i64 (1+((IntKind.i64.wrap p0).tmod 4)),.int .u64 5] h4 (fun v h9=>∃ (x11:Option Addr) (x12:Int),v=(Value.tuple #[.pointer x11,.int .i64 x12])∧(((x11.isNone || (!decide (x12=0))) || (decide (20<(p1n:Int))))=true→K (decide (20<(p1n:Int))) h9)∧(((x11.isNone || (!decide (x12=0))) || (decide (20<(p1n:Int))))=false→∃ (I19:Int→Int→Heap→Prop) (mu20:Int→Int→Heap→Nat),I19 0 0 h9∧∀ (x17:Int) (x18:Int) (h22:Heap),I19 x17 x18 h22→(x18<(p1n:Int)→∃ J25:Int→Heap→Prop,(∀ (x24:Int) (h27:Heap),J25 x24 h27→(-9223372036854775808≤x18+1∧x18+1<9223372036854775808)∧(I19 x24 (x18+1) h27∧mu20 x24 (x18+1) h27<mu20 x17 x18 h22))∧∃ (b30:Nat) (o31:Nat),p1a=some ⟨b30,o31,none⟩∧(0≤x18∧x18<(p1n:Int))∧∃ (x33:Int),cellH h22 b30 (o31+x18.toNat * 1)=some (.int .u8 x33)∧CallsH PR fn_ioq_Device_Submit #[.pointer x11,.agg #[.int .i64 x18,.int .i64 0,.int .u64 30,.int .i64 0,.int .i64 ((IntKind.i64.wrap x33).tmod 4),.int .u64 1,.int .i64 0,.int .i64 2]] h22 (fun v h36=>∃ (x38:Int),v=(Value.int .i64 x38)∧(x38=0→(-9223372036854775808≤x17+1∧x17+1<9223372036854775808)∧J25 (x17+1) h36)∧((¬ (x38=0))→J25 x17 h36)))∧((¬ (x18<(p1n:Int)))→CallsH PR fn_ioq_Device_Start #[.pointer x11] h22 (fun v h41=>∃ (x43a:Option Addr) (x43n:Nat) (x43c:Nat),v=(Value.slice x43a x43n x43c)∧∃ (I46:Option Addr→Nat→Nat→Int→Heap→Prop) (mu47:Option Addr→Nat→Nat→Int→Heap→Nat),I46 none 0 0 0 h41∧∀ (x44a:Option Addr) (x44n:Nat) (x44c:Nat) (x45:Int) (h49:Heap),I46 x44a x44n x44c x45 h49→(x45<((IntKind.i64.wrap p2).tmod 5)→∃ J53:Option Addr→Nat→Nat→Heap→Prop,(∀ (x52a:Option Addr) (x52n:Nat) (x52c:Nat) (h55:Heap),J53 x52a x52n x52c h55→(-9223372036854775808≤x45+1∧x45+1<9223372036854775808)∧(I46 x52a x52n x52c (x45+1) h55∧mu47 x52a x52n x52c (x45+1) h55<mu47 x44a x44n x44c x45 h49))∧CallsH PR fn_ioq_Device_Take #[.pointer x11] h49 (fun v h57=>∃ (x59:Int) (x60_0:Int) (x60_1:Int) (x60_2:Int) (x60_3:Int) (x60_4:Int) (x60_5:Int) (x60_6:Bool) (x60_7:Bool) (x60_8:Int) (x61:Int),v=(Value.tuple #[.int .i64 x59,.agg #[.int .i64 x60_0,.int .i64 x60_1,.int .i64 x60_2,.int .u64 x60_3,.int .i64 x60_4,.int .i64 x60_5,.bool x60_6,.bool x60_7,.int .i64 x60_8],.int .i64 x61])∧∀ (h62:Heap),h62=h57.push (.cells #[.int .i64 0,.int .i64 0,.int .i64 0,.int .u64 0,.int .i64 0,.int .i64 0,.bool false,.bool false,.int .i64 0] 63 (0,0))→∃ (h65:Heap),stCells h57.size h62 0 [.int .i64 x60_0,.int .i64 x60_1,.int .i64 x60_2,.int .u64 x60_3,.int .i64 x60_4,.int .i64 x60_5,.bool x60_6,.bool x60_7,.int .i64 x60_8]=some h65∧(x61=0→∀ (h67:Heap),h67=h65.push (.cells #[.int .i64 x59] 3 (0,0))→appH 3 1 8 (Value.int .i64 0) x44a x44n x44c 1 ([.int .i64 x59]) h67 (fun a73 n74 q75 h76=>J53 a73 n74 q75 h76))∧((¬ (x61=0))→J53 x44a x44n x44c h65)))∧((¬ (x45<((IntKind.i64.wrap p2).tmod 5)))→CallsH PR fn_ioq_Device_Go #[.pointer x11,.int .u64 25] h49 (fun v h77=>∃ (x79a:Option Addr) (x79n:Nat) (x79c:Nat) (x80:Int),v=(Value.tuple #[.slice x79a x79n x79c,.int .i64 x80])∧(((!decide (x80=0)) || (!decide ((x79n:Int)=x17)))=true→K false h77)∧(((!decide (x80=0)) || (!decide ((x79n:Int)=x17)))=false→∃ (I84:Int→Heap→Prop) (mu85:Int→Heap→Nat),I84 0 h77∧∀ (x83:Int) (h87:Heap),I84 x83 h87→(x83<(x79n:Int)→∃ (b90:Nat) (o91:Nat),x79a=some ⟨b90,o91,none⟩∧(0≤x83∧x83<(x79n:Int))∧∃ (x93:Int),cellH h87 b90 (o91+x83.toNat * 3+1)=some (.int .i64 x93)∧((x93=2)→0≤x83∧x83<(x79n:Int))∧∃ (x97:Int),((x93=2)→cellH h87 b90 (o91+x83.toNat * 3+2)=some (.int .i64 x97))∧(((!decide (x93=2)) || (!decide (x97=1)))=true→K false h87)∧(((!decide (x93=2)) || (!decide (x97=1)))=false→(-9223372036854775808≤x83+1∧x83+1<9223372036854775808)∧(I84 (x83+1) h87∧mu85 (x83+1) h87<mu85 x83 h87)))∧((¬ (x83<(x79n:Int)))→∃ (I102:Int→Heap→Prop) (mu103:Int→Heap→Nat),I102 0 h87∧∀ (x101:Int) (h105:Heap),I102 x101 h105→(x101<(x44n:Int)→∃ (b108:Nat) (o109:Nat),x44a=some ⟨b108,o109,none⟩∧(0≤x101∧x101<(x44n:Int))∧∃ (x111:Int),cellH h105 b108 (o109+x101.toNat * 1)=some (.int .i64 x111)∧∀ (h113:Heap),h113=h105.push (.cells #[.int .u8 9] 5 (0,0))→CallsH PR fn_ioq_Device_Write #[.pointer x11,.int .i64 x111,.int .i64 0,.slice (some ⟨h105.size,0,none⟩) 1 1] h113 (fun v h115=>∃ (x117:Int),v=(Value.int .i64 x117)∧((x117=12)→0≤x101∧x101<(x44n:Int))∧∃ (x120:Int),((x117=12)→cellH h115 b108 (o109+x101.toNat * 1)=some (.int .i64 x120))∧∃ J125:Int→Heap→Prop,(∀ (x124:Int) (h122:Heap),J125 x124 h122→(((!decide (x117=12)) || (!decide (x124=0)))=true→K false h122)∧(((!decide (x117=12)) || (!decide (x124=0)))=false→(-9223372036854775808≤x101+1∧x101+1<9223372036854775808)∧(I102 (x101+1) h122∧mu103 (x101+1) h122<mu103 x101 h105)))∧((x117=12)→CallsH PR fn_ioq_Device_Finish #[.pointer x11,.int .i64 x120,.int .i64 1,.bool false] h115 (fun v h122=>∃ (x124:Int),v=(Value.int .i64 x124)∧J125 x124 h122))∧((¬ (x117=12))→∃ (x124:Int),J125 x124 h115)))∧((¬ (x101<(x44n:Int)))→∃ (I129:Int→Heap→Prop) (mu130:Int→Heap→Nat),I129 0 h105∧∀ (x128:Int) (h132:Heap),I129 x128 h132→(x128<4→∀ (h134:Heap),h134=h132.push (.cells #[.int .i64 0,.int .u64 0] 39 (0,0))→∃ (h137:Heap),stCells h132.size h134 0 [.int .i64 x128,.int .u64 1]=some h137∧∃ (x138_0:Int) (x138_1:Int),ldCells h137 h132.size 0 2=some [.int .i64 x138_0,.int .u64 x138_1]∧CallsH PR fn_pool_Pool_Read #[.pointer x6,.agg #[.int .i64 x138_0,.int .u64 x138_1],.int .i64 0,.int .i64 1] h137 (fun v h140=>∃ (x142a:Option Addr) (x142n:Nat) (x142c:Nat) (x143:Int),v=(Value.tuple #[.slice x142a x142n x142c,.int .i64 x143])∧∃ (x144_0:Int) (x144_1:Int),ldCells h140 h132.size 0 2=some [.int .i64 x144_0,.int .u64 x144_1]∧CallsH PR fn_pool_Pool_Owner #[.pointer x6,.agg #[.int .i64 x144_0,.int .u64 x144_1]] h140 (fun v h146=>∃ (x148:Int) (x149:Int) (x150:Int),v=(Value.tuple #[.int .i64 x148,.int .i64 x149,.int .i64 x150])∧∃ (b153:Nat) (o154:Nat),((x148=1)→x142a=some ⟨b153,o154,none⟩)∧((x148=1)→0≤(0:Int)∧(0:Int)<(x142n:Int))∧∃ (x156:Int),((x148=1)→cellH h146 b153 o154=some (.int .u8 x156))∧∃ (x160_0:Int) (x160_1:Int),((((!decide (x148=1)) || (!decide (x156=0)))=false)→ldCells h146 h132.size 0 2=some [.int .i64 x160_0,.int .u64 x160_1])∧∃ J165:Int→Heap→Prop,(∀ (x164:Int) (h162:Heap),J165 x164 h162→((((!decide (x148=1)) || (!decide (x156=0))) || (!decide (x164=0)))=true→K false h162)∧((((!decide (x148=1)) || (!decide (x156=0))) || (!decide (x164=0)))=false→(-9223372036854775808≤x128+1∧x128+1<9223372036854775808)∧(I129 (x128+1) h162∧mu130 (x128+1) h162<mu130 x128 h132)))∧((((!decide (x148=1)) || (!decide (x156=0)))=false)→CallsH PR fn_ioq_Device_Submit #[.pointer x11,.agg #[.int .i64 (IntKind.i64.wrap (50+x128)),.int .i64 0,.int .u64 60,.int .i64 0,.int .i64 x160_0,.int .u64 x160_1,.int .i64 0,.int .i64 1]] h146 (fun v h162=>∃ (x164:Int),v=(Value.int .i64 x164)∧J165 x164 h162))∧((((!decide (x148=1)) || (!decide (x156=0)))=true)→∃ (x164:Int),J165 x164 h146))))∧((¬ (x128<4))→∃ (I169:Int→Heap→Prop) (mu170:Int→Heap→Nat),I169 0 h132∧∀ (x168:Int) (h172:Heap),I169 x168 h172→(x168<(x44n:Int)→CallsH PR fn_ioq_Device_Reap #[.pointer x11] h172 (fun v h174=>∃ (x176:Int) (x177:Int),v=(Value.tuple #[.int .i64 x176,.int .i64 x177])∧(-9223372036854775808≤x168+1∧x168+1<9223372036854775808)∧(I169 (x168+1) h174∧mu170 (x168+1) h174<mu170 x168 h172)))∧((¬ (x168<(x44n:Int)))→CallsH PR fn_ioq_Device_Go #[.pointer x11,.int .u64 26] h172 (fun v h179=>∃ (x181a:Option Addr) (x181n:Nat) (x181c:Nat) (x182:Int),v=(Value.tuple #[.slice x181a x181n x181c,.int .i64 x182])∧K ((decide (x182=0)) && (decide ((x181n:Int)=0))) h179)))))))))))))))
theorem F_linchpinlaw20_IoqSilent_ok (p0:Int) (p1a:Option Addr) (p1n:Nat) (p1c:Nat) (p2:Int) (R:Value→Heap→Prop) (h:Heap) (H:F_linchpinlaw20_IoqSilent p0 p1a p1n p1c p2 (fun r0 h'=>R (Value.bool r0) h') h):CallsH PR fn_linchpinlaw20_IoqSilent #[.int .u8 p0,.slice p1a p1n p1c,.int .u8 p2] h R:=by
 refine zB (args:=[.int .u8 p0,.slice p1a p1n p1c,.int .u8 p2]) Tryz.func5 U U ?_
 intro f hf
 have e0:=hf 0 _ rfl
 have e1:=hf 1 _ rfl
 have e2:=hf 2 _ rfl
 clear hf
 unfold F_linchpinlaw20_IoqSilent at H
 refine ze ?_
 refine zc U ?_
 refine za (zg (v:=.bool false) U ?_)
 refine zh ?_
 refine ze ?_
 refine ze ?_
 refine zc U ?_
 refine za (zE (vs:=[]) en_22 zw (CallsH.mono H ?_))
 clear H
 rintro _ h1 ⟨x3,rfl,H⟩
 refine za (yg U ?_)
 refine zh ?_
 refine zx (!x3) U ?_ ?_
 ·intro hb
  replace H:=H.1 (zr hb)
  refine ze ?_
  refine zc U ?_
  refine za (zg (v:=.bool false) U ?_)
  refine zh ?_
  refine zv ?_
  exact zt (zo U zs) H
 ·intro hb
  replace H:=H.2 (zJ hb)
  refine zA ?_
  refine ze ?_
  refine zc U ?_
  refine za (zE (vs:=[]) en_23 zw (CallsH.mono H ?_))
  clear H
  rintro _ h4 ⟨x6,rfl,H⟩
  refine za (zg (v:=.pointer x6) U ?_)
  refine zh ?_
  refine ze ?_
  refine zc U ?_
  refine za (zd (v:=.pointer x6) U ?_)
  refine za (zd (v:=.int .u8 p0) e0 ?_)
  refine za (op_conv U (congrArg (Option.map fun _=>()) un_5) un_3 U ?_)
  refine za (op_rem U U (by decide) U ?_)
  obtain ⟨c8,H⟩:=H
  refine za (yd U U (zS c8) ?_)
  refine za (zE (vs:=[.pointer x6,.int .i64 (1+((IntKind.i64.wrap p0).tmod 4)),.int .u64 5]) en_24 (zm U (zm U (zm U zw))) (CallsH.mono H ?_))
  clear H
  rintro _ h9 ⟨x11,x12,rfl,H⟩
  refine za (zd (v:=.tuple #[.pointer x11,.int .i64 x12]) U ?_)
  refine za (zz U U ?_)
  refine za (zz U U ?_)
  refine za (zg (v:=.pointer x11) U ?_)
  refine za (zg (v:=.int .i64 x12) U ?_)
  refine zh ?_
  refine ze ?_
  refine ze ?_
  refine zc U ?_
  refine za (zd (v:=.pointer x11) U ?_)
  refine za (op_eq_ptr_nil U U un_28 ?_)
  refine za (zd (v:=.bool x11.isNone) U ?_)
  refine zD (b:=!x11.isNone) (zi U U) (Value.int .i64 x12) (fun hb N hN=>zd (v:=.int .i64 x12) U hN) ?_
  refine zD (b:=!x11.isNone) (zi U U) (Value.bool (!decide (x12=0))) (fun hb N hN=>op_neq (gv hb) U hN) ?_
  refine za (zP U U (fun hq=>(gv (zN hq))) ?_)
  refine za (zd (v:=.bool (x11.isNone || (!decide (x12=0)))) U ?_)
  refine zD (b:=!(x11.isNone || (!decide (x12=0)))) (zi U U) (Value.slice p1a p1n p1c) (fun hb N hN=>zd (v:=.slice p1a p1n p1c) e1 hN) ?_
  refine zD (b:=!(x11.isNone || (!decide (x12=0)))) (zi U U) (Value.int .i64 (p1n:Int)) (fun hb N hN=>zL (gv hb) un_23 hN) ?_
  refine zD (b:=!(x11.isNone || (!decide (x12=0)))) (zi U U) (Value.bool (decide (20<(p1n:Int)))) (fun hb N hN=>yh (gv hb) U hN) ?_
  refine za (zP U U (fun hq=>(gv (zN hq))) ?_)
  refine zh ?_
  refine zx ((x11.isNone || (!decide (x12=0))) || (decide (20<(p1n:Int)))) U ?_ ?_
  ·intro hb
   replace H:=H.1 hb
   refine ze ?_
   refine zc U ?_
   refine za (zd (v:=.slice p1a p1n p1c) e1 ?_)
   refine za (zL U un_23 ?_)
   refine za (yh U U ?_)
   refine za (zg (v:=.bool (decide (20<(p1n:Int)))) U ?_)
   refine zh ?_
   refine zv ?_
   exact zt (zo U zs) H
  ·intro hb
   replace H:=H.2 hb
   refine zA ?_
   refine ze ?_
   refine zc U ?_
   refine za (zg (v:=.int .i64 0) U ?_)
   refine zh ?_
   refine ze ?_
   refine ze ?_
   refine zc U ?_
   refine za (zg (v:=.int .i64 0) U ?_)
   refine zh ?_
   refine zI ?_
   obtain ⟨I19,mu20,hI,H⟩:=H
   obtain ⟨I21,mu21,hin21,hout21,hmu21⟩ : ∃ (J21:Fr→Heap→Prop) (m:Fr→Heap→Nat),(∀ f hz (x17:Int) (x18:Int),f 10 = .int .i64 x17→f 11 = .int .i64 x18→f 1 = .slice p1a p1n p1c→f 2 = .int .u8 p2→f 7 = .pointer x6→f 8 = .pointer x11→I19 x17 x18 hz→J21 f hz)∧(∀ f hz,J21 f hz→∃ (x17:Int) (x18:Int),f 10 = .int .i64 x17∧f 11 = .int .i64 x18∧f 1 = .slice p1a p1n p1c∧f 2 = .int .u8 p2∧f 7 = .pointer x6∧f 8 = .pointer x11∧I19 x17 x18 hz)∧(∀ f hz (x17:Int) (x18:Int),f 10 = .int .i64 x17→f 11 = .int .i64 x18→m f hz=mu20 x17 x18 hz):=⟨fun f hz=>∃ (x17:Int) (x18:Int),f 10 = .int .i64 x17∧f 11 = .int .i64 x18∧f 1 = .slice p1a p1n p1c∧f 2 = .int .u8 p2∧f 7 = .pointer x6∧f 8 = .pointer x11∧I19 x17 x18 hz,fun f hz=>mu20 (dInt (f 10)) (dInt (f 11)) hz,fun _ _ x17 x18 a0 a1 a2 a3 a4 a5 z=>⟨x17,x18,a0,a1,a2,a3,a4,a5,z⟩,fun _ _ hz=>hz,fun f hz x17 x18 a0 a1=>by simp only [a0,a1]; rfl⟩
   refine zZ I21 mu21 (hin21 _ _ _ _ U U e1 e2 U U hI) ?_
   clear hI
   intro f h22 hf
   obtain ⟨x17,x18,a21_0,a21_1,a21_2,a21_3,a21_4,a21_5,hJ⟩:=hout21 _ _ hf
   replace H:=H x17 x18 h22 hJ
   refine ze ?_
   refine ze ?_
   refine zc U ?_
   refine za (zd (v:=.int .i64 x18) a21_1 ?_)
   refine za (zd (v:=.slice p1a p1n p1c) a21_2 ?_)
   refine za (zL U un_23 ?_)
   refine za (zW U U ?_)
   refine zh ?_
   refine zx (decide (x18<(p1n:Int))) U ?_ ?_
   ·intro hb
    replace H:=H.1 (of_decide_eq_true hb)
    refine zA ?_
    obtain ⟨J25,HR,H⟩:=H
    obtain ⟨J26,hin26,hout26⟩ : ∃ J26:Fr→Heap→Prop,(∀ f hz (x24:Int),f 10 = .int .i64 x24→f 1 = .slice p1a p1n p1c→f 2 = .int .u8 p2→f 7 = .pointer x6→f 8 = .pointer x11→f 11 = .int .i64 x18→J25 x24 hz→J26 f hz)∧(∀ f hz,J26 f hz→∃ (x24:Int),f 10 = .int .i64 x24∧f 1 = .slice p1a p1n p1c∧f 2 = .int .u8 p2∧f 7 = .pointer x6∧f 8 = .pointer x11∧f 11 = .int .i64 x18∧J25 x24 hz):=⟨fun f hz=>∃ (x24:Int),f 10 = .int .i64 x24∧f 1 = .slice p1a p1n p1c∧f 2 = .int .u8 p2∧f 7 = .pointer x6∧f 8 = .pointer x11∧f 11 = .int .i64 x18∧J25 x24 hz,fun _ _ x24 a0 a1 a2 a3 a4 a5 z=>⟨x24,a0,a1,a2,a3,a4,a5,z⟩,fun _ _ hz=>hz⟩
    refine yk J26 ?_ ?_
    ·skip
     refine zI ?_
     refine ze ?_
     refine zc U ?_
     refine za (zd (v:=.pointer x11) a21_5 ?_)
     refine za (zd (v:=.int .i64 x18) a21_1 ?_)
     refine za (zd (v:=.slice p1a p1n p1c) a21_2 ?_)
     refine za (zd (v:=.int .i64 x18) a21_1 ?_)
     obtain ⟨b30,o31,rfl,H⟩:=H
     obtain ⟨c29,H⟩:=H
     refine za (zC U U ei_23 c29 ?_)
     obtain ⟨x33,c34,H⟩:=H
     refine za (zk U ag_5 c34 ?_)
     refine za (op_conv U (congrArg (Option.map fun _=>()) un_5) un_3 U ?_)
     refine za (op_rem U U (by decide) U ?_)
     refine za (zV (vs:=[(0,.int .i64 ((IntKind.i64.wrap x33).tmod 4)),(1,.int .u64 1)]) (cs:=#[.int .i64 ((IntKind.i64.wrap x33).tmod 4),.int .u64 1]) z_39 fs_39 (zK U (zK U zR)) U ?_)
     refine za (zV (vs:=[(0,.agg #[.int .i64 ((IntKind.i64.wrap x33).tmod 4),.int .u64 1]),(2,.int .i64 2)]) (cs:=#[.int .i64 ((IntKind.i64.wrap x33).tmod 4),.int .u64 1,.int .i64 0,.int .i64 2]) z_41 fs_41 (zK U (zK U zR)) U ?_)
     refine za (zV (vs:=[(0,.int .i64 x18),(2,.int .u64 30),(4,.agg #[.int .i64 ((IntKind.i64.wrap x33).tmod 4),.int .u64 1,.int .i64 0,.int .i64 2])]) (cs:=#[.int .i64 x18,.int .i64 0,.int .u64 30,.int .i64 0,.int .i64 ((IntKind.i64.wrap x33).tmod 4),.int .u64 1,.int .i64 0,.int .i64 2]) z_43 fs_43 (zK U (zK U (zK U zR))) U ?_)
     refine za (zE (vs:=[.pointer x11,.agg #[.int .i64 x18,.int .i64 0,.int .u64 30,.int .i64 0,.int .i64 ((IntKind.i64.wrap x33).tmod 4),.int .u64 1,.int .i64 0,.int .i64 2]]) en_16 (zm U (zm U zw)) (CallsH.mono H ?_))
     clear H
     rintro _ h36 ⟨x38,rfl,H⟩
     refine za (op_eql U U ?_)
     refine zh ?_
     refine zx (decide (x38=0)) U ?_ ?_
     ·intro hb
      replace H:=H.1 (of_decide_eq_true hb)
      refine zc U ?_
      refine za (zd (v:=.int .i64 x17) a21_0 ?_)
      obtain ⟨c40,H⟩:=H
      refine za (yd U U (zS c40) ?_)
      refine za (zg (v:=.int .i64 (x17+1)) U ?_)
      refine zh ?_
      exact hin26 _ _ _ rfl a21_2 a21_3 a21_4 a21_5 a21_1 H
     ·intro hb
      replace H:=H.2 (of_decide_eq_false hb)
      refine zA ?_
      exact hin26 _ _ _ a21_0 a21_2 a21_3 a21_4 a21_5 a21_1 H
    ·clear H
     intro f h27 hf
     obtain ⟨x24,a26_0,a26_1,a26_2,a26_3,a26_4,a26_5,hJ⟩:=hout26 _ _ hf
     have H:=HR x24 h27 hJ
     refine zc U ?_
     refine za (zd (v:=.int .i64 x18) a26_5 ?_)
     obtain ⟨c28,H⟩:=H
     refine za (yd U U (zS c28) ?_)
     refine za (zg (v:=.int .i64 (x18+1)) U ?_)
     refine zh ?_
     exact And.intro (hin21 _ _ _ _ a26_0 rfl a26_1 a26_2 a26_3 a26_4 H.1) (yi (hmu21 _ _ _ _ a26_0 rfl) (hmu21 _ _ _ _ a21_0 a21_1) H.2)
   ·intro hb
    replace H:=H.2 (of_decide_eq_false hb)
    refine zY ?_
    refine ze ?_
    refine zc U ?_
    refine za (zd (v:=.pointer x11) a21_5 ?_)
    refine za (zE (vs:=[.pointer x11]) en_17 (zm U zw) (CallsH.mono H ?_))
    clear H
    rintro _ h41 ⟨x43a,x43n,x43c,rfl,H⟩
    refine zh ?_
    refine ze ?_
    refine zc U ?_
    refine za (zg (v:=.slice none 0 0) U ?_)
    refine zh ?_
    refine ze ?_
    refine ze ?_
    refine zc U ?_
    refine za (zg (v:=.int .i64 0) U ?_)
    refine zh ?_
    refine zI ?_
    obtain ⟨I46,mu47,hI,H⟩:=H
    obtain ⟨I48,mu48,hin48,hout48,hmu48⟩ : ∃ (J48:Fr→Heap→Prop) (m:Fr→Heap→Nat),(∀ f hz (x44a:Option Addr) (x44n:Nat) (x44c:Nat) (x45:Int),f 12 = .slice x44a x44n x44c→f 13 = .int .i64 x45→f 2 = .int .u8 p2→f 7 = .pointer x6→f 8 = .pointer x11→f 10 = .int .i64 x17→I46 x44a x44n x44c x45 hz→J48 f hz)∧(∀ f hz,J48 f hz→∃ (x44a:Option Addr) (x44n:Nat) (x44c:Nat) (x45:Int),f 12 = .slice x44a x44n x44c∧f 13 = .int .i64 x45∧f 2 = .int .u8 p2∧f 7 = .pointer x6∧f 8 = .pointer x11∧f 10 = .int .i64 x17∧I46 x44a x44n x44c x45 hz)∧(∀ f hz (x44a:Option Addr) (x44n:Nat) (x44c:Nat) (x45:Int),f 12 = .slice x44a x44n x44c→f 13 = .int .i64 x45→m f hz=mu47 x44a x44n x44c x45 hz):=⟨fun f hz=>∃ (x44a:Option Addr) (x44n:Nat) (x44c:Nat) (x45:Int),f 12 = .slice x44a x44n x44c∧f 13 = .int .i64 x45∧f 2 = .int .u8 p2∧f 7 = .pointer x6∧f 8 = .pointer x11∧f 10 = .int .i64 x17∧I46 x44a x44n x44c x45 hz,fun f hz=>mu47 (dSlA (f 12)) (dSlN (f 12)) (dSlC (f 12)) (dInt (f 13)) hz,fun _ _ x44a x44n x44c x45 a0 a1 a2 a3 a4 a5 z=>⟨x44a,x44n,x44c,x45,a0,a1,a2,a3,a4,a5,z⟩,fun _ _ hz=>hz,fun f hz x44a x44n x44c x45 a0 a1=>by simp only [a0,a1]; rfl⟩
    refine zZ I48 mu48 (hin48 _ _ _ _ _ _ U U a21_3 a21_4 a21_5 a21_0 hI) ?_
    clear hI
    intro f h49 hf
    obtain ⟨x44a,x44n,x44c,x45,a48_0,a48_1,a48_2,a48_3,a48_4,a48_5,hJ⟩:=hout48 _ _ hf
    replace H:=H x44a x44n x44c x45 h49 hJ
    refine ze ?_
    refine ze ?_
    refine zc U ?_
    refine za (zd (v:=.int .i64 x45) a48_1 ?_)
    refine za (zd (v:=.int .u8 p2) a48_2 ?_)
    refine za (op_conv U (congrArg (Option.map fun _=>()) un_5) un_3 U ?_)
    refine za (op_rem U U (by decide) U ?_)
    refine za (zW U U ?_)
    refine zh ?_
    refine zx (decide (x45<((IntKind.i64.wrap p2).tmod 5))) U ?_ ?_
    ·intro hb
     replace H:=H.1 (of_decide_eq_true hb)
     refine zA ?_
     obtain ⟨J53,HR,H⟩:=H
     obtain ⟨J54,hin54,hout54⟩ : ∃ J54:Fr→Heap→Prop,(∀ f hz (x52a:Option Addr) (x52n:Nat) (x52c:Nat),f 12 = .slice x52a x52n x52c→f 2 = .int .u8 p2→f 7 = .pointer x6→f 8 = .pointer x11→f 10 = .int .i64 x17→f 13 = .int .i64 x45→J53 x52a x52n x52c hz→J54 f hz)∧(∀ f hz,J54 f hz→∃ (x52a:Option Addr) (x52n:Nat) (x52c:Nat),f 12 = .slice x52a x52n x52c∧f 2 = .int .u8 p2∧f 7 = .pointer x6∧f 8 = .pointer x11∧f 10 = .int .i64 x17∧f 13 = .int .i64 x45∧J53 x52a x52n x52c hz):=⟨fun f hz=>∃ (x52a:Option Addr) (x52n:Nat) (x52c:Nat),f 12 = .slice x52a x52n x52c∧f 2 = .int .u8 p2∧f 7 = .pointer x6∧f 8 = .pointer x11∧f 10 = .int .i64 x17∧f 13 = .int .i64 x45∧J53 x52a x52n x52c hz,fun _ _ x52a x52n x52c a0 a1 a2 a3 a4 a5 z=>⟨x52a,x52n,x52c,a0,a1,a2,a3,a4,a5,z⟩,fun _ _ hz=>hz⟩
     refine yk J54 ?_ ?_
     ·skip
      refine zI ?_
      refine ze ?_
      refine zc U ?_
      refine za (zd (v:=.pointer x11) a48_4 ?_)
      refine za (zE (vs:=[.pointer x11]) en_25 (zm U zw) (CallsH.mono H ?_))
      clear H
      rintro _ h57 ⟨x59,x60_0,x60_1,x60_2,x60_3,x60_4,x60_5,x60_6,x60_7,x60_8,x61,rfl,H⟩
      refine za (zd (v:=.tuple #[.int .i64 x59,.agg #[.int .i64 x60_0,.int .i64 x60_1,.int .i64 x60_2,.int .u64 x60_3,.int .i64 x60_4,.int .i64 x60_5,.bool x60_6,.bool x60_7,.int .i64 x60_8],.int .i64 x61]) U ?_)
      refine za (zz U U ?_)
      refine za (zz U U ?_)
      refine za (zz U U ?_)
      obtain ⟨h62,c63⟩ : ∃ h62,h62=h57.push (.cells #[.int .i64 0,.int .i64 0,.int .i64 0,.int .u64 0,.int .i64 0,.int .i64 0,.bool false,.bool false,.int .i64 0] 63 (0,0)):=⟨_,rfl⟩
      replace H:=H h62 c63
      refine za (zU z_63 c63 ?_)
      refine za (zg (v:=.int .i64 x59) U ?_)
      obtain ⟨h65,c64,H⟩:=H
      refine za (zG (v:=.agg #[.int .i64 x60_0,.int .i64 x60_1,.int .i64 x60_2,.int .u64 x60_3,.int .i64 x60_4,.int .i64 x60_5,.bool x60_6,.bool x60_7,.int .i64 x60_8]) U U sz_63 U c64 ?_)
      refine za (zg (v:=.int .i64 x61) U ?_)
      refine zh ?_
      refine ze ?_
      refine zc U ?_
      refine za (zd (v:=.int .i64 x61) U ?_)
      refine za (op_eql U U ?_)
      refine zh ?_
      refine zx (decide (x61=0)) U ?_ ?_
      ·intro hb
       replace H:=H.1 (of_decide_eq_true hb)
       refine zc U ?_
       refine za (zd (v:=.slice x44a x44n x44c) a48_0 ?_)
       refine za (zd (v:=.int .i64 x59) U ?_)
       obtain ⟨h67,c68⟩ : ∃ h67,h67=h65.push (.cells #[.int .i64 x59] 3 (0,0)):=⟨_,rfl⟩
       replace H:=H h67 c68
       refine za (ye (cs:=#[.int .i64 x59]) (vs:=[(0,.int .i64 x59)]) (zl:=[.int .i64 0]) ri_34 (by decide) U U (zK U zR) U c68 ?_)
       refine za (op_append' (src:=(Value.slice (some ⟨h65.size,0,none⟩) 1 1)) (news:=[.int .i64 x59]) ri_34 (.inl ⟨_,un_34⟩) U U U (first_fresh c68 U U U) (appH.mono H ?_))
       clear H
       intro a73 n74 q75 h76 H
       refine za (zg (v:=.slice a73 n74 q75) U ?_)
       refine zh ?_
       exact hin54 _ _ _ _ _ rfl a48_2 a48_3 a48_4 a48_5 a48_1 H
      ·intro hb
       replace H:=H.2 (of_decide_eq_false hb)
       refine zA ?_
       exact hin54 _ _ _ _ _ a48_0 a48_2 a48_3 a48_4 a48_5 a48_1 H
     ·clear H
      intro f h55 hf
      obtain ⟨x52a,x52n,x52c,a54_0,a54_1,a54_2,a54_3,a54_4,a54_5,hJ⟩:=hout54 _ _ hf
      have H:=HR x52a x52n x52c h55 hJ
      refine zc U ?_
      refine za (zd (v:=.int .i64 x45) a54_5 ?_)
      obtain ⟨c56,H⟩:=H
      refine za (yd U U (zS c56) ?_)
      refine za (zg (v:=.int .i64 (x45+1)) U ?_)
      refine zh ?_
      exact And.intro (hin48 _ _ _ _ _ _ a54_0 rfl a54_1 a54_2 a54_3 a54_4 H.1) (yi (hmu48 _ _ _ _ _ _ a54_0 rfl) (hmu48 _ _ _ _ _ _ a48_0 a48_1) H.2)
    ·intro hb
     replace H:=H.2 (of_decide_eq_false hb)
     refine zY ?_
     refine ze ?_
     refine zc U ?_
     refine za (zd (v:=.pointer x11) a48_4 ?_)
     refine za (zE (vs:=[.pointer x11,.int .u64 25]) en_29 (zm U (zm U zw)) (CallsH.mono H ?_))
     clear H
     rintro _ h77 ⟨x79a,x79n,x79c,x80,rfl,H⟩
     refine za (zd (v:=.tuple #[.slice x79a x79n x79c,.int .i64 x80]) U ?_)
     refine za (zz U U ?_)
     refine za (zz U U ?_)
     refine za (zg (v:=.slice x79a x79n x79c) U ?_)
     refine za (zg (v:=.int .i64 x80) U ?_)
     refine zh ?_
     refine ze ?_
     refine ze ?_
     refine zc U ?_
     refine za (zd (v:=.int .i64 x80) U ?_)
     refine za (op_neq U U ?_)
     refine za (zd (v:=.bool (!decide (x80=0))) U ?_)
     refine zD (b:=!(!decide (x80=0))) (zi U U) (Value.slice x79a x79n x79c) (fun hb N hN=>zd (v:=.slice x79a x79n x79c) U hN) ?_
     refine zD (b:=!(!decide (x80=0))) (zi U U) (Value.int .i64 (x79n:Int)) (fun hb N hN=>zL (gv hb) un_70 hN) ?_
     refine zD (b:=!(!decide (x80=0))) (zi U U) (Value.int .i64 x17) (fun hb N hN=>zd (v:=.int .i64 x17) a48_5 hN) ?_
     refine zD (b:=!(!decide (x80=0))) (zi U U) (Value.bool (!decide ((x79n:Int)=x17))) (fun hb N hN=>op_neq (gv hb) (gv hb) hN) ?_
     refine za (zP U U (fun hq=>(gv (zN hq))) ?_)
     refine zh ?_
     refine zx ((!decide (x80=0)) || (!decide ((x79n:Int)=x17))) U ?_ ?_
     ·intro hb
      replace H:=H.1 hb
      refine ze ?_
      refine zc U ?_
      refine za (zg (v:=.bool false) U ?_)
      refine zh ?_
      refine zv ?_
      exact zt (zo U zs) H
     ·intro hb
      replace H:=H.2 hb
      refine zA ?_
      refine ze ?_
      refine ze ?_
      refine zc U ?_
      refine za (zg (v:=.int .i64 0) U ?_)
      refine zh ?_
      refine zI ?_
      obtain ⟨I84,mu85,hI,H⟩:=H
      obtain ⟨I86,mu86,hin86,hout86,hmu86⟩ : ∃ (J86:Fr→Heap→Prop) (m:Fr→Heap→Nat),(∀ f hz (x83:Int),f 19 = .int .i64 x83→f 7 = .pointer x6→f 8 = .pointer x11→f 12 = .slice x44a x44n x44c→f 17 = .slice x79a x79n x79c→I84 x83 hz→J86 f hz)∧(∀ f hz,J86 f hz→∃ (x83:Int),f 19 = .int .i64 x83∧f 7 = .pointer x6∧f 8 = .pointer x11∧f 12 = .slice x44a x44n x44c∧f 17 = .slice x79a x79n x79c∧I84 x83 hz)∧(∀ f hz (x83:Int),f 19 = .int .i64 x83→m f hz=mu85 x83 hz):=⟨fun f hz=>∃ (x83:Int),f 19 = .int .i64 x83∧f 7 = .pointer x6∧f 8 = .pointer x11∧f 12 = .slice x44a x44n x44c∧f 17 = .slice x79a x79n x79c∧I84 x83 hz,fun f hz=>mu85 (dInt (f 19)) hz,fun _ _ x83 a0 a1 a2 a3 a4 z=>⟨x83,a0,a1,a2,a3,a4,z⟩,fun _ _ hz=>hz,fun f hz x83 a0=>by simp only [a0]; rfl⟩
      refine zZ I86 mu86 (hin86 _ _ _ U a48_3 a48_4 a48_0 U hI) ?_
      clear hI
      intro f h87 hf
      obtain ⟨x83,a86_0,a86_1,a86_2,a86_3,a86_4,hJ⟩:=hout86 _ _ hf
      replace H:=H x83 h87 hJ
      refine ze ?_
      refine ze ?_
      refine zc U ?_
      refine za (zd (v:=.int .i64 x83) a86_0 ?_)
      refine za (zd (v:=.slice x79a x79n x79c) a86_4 ?_)
      refine za (zL U un_70 ?_)
      refine za (zW U U ?_)
      refine zh ?_
      refine zx (decide (x83<(x79n:Int))) U ?_ ?_
      ·intro hb
       replace H:=H.1 (of_decide_eq_true hb)
       refine zA ?_
       refine ze ?_
       refine zI ?_
       refine ze ?_
       refine zc U ?_
       refine za (zd (v:=.slice x79a x79n x79c) a86_4 ?_)
       refine za (zd (v:=.int .i64 x83) a86_0 ?_)
       obtain ⟨b90,o91,rfl,H⟩:=H
       obtain ⟨c89,H⟩:=H
       refine za (zC U U ei_70 c89 ?_)
       refine za (zf U fo_74_1 ?_)
       obtain ⟨x93,c94,H⟩:=H
       refine za (zk U ag_3 c94 ?_)
       refine za (op_neq U U ?_)
       refine za (zd (v:=.bool (!decide (x93=2))) U ?_)
       refine zD (b:=!(!decide (x93=2))) (zi U U) (Value.slice (some ⟨b90,o91,none⟩) x79n x79c) (fun hb N hN=>zd (v:=.slice (some ⟨b90,o91,none⟩) x79n x79c) a86_4 hN) ?_
       refine zD (b:=!(!decide (x93=2))) (zi U U) (Value.int .i64 x83) (fun hb N hN=>zd (v:=.int .i64 x83) a86_0 hN) ?_
       obtain ⟨c96,H⟩:=H
       refine zD (b:=!(!decide (x93=2))) (zi U U) (Value.pointer (some ⟨b90,o91+x83.toNat * 3,none⟩)) (fun hb N hN=>zC (gv hb) (gv hb) ei_70 (c96 (of_decide_eq_true (zJ (zr hb)))) hN) ?_
       refine zD (b:=!(!decide (x93=2))) (zi U U) (Value.pointer (some ⟨b90,o91+x83.toNat * 3+2,none⟩)) (fun hb N hN=>zf (gv hb) fo_74_2 hN) ?_
       obtain ⟨x97,c98,H⟩:=H
       refine zD (b:=!(!decide (x93=2))) (zi U U) (Value.int .i64 x97) (fun hb N hN=>zk (gv hb) ag_3 (c98 (of_decide_eq_true (zJ (zr hb)))) hN) ?_
       refine zD (b:=!(!decide (x93=2))) (zi U U) (Value.bool (!decide (x97=1))) (fun hb N hN=>op_neq (gv hb) U hN) ?_
       refine za (zP U U (fun hq=>(gv (zN hq))) ?_)
       refine zh ?_
       refine zx ((!decide (x93=2)) || (!decide (x97=1))) U ?_ ?_
       ·intro hb
        replace H:=H.1 hb
        refine ze ?_
        refine zc U ?_
        refine za (zg (v:=.bool false) U ?_)
        refine zh ?_
        refine zv ?_
        exact zt (zo U zs) H
       ·intro hb
        replace H:=H.2 hb
        refine zA ?_
        refine zc U ?_
        refine za (zd (v:=.int .i64 x83) a86_0 ?_)
        obtain ⟨c100,H⟩:=H
        refine za (yd U U (zS c100) ?_)
        refine za (zg (v:=.int .i64 (x83+1)) U ?_)
        refine zh ?_
        exact And.intro (hin86 _ _ _ rfl a86_1 a86_2 a86_3 a86_4 H.1) (yi (hmu86 _ _ _ rfl) (hmu86 _ _ _ a86_0) H.2)
      ·intro hb
       replace H:=H.2 (of_decide_eq_false hb)
       refine zY ?_
       refine ze ?_
       refine ze ?_
       refine zc U ?_
       refine za (zg (v:=.int .i64 0) U ?_)
       refine zh ?_
       refine zI ?_
       obtain ⟨I102,mu103,hI,H⟩:=H
       obtain ⟨I104,mu104,hin104,hout104,hmu104⟩ : ∃ (J104:Fr→Heap→Prop) (m:Fr→Heap→Nat),(∀ f hz (x101:Int),f 20 = .int .i64 x101→f 7 = .pointer x6→f 8 = .pointer x11→f 12 = .slice x44a x44n x44c→I102 x101 hz→J104 f hz)∧(∀ f hz,J104 f hz→∃ (x101:Int),f 20 = .int .i64 x101∧f 7 = .pointer x6∧f 8 = .pointer x11∧f 12 = .slice x44a x44n x44c∧I102 x101 hz)∧(∀ f hz (x101:Int),f 20 = .int .i64 x101→m f hz=mu103 x101 hz):=⟨fun f hz=>∃ (x101:Int),f 20 = .int .i64 x101∧f 7 = .pointer x6∧f 8 = .pointer x11∧f 12 = .slice x44a x44n x44c∧I102 x101 hz,fun f hz=>mu103 (dInt (f 20)) hz,fun _ _ x101 a0 a1 a2 a3 z=>⟨x101,a0,a1,a2,a3,z⟩,fun _ _ hz=>hz,fun f hz x101 a0=>by simp only [a0]; rfl⟩
       refine zZ I104 mu104 (hin104 _ _ _ U a86_1 a86_2 a86_3 hI) ?_
       clear hI
       intro f h105 hf
       obtain ⟨x101,a104_0,a104_1,a104_2,a104_3,hJ⟩:=hout104 _ _ hf
       replace H:=H x101 h105 hJ
       refine ze ?_
       refine ze ?_
       refine zc U ?_
       refine za (zd (v:=.int .i64 x101) a104_0 ?_)
       refine za (zd (v:=.slice x44a x44n x44c) a104_3 ?_)
       refine za (zL U un_34 ?_)
       refine za (zW U U ?_)
       refine zh ?_
       refine zx (decide (x101<(x44n:Int))) U ?_ ?_
       ·intro hb
        replace H:=H.1 (of_decide_eq_true hb)
        refine zA ?_
        refine ze ?_
        refine zI ?_
        refine ze ?_
        refine zc U ?_
        refine za (zd (v:=.pointer x11) a104_2 ?_)
        refine za (zd (v:=.slice x44a x44n x44c) a104_3 ?_)
        refine za (zd (v:=.int .i64 x101) a104_0 ?_)
        obtain ⟨b108,o109,rfl,H⟩:=H
        obtain ⟨c107,H⟩:=H
        refine za (zC U U ei_34 c107 ?_)
        obtain ⟨x111,c112,H⟩:=H
        refine za (zk U ag_3 c112 ?_)
        obtain ⟨h113,c114⟩ : ∃ h113,h113=h105.push (.cells #[.int .u8 9] 5 (0,0)):=⟨_,rfl⟩
        replace H:=H h113 c114
        refine za (ye (cs:=#[.int .u8 9]) (vs:=[(0,.int .u8 9)]) (zl:=[.int .u8 0]) ri_23 (by decide) U U (zK U zR) U c114 ?_)
        refine za (zE (vs:=[.pointer x11,.int .i64 x111,.int .i64 0,.slice (some ⟨h105.size,0,none⟩) 1 1]) en_26 (zm U (zm U (zm U (zm U zw)))) (CallsH.mono H ?_))
        clear H
        rintro _ h115 ⟨x117,rfl,H⟩
        refine za (op_neq U U ?_)
        refine za (zd (v:=.bool (!decide (x117=12))) U ?_)
        refine zD (b:=!(!decide (x117=12))) (zi U U) (Value.pointer x11) (fun hb N hN=>zd (v:=.pointer x11) a104_2 hN) ?_
        refine zD (b:=!(!decide (x117=12))) (zi U U) (Value.slice (some ⟨b108,o109,none⟩) x44n x44c) (fun hb N hN=>zd (v:=.slice (some ⟨b108,o109,none⟩) x44n x44c) a104_3 hN) ?_
        refine zD (b:=!(!decide (x117=12))) (zi U U) (Value.int .i64 x101) (fun hb N hN=>zd (v:=.int .i64 x101) a104_0 hN) ?_
        obtain ⟨c119,H⟩:=H
        refine zD (b:=!(!decide (x117=12))) (zi U U) (Value.pointer (some ⟨b108,o109+x101.toNat * 1,none⟩)) (fun hb N hN=>zC (gv hb) (gv hb) ei_34 (c119 (of_decide_eq_true (zJ (zr hb)))) hN) ?_
        obtain ⟨x120,c121,H⟩:=H
        refine zD (b:=!(!decide (x117=12))) (zi U U) (Value.int .i64 x120) (fun hb N hN=>zk (gv hb) ag_3 (c121 (of_decide_eq_true (zJ (zr hb)))) hN) ?_
        obtain ⟨J125,HR,HT,HF⟩:=H
        refine wpL_gl (b:=!(!decide (x117=12))) (zi U U) (fun v h122=>∃ (x124:Int),v=(bif !(!decide (x117=12)) then (Value.int .i64 x124) else undef)∧J125 x124 h122) ?_ ?_ ?_
        ·rintro _ h122 ⟨x124,rfl,hJ⟩
         have H:=HR x124 h122 hJ
         refine zD (b:=!(!decide (x117=12))) (zi U U) (Value.bool (!decide (x124=0))) (fun hb N hN=>op_neq (gv hb) U hN) ?_
         refine za (zP U U (fun hq=>(gv (zN hq))) ?_)
         refine zh ?_
         refine zx ((!decide (x117=12)) || (!decide (x124=0))) U ?_ ?_
         ·intro hb
          replace H:=H.1 hb
          refine ze ?_
          refine zc U ?_
          refine za (zg (v:=.bool false) U ?_)
          refine zh ?_
          refine zv ?_
          exact zt (zo U zs) H
         ·intro hb
          replace H:=H.2 hb
          refine zA ?_
          refine zc U ?_
          refine za (zd (v:=.int .i64 x101) a104_0 ?_)
          obtain ⟨c127,H⟩:=H
          refine za (yd U U (zS c127) ?_)
          refine za (zg (v:=.int .i64 (x101+1)) U ?_)
          refine zh ?_
          exact And.intro (hin104 _ _ _ rfl a104_1 a104_2 a104_3 H.1) (yi (hmu104 _ _ _ rfl) (hmu104 _ _ _ a104_0) H.2)
        ·intro hb
         refine zE (vs:=[.pointer x11,.int .i64 x120,.int .i64 1,.bool false]) en_28 (zm (gv hb) (zm (gv hb) (zm U (zm U zw)))) (CallsH.mono (HT (of_decide_eq_true (zJ (zr hb)))) ?_)
         rintro _ h122 ⟨x124,rfl,hJ⟩
         exact ⟨x124,zq hb,hJ⟩
        ·intro hb
         obtain ⟨x124,hJ⟩:=HF (of_decide_eq_false (zr (zJ hb)))
         exact ⟨x124,zn hb,hJ⟩
       ·intro hb
        replace H:=H.2 (of_decide_eq_false hb)
        refine zY ?_
        refine ze ?_
        refine ze ?_
        refine zc U ?_
        refine za (zg (v:=.int .i64 0) U ?_)
        refine zh ?_
        refine zI ?_
        obtain ⟨I129,mu130,hI,H⟩:=H
        obtain ⟨I131,mu131,hin131,hout131,hmu131⟩ : ∃ (J131:Fr→Heap→Prop) (m:Fr→Heap→Nat),(∀ f hz (x128:Int),f 21 = .int .i64 x128→f 7 = .pointer x6→f 8 = .pointer x11→f 12 = .slice x44a x44n x44c→I129 x128 hz→J131 f hz)∧(∀ f hz,J131 f hz→∃ (x128:Int),f 21 = .int .i64 x128∧f 7 = .pointer x6∧f 8 = .pointer x11∧f 12 = .slice x44a x44n x44c∧I129 x128 hz)∧(∀ f hz (x128:Int),f 21 = .int .i64 x128→m f hz=mu130 x128 hz):=⟨fun f hz=>∃ (x128:Int),f 21 = .int .i64 x128∧f 7 = .pointer x6∧f 8 = .pointer x11∧f 12 = .slice x44a x44n x44c∧I129 x128 hz,fun f hz=>mu130 (dInt (f 21)) hz,fun _ _ x128 a0 a1 a2 a3 z=>⟨x128,a0,a1,a2,a3,z⟩,fun _ _ hz=>hz,fun f hz x128 a0=>by simp only [a0]; rfl⟩
        refine zZ I131 mu131 (hin131 _ _ _ U a104_1 a104_2 a104_3 hI) ?_
        clear hI
        intro f h132 hf
        obtain ⟨x128,a131_0,a131_1,a131_2,a131_3,hJ⟩:=hout131 _ _ hf
        replace H:=H x128 h132 hJ
        refine ze ?_
        refine ze ?_
        refine zc U ?_
        refine za (zd (v:=.int .i64 x128) a131_0 ?_)
        refine za (zW U U ?_)
        refine zh ?_
        refine zx (decide (x128<4)) U ?_ ?_
        ·intro hb
         replace H:=H.1 (of_decide_eq_true hb)
         refine zA ?_
         refine ze ?_
         refine zI ?_
         refine ze ?_
         refine zc U ?_
         refine za (zd (v:=.int .i64 x128) a131_0 ?_)
         refine za (zV (vs:=[(0,.int .i64 x128),(1,.int .u64 1)]) (cs:=#[.int .i64 x128,.int .u64 1]) z_39 fs_39 (zK U (zK U zR)) U ?_)
         obtain ⟨h134,c135⟩ : ∃ h134,h134=h132.push (.cells #[.int .i64 0,.int .u64 0] 39 (0,0)):=⟨_,rfl⟩
         replace H:=H h134 c135
         refine za (zU z_39 c135 ?_)
         obtain ⟨h137,c136,H⟩:=H
         refine za (zG (v:=.agg #[.int .i64 x128,.int .u64 1]) U U sz_39 U c136 ?_)
         refine zh ?_
         refine ze ?_
         refine zc U ?_
         refine za (zd (v:=.pointer x6) a131_1 ?_)
         obtain ⟨x138_0,x138_1,c139,H⟩:=H
         refine za (zQ U ag_39 c139 ?_)
         refine za (zE (vs:=[.pointer x6,.agg #[.int .i64 x138_0,.int .u64 x138_1],.int .i64 0,.int .i64 1]) en_20 (zm U (zm U (zm U (zm U zw)))) (CallsH.mono H ?_))
         clear H
         rintro _ h140 ⟨x142a,x142n,x142c,x143,rfl,H⟩
         refine za (zd (v:=.tuple #[.slice x142a x142n x142c,.int .i64 x143]) U ?_)
         refine za (zz U U ?_)
         refine za (zz U U ?_)
         refine za (zg (v:=.slice x142a x142n x142c) U ?_)
         refine za (zg (v:=.int .i64 x143) U ?_)
         refine zh ?_
         refine ze ?_
         refine zc U ?_
         refine za (zd (v:=.pointer x6) a131_1 ?_)
         obtain ⟨x144_0,x144_1,c145,H⟩:=H
         refine za (zQ U ag_39 c145 ?_)
         refine za (zE (vs:=[.pointer x6,.agg #[.int .i64 x144_0,.int .u64 x144_1]]) en_27 (zm U (zm U zw)) (CallsH.mono H ?_))
         clear H
         rintro _ h146 ⟨x148,x149,x150,rfl,H⟩
         refine za (zd (v:=.tuple #[.int .i64 x148,.int .i64 x149,.int .i64 x150]) U ?_)
         refine za (zz U U ?_)
         refine za (zz U U ?_)
         refine za (zz U U ?_)
         refine za (zg (v:=.int .i64 x148) U ?_)
         refine za (zg (v:=.int .i64 x149) U ?_)
         refine za (zg (v:=.int .i64 x150) U ?_)
         refine zh ?_
         refine ze ?_
         refine zc U ?_
         refine za (zd (v:=.int .i64 x148) U ?_)
         refine za (op_neq U U ?_)
         refine za (zd (v:=.bool (!decide (x148=1))) U ?_)
         refine zD (b:=!(!decide (x148=1))) (zi U U) (Value.slice x142a x142n x142c) (fun hb N hN=>zd (v:=.slice x142a x142n x142c) U hN) ?_
         obtain ⟨b153,o154,c155,H⟩:=H
         obtain ⟨c152,H⟩:=H
         refine zD (b:=!(!decide (x148=1))) (zi U U) (Value.pointer (some ⟨b153,o154,none⟩)) (fun hb N hN=>zC (Eq.trans (gv hb) (congrArg (fun a=>Value.slice a x142n x142c) (c155 (of_decide_eq_true (zJ (zr hb)))))) U ei_23 (c152 (of_decide_eq_true (zJ (zr hb)))) hN) ?_
         obtain ⟨x156,c157,H⟩:=H
         refine zD (b:=!(!decide (x148=1))) (zi U U) (Value.int .u8 x156) (fun hb N hN=>zk (gv hb) ag_5 (c157 (of_decide_eq_true (zJ (zr hb)))) hN) ?_
         refine zD (b:=!(!decide (x148=1))) (zi U U) (Value.bool (!decide (x156=0))) (fun hb N hN=>op_neq (gv hb) U hN) ?_
         refine za (zP U U (fun hq=>(gv (zN hq))) ?_)
         refine za (zd (v:=.bool ((!decide (x148=1)) || (!decide (x156=0)))) U ?_)
         refine zD (b:=!((!decide (x148=1)) || (!decide (x156=0)))) (zi U U) (Value.pointer x11) (fun hb N hN=>zd (v:=.pointer x11) a131_2 hN) ?_
         refine zD (b:=!((!decide (x148=1)) || (!decide (x156=0)))) (zi U U) (Value.int .i64 x128) (fun hb N hN=>zd (v:=.int .i64 x128) a131_0 hN) ?_
         refine zD (b:=!((!decide (x148=1)) || (!decide (x156=0)))) (zi U U) (Value.int .i64 (IntKind.i64.wrap (50+x128))) (fun hb N hN=>yd U (gv hb) U hN) ?_
         obtain ⟨x160_0,x160_1,c161,H⟩:=H
         refine zD (b:=!((!decide (x148=1)) || (!decide (x156=0)))) (zi U U) (Value.agg #[.int .i64 x160_0,.int .u64 x160_1]) (fun hb N hN=>zQ U ag_39 (c161 (zr hb)) hN) ?_
         refine zD (b:=!((!decide (x148=1)) || (!decide (x156=0)))) (zi U U) (Value.agg #[.int .i64 x160_0,.int .u64 x160_1,.int .i64 0,.int .i64 1]) (fun hb N hN=>zV (vs:=[(0,.agg #[.int .i64 x160_0,.int .u64 x160_1]),(2,.int .i64 1)]) (cs:=#[.int .i64 x160_0,.int .u64 x160_1,.int .i64 0,.int .i64 1]) z_41 fs_41 (zK (gv hb) (zK U zR)) U hN) ?_
         refine zD (b:=!((!decide (x148=1)) || (!decide (x156=0)))) (zi U U) (Value.agg #[.int .i64 (IntKind.i64.wrap (50+x128)),.int .i64 0,.int .u64 60,.int .i64 0,.int .i64 x160_0,.int .u64 x160_1,.int .i64 0,.int .i64 1]) (fun hb N hN=>zV (vs:=[(0,.int .i64 (IntKind.i64.wrap (50+x128))),(2,.int .u64 60),(4,.agg #[.int .i64 x160_0,.int .u64 x160_1,.int .i64 0,.int .i64 1])]) (cs:=#[.int .i64 (IntKind.i64.wrap (50+x128)),.int .i64 0,.int .u64 60,.int .i64 0,.int .i64 x160_0,.int .u64 x160_1,.int .i64 0,.int .i64 1]) z_43 fs_43 (zK (gv hb) (zK U (zK (gv hb) zR))) U hN) ?_
         obtain ⟨J165,HR,HT,HF⟩:=H
         refine wpL_gl (b:=!((!decide (x148=1)) || (!decide (x156=0)))) (zi U U) (fun v h162=>∃ (x164:Int),v=(bif !((!decide (x148=1)) || (!decide (x156=0))) then (Value.int .i64 x164) else undef)∧J165 x164 h162) ?_ ?_ ?_
         ·rintro _ h162 ⟨x164,rfl,hJ⟩
          have H:=HR x164 h162 hJ
          refine zD (b:=!((!decide (x148=1)) || (!decide (x156=0)))) (zi U U) (Value.bool (!decide (x164=0))) (fun hb N hN=>op_neq (gv hb) U hN) ?_
          refine za (zP U U (fun hq=>(gv (zN hq))) ?_)
          refine zh ?_
          refine zx (((!decide (x148=1)) || (!decide (x156=0))) || (!decide (x164=0))) U ?_ ?_
          ·intro hb
           replace H:=H.1 hb
           refine ze ?_
           refine zc U ?_
           refine za (zg (v:=.bool false) U ?_)
           refine zh ?_
           refine zv ?_
           exact zt (zo U zs) H
          ·intro hb
           replace H:=H.2 hb
           refine zA ?_
           refine zc U ?_
           refine za (zd (v:=.int .i64 x128) a131_0 ?_)
           obtain ⟨c167,H⟩:=H
           refine za (yd U U (zS c167) ?_)
           refine za (zg (v:=.int .i64 (x128+1)) U ?_)
           refine zh ?_
           exact And.intro (hin131 _ _ _ rfl a131_1 a131_2 a131_3 H.1) (yi (hmu131 _ _ _ rfl) (hmu131 _ _ _ a131_0) H.2)
         ·intro hb
          refine zE (vs:=[.pointer x11,.agg #[.int .i64 (IntKind.i64.wrap (50+x128)),.int .i64 0,.int .u64 60,.int .i64 0,.int .i64 x160_0,.int .u64 x160_1,.int .i64 0,.int .i64 1]]) en_16 (zm (gv hb) (zm (gv hb) zw)) (CallsH.mono (HT (zr hb)) ?_)
          rintro _ h162 ⟨x164,rfl,hJ⟩
          exact ⟨x164,zq hb,hJ⟩
         ·intro hb
          obtain ⟨x164,hJ⟩:=HF (zJ hb)
          exact ⟨x164,zn hb,hJ⟩
        ·intro hb
         replace H:=H.2 (of_decide_eq_false hb)
         refine zY ?_
         refine ze ?_
         refine ze ?_
         refine zc U ?_
         refine za (zg (v:=.int .i64 0) U ?_)
         refine zh ?_
         refine zI ?_
         obtain ⟨I169,mu170,hI,H⟩:=H
         obtain ⟨I171,mu171,hin171,hout171,hmu171⟩ : ∃ (J171:Fr→Heap→Prop) (m:Fr→Heap→Nat),(∀ f hz (x168:Int),f 28 = .int .i64 x168→f 8 = .pointer x11→f 12 = .slice x44a x44n x44c→I169 x168 hz→J171 f hz)∧(∀ f hz,J171 f hz→∃ (x168:Int),f 28 = .int .i64 x168∧f 8 = .pointer x11∧f 12 = .slice x44a x44n x44c∧I169 x168 hz)∧(∀ f hz (x168:Int),f 28 = .int .i64 x168→m f hz=mu170 x168 hz):=⟨fun f hz=>∃ (x168:Int),f 28 = .int .i64 x168∧f 8 = .pointer x11∧f 12 = .slice x44a x44n x44c∧I169 x168 hz,fun f hz=>mu170 (dInt (f 28)) hz,fun _ _ x168 a0 a1 a2 z=>⟨x168,a0,a1,a2,z⟩,fun _ _ hz=>hz,fun f hz x168 a0=>by simp only [a0]; rfl⟩
         refine zZ I171 mu171 (hin171 _ _ _ U a131_2 a131_3 hI) ?_
         clear hI
         intro f h172 hf
         obtain ⟨x168,a171_0,a171_1,a171_2,hJ⟩:=hout171 _ _ hf
         replace H:=H x168 h172 hJ
         refine ze ?_
         refine ze ?_
         refine zc U ?_
         refine za (zd (v:=.int .i64 x168) a171_0 ?_)
         refine za (zd (v:=.slice x44a x44n x44c) a171_2 ?_)
         refine za (zL U un_34 ?_)
         refine za (zW U U ?_)
         refine zh ?_
         refine zx (decide (x168<(x44n:Int))) U ?_ ?_
         ·intro hb
          replace H:=H.1 (of_decide_eq_true hb)
          refine zA ?_
          refine ze ?_
          refine zI ?_
          refine zc U ?_
          refine za (zd (v:=.pointer x11) a171_1 ?_)
          refine za (zE (vs:=[.pointer x11]) en_18 (zm U zw) (CallsH.mono H ?_))
          clear H
          rintro _ h174 ⟨x176,x177,rfl,H⟩
          refine zh ?_
          refine zc U ?_
          refine za (zd (v:=.int .i64 x168) a171_0 ?_)
          obtain ⟨c178,H⟩:=H
          refine za (yd U U (zS c178) ?_)
          refine za (zg (v:=.int .i64 (x168+1)) U ?_)
          refine zh ?_
          exact And.intro (hin171 _ _ _ rfl a171_1 a171_2 H.1) (yi (hmu171 _ _ _ rfl) (hmu171 _ _ _ a171_0) H.2)
         ·intro hb
          replace H:=H.2 (of_decide_eq_false hb)
          refine zY ?_
          refine ze ?_
          refine zc U ?_
          refine za (zd (v:=.pointer x11) a171_1 ?_)
          refine za (zE (vs:=[.pointer x11,.int .u64 26]) en_29 (zm U (zm U zw)) (CallsH.mono H ?_))
          clear H
          rintro _ h179 ⟨x181a,x181n,x181c,x182,rfl,H⟩
          refine za (zd (v:=.tuple #[.slice x181a x181n x181c,.int .i64 x182]) U ?_)
          refine za (zz U U ?_)
          refine za (zz U U ?_)
          refine za (zg (v:=.slice x181a x181n x181c) U ?_)
          refine za (zg (v:=.int .i64 x182) U ?_)
          refine zh ?_
          refine ze ?_
          refine zc U ?_
          refine za (zd (v:=.int .i64 x182) U ?_)
          refine za (op_eql U U ?_)
          refine za (zd (v:=.bool (decide (x182=0))) U ?_)
          refine zD (b:=decide (x182=0)) (zi U U) (Value.slice x181a x181n x181c) (fun hb N hN=>zd (v:=.slice x181a x181n x181c) U hN) ?_
          refine zD (b:=decide (x182=0)) (zi U U) (Value.int .i64 (x181n:Int)) (fun hb N hN=>zL (gv hb) un_70 hN) ?_
          refine zD (b:=decide (x182=0)) (zi U U) (Value.bool (decide ((x181n:Int)=0))) (fun hb N hN=>op_eql (gv hb) U hN) ?_
          refine za (zT U (fun hq=>(gv hq)) U ?_)
          refine za (zg (v:=.bool ((decide (x182=0)) && (decide ((x181n:Int)=0)))) U ?_)
          refine zh ?_
          refine zv ?_
          exact zt (zo U zs) H
end Go.Proofs.Vf
