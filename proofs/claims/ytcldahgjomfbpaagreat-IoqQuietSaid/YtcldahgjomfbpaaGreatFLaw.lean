/- Printed by a program of this claim: for each Go function named below a formula over the heap, and the proof that it gives the call of that function. No conditions. -/
import Derived.Test.YtcldahgjomfbpaaGreatBase
namespace Go.Proofs.Vf
open Go Go.Proofs Go.VC
set_option maxRecDepth 100000
set_option maxHeartbeats 4000000
set_option linter.unusedVariables false
def Gbs (K:Option Addr→Nat→Nat→Heap→Prop) (h:Heap):Prop:=
 ∀ (h1:Heap),h1=h.push (.cells #[.int .i64 8,.int .i64 3,.int .i64 20,.int .i64 2] 202 (0,0))→K (some ⟨h.size,0,none⟩) 2 2 h1
theorem Gbt (R:Value→Heap→Prop) (h:Heap) (H:Gbs  (fun r0a r0n r0c h'=>R (Value.slice r0a r0n r0c) h') h):CallsH PR Gj3 #[] h R:=by
 refine zD (args:=[]) Tryz.func34 U U ?_
 intro f hf
 clear hf
 unfold Gbs at H
 refine ze ?_
 refine zc U ?_
 refine za (zg (v:=.slice none 0 0) U ?_)
 refine zh ?_
 refine ze ?_
 refine zc U ?_
 refine za (zX (vs:=[(0,.int .i64 8),(1,.int .i64 3)]) (cs:=#[.int .i64 8,.int .i64 3]) z_202 fs_202 (zM U (zM U zT)) U ?_)
 refine za (zX (vs:=[(0,.int .i64 20),(1,.int .i64 2)]) (cs:=#[.int .i64 20,.int .i64 2]) z_202 fs_202 (zM U (zM U zT)) U ?_)
 obtain⟨h1,c2⟩ : ∃ h1,h1=h.push (.cells #[.int .i64 8,.int .i64 3,.int .i64 20,.int .i64 2] 202 (0,0)):=⟨_,rfl⟩
 replace H:=H h1 c2
 refine za (yg (cs:=#[.int .i64 8,.int .i64 3,.int .i64 20,.int .i64 2]) (vs:=[(0,.agg #[.int .i64 8,.int .i64 3]),(1,.agg #[.int .i64 20,.int .i64 2])]) (zl:=[.int .i64 0,.int .i64 0]) ri_86 (by decide) U U (zM U (zM U zT)) U c2 ?_)
 refine za (zg (v:=.slice (some ⟨h.size,0,none⟩) 2 2) U ?_)
 refine zh ?_
 refine zx ?_
 exact zv (zq U zu) H
def Gbu (K:Option Addr→Heap→Prop) (h:Heap):Prop:=
 CallsH PR Gj3 #[] h (fun v h1=>∃ (x3a:Option Addr) (x3n:Nat) (x3c:Nat),v=(Value.slice x3a x3n x3c)∧CallsH PR Glq #[.slice x3a x3n x3c] h1 (fun v h4=>∃ (x6:Option Addr) (x7:Int),v=(Value.tuple #[.pointer x6,.int .i64 x7])∧((x6.isNone || (!decide (x7=0)))=true→K none h4)∧((x6.isNone || (!decide (x7=0)))=false→∃ (I11:Int→Heap→Prop) (mu12:Int→Heap→Nat),I11 0 h4∧∀ (x10:Int) (h14:Heap),I11 x10 h14→(x10<4→CallsH PR Gls #[.pointer x6,.int .i64 1] h14 (fun v h16=>∃ (x18_0:Int) (x18_1:Int) (x19:Int),v=(Value.tuple #[.agg #[.int .i64 x18_0,.int .u64 x18_1],.int .i64 x19])∧(-9223372036854775808≤x10+1∧x10+1<9223372036854775808)∧(I11 (x10+1) h16∧mu12 (x10+1) h16<mu12 x10 h14)))∧((¬ (x10<4))→K x6 h14))))
theorem Gbv (R:Value→Heap→Prop) (h:Heap) (H:Gbu  (fun r0 h'=>R (Value.pointer r0) h') h):CallsH PR Gj4 #[] h R:=by
 refine zD (args:=[]) Tryz.func23 U U ?_
 intro f hf
 clear hf
 unfold Gbu at H
 refine ze ?_
 refine zc U ?_
 refine za (zg (v:=.pointer none) U ?_)
 refine zh ?_
 refine ze ?_
 refine zc U ?_
 refine za (zG (vs:=[]) en_34 zy (CallsH.mono H ?_))
 clear H
 rintro _ h1 ⟨x3a,x3n,x3c,rfl,H⟩
 refine za (zG (vs:=[.slice x3a x3n x3c]) en_57 (zm U zy) (CallsH.mono H ?_))
 clear H
 rintro _ h4 ⟨x6,x7,rfl,H⟩
 refine za (zd (v:=.tuple #[.pointer x6,.int .i64 x7]) U ?_)
 refine za (zB U U ?_)
 refine za (zB U U ?_)
 refine za (zg (v:=.pointer x6) U ?_)
 refine za (zg (v:=.int .i64 x7) U ?_)
 refine zh ?_
 refine ze ?_
 refine ze ?_
 refine zc U ?_
 refine za (zd (v:=.pointer x6) U ?_)
 refine za (op_eq_ptr_nil U U un_27 ?_)
 refine za (zd (v:=.bool x6.isNone) U ?_)
 refine zF (b:=!x6.isNone) (zi U U) (Z .i64 x7) (fun hb N hN=>zd (v:=.int .i64 x7) U hN) ?_
 refine zF (b:=!x6.isNone) (zi U U) (W (!decide (x7=0))) (fun hb N hN=>op_neq (gv hb) U hN) ?_
 refine za (zR U U (fun hq=>(gv (zP hq))) ?_)
 refine zh ?_
 refine zz (x6.isNone || (!decide (x7=0))) U ?_ ?_
 ·intro hb
  replace H:=H.1 hb
  refine ze ?_
  refine zc U ?_
  refine za (zg (v:=.pointer none) U ?_)
  refine zh ?_
  refine zx ?_
  exact zv (zq U zu) H
 ·intro hb
  replace H:=H.2 hb
  refine zC ?_
  refine ze ?_
  refine ze ?_
  refine zc U ?_
  refine za (zg (v:=.int .i64 0) U ?_)
  refine zh ?_
  refine zK ?_
  obtain⟨I11,mu12,hI,H⟩:=H
  obtain⟨I13,mu13,hin13,hout13,hmu13⟩ : ∃ (J13:Fr→Heap→Prop) (m:Fr→Heap→Nat),(∀ f hz (x10:Int),f 3 = .int .i64 x10→f 1 = .pointer x6→I11 x10 hz→J13 f hz)∧(∀ f hz,J13 f hz→∃ (x10:Int),f 3 = .int .i64 x10∧f 1 = .pointer x6∧I11 x10 hz)∧(∀ f hz (x10:Int),f 3 = .int .i64 x10→m f hz=mu12 x10 hz):=⟨fun f hz=>∃ (x10:Int),f 3 = .int .i64 x10∧f 1 = .pointer x6∧I11 x10 hz,fun f hz=>mu12 (dInt (f 3)) hz,fun _ _ x10 a0 a1 z=>⟨x10,a0,a1,z⟩,fun _ _ hz=>hz,fun f hz x10 a0=>by simp only [a0]; rfl⟩
  refine yb I13 mu13 (hin13 _ _ _ U U hI) ?_
  clear hI
  intro f h14 hf
  obtain⟨x10,a13_0,a13_1,hJ⟩:=hout13 _ _ hf
  replace H:=H x10 h14 hJ
  refine ze ?_
  refine ze ?_
  refine zc U ?_
  refine za (zd (v:=.int .i64 x10) a13_0 ?_)
  refine za (zY U U ?_)
  refine zh ?_
  refine zz (decide (x10<4)) U ?_ ?_
  ·intro hb
   replace H:=H.1 (zo hb)
   refine zC ?_
   refine ze ?_
   refine zK ?_
   refine zc U ?_
   refine za (zd (v:=.pointer x6) a13_1 ?_)
   refine za (zG (vs:=[.pointer x6,.int .i64 1]) en_61 (zm U (zm U zy)) (CallsH.mono H ?_))
   clear H
   rintro _ h16 ⟨x18_0,x18_1,x19,rfl,H⟩
   refine zh ?_
   refine zc U ?_
   refine za (zd (v:=.int .i64 x10) a13_0 ?_)
   obtain⟨c20,H⟩:=H
   refine za (yf U U (zU c20) ?_)
   refine za (zg (v:=.int .i64 (x10+1)) U ?_)
   refine zh ?_
   exact And.intro (hin13 _ _ _ rfl a13_1 H.1) (yk (hmu13 _ _ _ rfl) (hmu13 _ _ _ a13_0) H.2)
  ·intro hb
   replace H:=H.2 (zn hb)
   refine ya ?_
   refine ze ?_
   refine zc U ?_
   refine za (zd (v:=.pointer x6) a13_1 ?_)
   refine za (zg (v:=.pointer x6) U ?_)
   refine zh ?_
   refine zx ?_
   exact zv (zq U zu) H
def Gbq (K:Bool→Heap→Prop) (h:Heap):Prop:=
 CallsH PR Gj4 #[] h (fun v h1=>∃ (x3:Option Addr),v=(Value.pointer x3)∧(x3.isNone=true→K false h1)∧(x3.isNone=false→CallsH PR Gij #[.pointer x3,.int .i64 2,.int .u64 5] h1 (fun v h5=>∃ (x7:Option Addr) (x8:Int),v=(Value.tuple #[.pointer x7,.int .i64 x8])∧((x7.isNone || (!decide (x8=0)))=true→K false h5)∧((x7.isNone || (!decide (x8=0)))=false→∀ (h11:Heap),h11=h5.push (.cells #[.int .i64 0,.int .u64 0] 39 (0,0))→∃ (h14:Heap),stCells h5.size h11 0 [.int .i64 0,.int .u64 1]=some h14∧∃ (x15_0:Int) (x15_1:Int),ldCells h14 h5.size 0 2=some [.int .i64 x15_0,.int .u64 x15_1]∧CallsH PR Gie #[.pointer x7,.agg #[.int .i64 7,.int .i64 0,.int .u64 100,.int .i64 0,.int .i64 x15_0,.int .u64 x15_1,.int .i64 2,.int .i64 4]] h14 (fun v h17=>∃ (x19:Int),v=(Value.int .i64 x19)∧∃ (x20_0:Int) (x20_1:Int),ldCells h17 h5.size 0 2=some [.int .i64 x20_0,.int .u64 x20_1]∧CallsH PR Gie #[.pointer x7,.agg #[.int .i64 8,.int .i64 0,.int .u64 100,.int .i64 0,.int .i64 x20_0,.int .u64 x20_1,.int .i64 2,.int .i64 4]] h17 (fun v h22=>∃ (x24:Int),v=(Value.int .i64 x24)∧CallsH PR Gid #[.pointer x7] h22 (fun v h25=>∃ (x27a:Option Addr) (x27n:Nat) (x27c:Nat),v=(Value.slice x27a x27n x27c)∧CallsH PR Gif #[.pointer x7] h25 (fun v h28=>∃ (x30:Int) (x31_0:Int) (x31_1:Int) (x31_2:Int) (x31_3:Int) (x31_4:Int) (x31_5:Int) (x31_6:Bool) (x31_7:Bool) (x31_8:Int) (x32:Int),v=(Value.tuple #[.int .i64 x30,.agg #[.int .i64 x31_0,.int .i64 x31_1,.int .i64 x31_2,.int .u64 x31_3,.int .i64 x31_4,.int .i64 x31_5,.bool x31_6,.bool x31_7,.int .i64 x31_8],.int .i64 x32])∧∀ (h33:Heap),h33=h28.push (.cells #[.int .i64 0,.int .i64 0,.int .i64 0,.int .u64 0,.int .i64 0,.int .i64 0,.bool false,.bool false,.int .i64 0] 63 (0,0))→∃ (h36:Heap),stCells h28.size h33 0 [.int .i64 x31_0,.int .i64 x31_1,.int .i64 x31_2,.int .u64 x31_3,.int .i64 x31_4,.int .i64 x31_5,.bool x31_6,.bool x31_7,.int .i64 x31_8]=some h36∧∀ (h37:Heap),h37=h36.push (.cells #[.int .u8 97,.int .u8 98] 5 (0,0))→isBlk h37 h36.size∧∀ (h39:Heap),MarkH h36.size h37 h39→CallsH PR Gig #[.pointer x7,.int .i64 x30,.int .i64 1,.slice (some ⟨h36.size,0,none⟩) 2 2] h39 (fun v h42=>∃ (x44:Int),v=(Value.int .i64 x44)∧CallsH PR Gia #[.pointer x7,.int .i64 x30,.int .i64 9,.bool false] h42 (fun v h45=>∃ (x47:Int),v=(Value.int .i64 x47)∧CallsH PR Gic #[.pointer x7] h45 (fun v h48=>∃ (x50:Int) (x51:Int),v=(Value.tuple #[.int .i64 x50,.int .i64 x51])∧CallsH PR Gib #[.pointer x7,.int .u64 1] h48 (fun v h52=>∃ (x54a:Option Addr) (x54n:Nat) (x54c:Nat) (x55:Int),v=(Value.tuple #[.slice x54a x54n x54c,.int .i64 x55])∧∃ (x57_0:Int) (x57_1:Int),ldCells h52 h5.size 0 2=some [.int .i64 x57_0,.int .u64 x57_1]∧CallsH PR Glx #[.pointer x3,.agg #[.int .i64 x57_0,.int .u64 x57_1],.int .i64 3,.int .i64 2] h52 (fun v h59=>∃ (x61a:Option Addr) (x61n:Nat) (x61c:Nat) (x62:Int),v=(Value.tuple #[.slice x61a x61n x61c,.int .i64 x62])∧∃ (b72:Nat) (o73:Nat),((((((((((decide (x19=0)) && (decide (x24=8))) && (decide ((x27n:Int)=1))) && (decide (x32=0))) && (decide (x44=0))) && (decide (x50=7))) && (decide (x51=0))) && (decide ((x54n:Int)=1)))=true)→x54a=some ⟨b72,o73,none⟩)∧((((((((((decide (x19=0)) && (decide (x24=8))) && (decide ((x27n:Int)=1))) && (decide (x32=0))) && (decide (x44=0))) && (decide (x50=7))) && (decide (x51=0))) && (decide ((x54n:Int)=1)))=true)→0≤(0:Int)∧(0:Int)<(x54n:Int))∧∃ (x75_0:Int) (x75_1:Int) (x75_2:Int),((((((((((decide (x19=0)) && (decide (x24=8))) && (decide ((x27n:Int)=1))) && (decide (x32=0))) && (decide (x44=0))) && (decide (x50=7))) && (decide (x51=0))) && (decide ((x54n:Int)=1)))=true)→ldCells h59 b72 o73 3=some [.int .i64 x75_0,.int .i64 x75_1,.int .i64 x75_2])∧∃ (xs78:List Int),(((((((((((decide (x19=0)) && (decide (x24=8))) && (decide ((x27n:Int)=1))) && (decide (x32=0))) && (decide (x44=0))) && (decide (x50=7))) && (decide (x51=0))) && (decide ((x54n:Int)=1))) && ((decide (x75_0=7)) && ((decide (x75_1=1)) && ((decide (x75_2=9)) && true))))=true)→firstH h59 1 x61n (Value.slice x61a x61n x61c)=some (xs78.map (Value.int .u8)))∧K ((((((((((decide (x19=0)) && (decide (x24=8))) && (decide ((x27n:Int)=1))) && (decide (x32=0))) && (decide (x44=0))) && (decide (x50=7))) && (decide (x51=0))) && (decide ((x54n:Int)=1))) && ((decide (x75_0=7)) && ((decide (x75_1=1)) && ((decide (x75_2=9)) && true)))) && (decide ((strOfNums xs78)=(ByteArray.mk #[97,98])))) h59)))))))))))))
theorem Gbr (R:Value→Heap→Prop) (h:Heap) (H:Gbq  (fun r0 h'=>R (Value.bool r0) h') h):CallsH PR Gj2 #[] h R:=by
 refine zD (args:=[]) Tryz.func22 U U ?_
 intro f hf
 clear hf
 unfold Gbq at H
 refine ze ?_
 refine zc U ?_
 refine za (zg (v:=.bool false) U ?_)
 refine zh ?_
 refine ze ?_
 refine zc U ?_
 refine za (zG (vs:=[]) en_23 zy (CallsH.mono H ?_))
 clear H
 rintro _ h1 ⟨x3,rfl,H⟩
 refine za (zg (v:=.pointer x3) U ?_)
 refine zh ?_
 refine ze ?_
 refine ze ?_
 refine zc U ?_
 refine za (zd (v:=.pointer x3) U ?_)
 refine za (op_eq_ptr_nil U U un_27 ?_)
 refine zh ?_
 refine zz (x3.isNone) U ?_ ?_
 ·intro hb
  replace H:=H.1 hb
  refine ze ?_
  refine zc U ?_
  refine za (zg (v:=.bool false) U ?_)
  refine zh ?_
  refine zx ?_
  exact zv (zq U zu) H
 ·intro hb
  replace H:=H.2 hb
  refine zC ?_
  refine ze ?_
  refine zc U ?_
  refine za (zd (v:=.pointer x3) U ?_)
  refine za (zG (vs:=[.pointer x3,.int .i64 2,.int .u64 5]) en_24 (zm U (zm U (zm U zy))) (CallsH.mono H ?_))
  clear H
  rintro _ h5 ⟨x7,x8,rfl,H⟩
  refine za (zd (v:=.tuple #[.pointer x7,.int .i64 x8]) U ?_)
  refine za (zB U U ?_)
  refine za (zB U U ?_)
  refine za (zg (v:=.pointer x7) U ?_)
  refine za (zg (v:=.int .i64 x8) U ?_)
  refine zh ?_
  refine ze ?_
  refine ze ?_
  refine zc U ?_
  refine za (zd (v:=.pointer x7) U ?_)
  refine za (op_eq_ptr_nil U U un_28 ?_)
  refine za (zd (v:=.bool x7.isNone) U ?_)
  refine zF (b:=!x7.isNone) (zi U U) (Z .i64 x8) (fun hb N hN=>zd (v:=.int .i64 x8) U hN) ?_
  refine zF (b:=!x7.isNone) (zi U U) (W (!decide (x8=0))) (fun hb N hN=>op_neq (gv hb) U hN) ?_
  refine za (zR U U (fun hq=>(gv (zP hq))) ?_)
  refine zh ?_
  refine zz (x7.isNone || (!decide (x8=0))) U ?_ ?_
  ·intro hb
   replace H:=H.1 hb
   refine ze ?_
   refine zc U ?_
   refine za (zg (v:=.bool false) U ?_)
   refine zh ?_
   refine zx ?_
   exact zv (zq U zu) H
  ·intro hb
   replace H:=H.2 hb
   refine zC ?_
   refine ze ?_
   refine zc U ?_
   refine za (zX (vs:=[(0,.int .i64 0),(1,.int .u64 1)]) (cs:=#[.int .i64 0,.int .u64 1]) z_39 fs_39 (zM U (zM U zT)) U ?_)
   obtain⟨h11,c12⟩ : ∃ h11,h11=h5.push (.cells #[.int .i64 0,.int .u64 0] 39 (0,0)):=⟨_,rfl⟩
   replace H:=H h11 c12
   refine za (zW z_39 c12 ?_)
   obtain⟨h14,c13,H⟩:=H
   refine za (zI (v:=.agg #[.int .i64 0,.int .u64 1]) U U sz_39 U c13 ?_)
   refine zh ?_
   refine ze ?_
   refine zc U ?_
   refine za (zd (v:=.pointer x7) U ?_)
   obtain⟨x15_0,x15_1,c16,H⟩:=H
   refine za (zS U ag_39 c16 ?_)
   refine za (zX (vs:=[(0,.agg #[.int .i64 x15_0,.int .u64 x15_1]),(1,.int .i64 2),(2,.int .i64 4)]) (cs:=#[.int .i64 x15_0,.int .u64 x15_1,.int .i64 2,.int .i64 4]) z_41 fs_41 (zM U (zM U (zM U zT))) U ?_)
   refine za (zX (vs:=[(0,.int .i64 7),(2,.int .u64 100),(4,.agg #[.int .i64 x15_0,.int .u64 x15_1,.int .i64 2,.int .i64 4])]) (cs:=#[.int .i64 7,.int .i64 0,.int .u64 100,.int .i64 0,.int .i64 x15_0,.int .u64 x15_1,.int .i64 2,.int .i64 4]) z_43 fs_43 (zM U (zM U (zM U zT))) U ?_)
   refine za (zG (vs:=[.pointer x7,.agg #[.int .i64 7,.int .i64 0,.int .u64 100,.int .i64 0,.int .i64 x15_0,.int .u64 x15_1,.int .i64 2,.int .i64 4]]) en_16 (zm U (zm U zy)) (CallsH.mono H ?_))
   clear H
   rintro _ h17 ⟨x19,rfl,H⟩
   refine za (zg (v:=.int .i64 x19) U ?_)
   refine zh ?_
   refine ze ?_
   refine zc U ?_
   refine za (zd (v:=.pointer x7) U ?_)
   obtain⟨x20_0,x20_1,c21,H⟩:=H
   refine za (zS U ag_39 c21 ?_)
   refine za (zX (vs:=[(0,.agg #[.int .i64 x20_0,.int .u64 x20_1]),(1,.int .i64 2),(2,.int .i64 4)]) (cs:=#[.int .i64 x20_0,.int .u64 x20_1,.int .i64 2,.int .i64 4]) z_41 fs_41 (zM U (zM U (zM U zT))) U ?_)
   refine za (zX (vs:=[(0,.int .i64 8),(2,.int .u64 100),(4,.agg #[.int .i64 x20_0,.int .u64 x20_1,.int .i64 2,.int .i64 4])]) (cs:=#[.int .i64 8,.int .i64 0,.int .u64 100,.int .i64 0,.int .i64 x20_0,.int .u64 x20_1,.int .i64 2,.int .i64 4]) z_43 fs_43 (zM U (zM U (zM U zT))) U ?_)
   refine za (zG (vs:=[.pointer x7,.agg #[.int .i64 8,.int .i64 0,.int .u64 100,.int .i64 0,.int .i64 x20_0,.int .u64 x20_1,.int .i64 2,.int .i64 4]]) en_16 (zm U (zm U zy)) (CallsH.mono H ?_))
   clear H
   rintro _ h22 ⟨x24,rfl,H⟩
   refine za (zg (v:=.int .i64 x24) U ?_)
   refine zh ?_
   refine ze ?_
   refine zc U ?_
   refine za (zd (v:=.pointer x7) U ?_)
   refine za (zG (vs:=[.pointer x7]) en_17 (zm U zy) (CallsH.mono H ?_))
   clear H
   rintro _ h25 ⟨x27a,x27n,x27c,rfl,H⟩
   refine za (zg (v:=.slice x27a x27n x27c) U ?_)
   refine zh ?_
   refine ze ?_
   refine zc U ?_
   refine za (zd (v:=.pointer x7) U ?_)
   refine za (zG (vs:=[.pointer x7]) en_25 (zm U zy) (CallsH.mono H ?_))
   clear H
   rintro _ h28 ⟨x30,x31_0,x31_1,x31_2,x31_3,x31_4,x31_5,x31_6,x31_7,x31_8,x32,rfl,H⟩
   refine za (zd (v:=.tuple #[.int .i64 x30,.agg #[.int .i64 x31_0,.int .i64 x31_1,.int .i64 x31_2,.int .u64 x31_3,.int .i64 x31_4,.int .i64 x31_5,.bool x31_6,.bool x31_7,.int .i64 x31_8],.int .i64 x32]) U ?_)
   refine za (zB U U ?_)
   refine za (zB U U ?_)
   refine za (zB U U ?_)
   obtain⟨h33,c34⟩ : ∃ h33,h33=h28.push (.cells #[.int .i64 0,.int .i64 0,.int .i64 0,.int .u64 0,.int .i64 0,.int .i64 0,.bool false,.bool false,.int .i64 0] 63 (0,0)):=⟨_,rfl⟩
   replace H:=H h33 c34
   refine za (zW z_63 c34 ?_)
   refine za (zg (v:=.int .i64 x30) U ?_)
   obtain⟨h36,c35,H⟩:=H
   refine za (zI (v:=.agg #[.int .i64 x31_0,.int .i64 x31_1,.int .i64 x31_2,.int .u64 x31_3,.int .i64 x31_4,.int .i64 x31_5,.bool x31_6,.bool x31_7,.int .i64 x31_8]) U U sz_63 U c35 ?_)
   refine za (zg (v:=.int .i64 x32) U ?_)
   refine zh ?_
   refine ze ?_
   refine zc U ?_
   refine za (zd (v:=.pointer x7) U ?_)
   refine za (zd (v:=.int .i64 x30) U ?_)
   obtain⟨h37,c38⟩ : ∃ h37,h37=h36.push (.cells #[.int .u8 97,.int .u8 98] 5 (0,0)):=⟨_,rfl⟩
   replace H:=H h37 c38
   refine za (yg (cs:=#[.int .u8 97,.int .u8 98]) (vs:=[(0,.int .u8 97),(1,.int .u8 98)]) (zl:=[.int .u8 0]) ri_23 (by decide) U U (zM U (zM U zT)) U c38 ?_)
   obtain⟨c41,H⟩:=H
   refine za (op_mark U un_23 un_5 c41 ?_)
   intro h39 c40
   replace H:=H h39 c40
   refine za (zG (vs:=[.pointer x7,.int .i64 x30,.int .i64 1,.slice (some ⟨h36.size,0,none⟩) 2 2]) en_26 (zm U (zm U (zm U (zm U zy)))) (CallsH.mono H ?_))
   clear H
   rintro _ h42 ⟨x44,rfl,H⟩
   refine za (zg (v:=.int .i64 x44) U ?_)
   refine zh ?_
   refine ze ?_
   refine zc U ?_
   refine za (zd (v:=.pointer x7) U ?_)
   refine za (zd (v:=.int .i64 x30) U ?_)
   refine za (zG (vs:=[.pointer x7,.int .i64 x30,.int .i64 9,.bool false]) en_28 (zm U (zm U (zm U (zm U zy)))) (CallsH.mono H ?_))
   clear H
   rintro _ h45 ⟨x47,rfl,H⟩
   refine zh ?_
   refine ze ?_
   refine zc U ?_
   refine za (zd (v:=.pointer x7) U ?_)
   refine za (zG (vs:=[.pointer x7]) en_18 (zm U zy) (CallsH.mono H ?_))
   clear H
   rintro _ h48 ⟨x50,x51,rfl,H⟩
   refine za (zd (v:=.tuple #[.int .i64 x50,.int .i64 x51]) U ?_)
   refine za (zB U U ?_)
   refine za (zB U U ?_)
   refine za (zg (v:=.int .i64 x50) U ?_)
   refine za (zg (v:=.int .i64 x51) U ?_)
   refine zh ?_
   refine ze ?_
   refine zc U ?_
   refine za (zd (v:=.pointer x7) U ?_)
   refine za (zG (vs:=[.pointer x7,.int .u64 1]) en_29 (zm U (zm U zy)) (CallsH.mono H ?_))
   clear H
   rintro _ h52 ⟨x54a,x54n,x54c,x55,rfl,H⟩
   refine za (zd (v:=.tuple #[.slice x54a x54n x54c,.int .i64 x55]) U ?_)
   refine za (zB U U ?_)
   refine za (zB U U ?_)
   refine za (zg (v:=.slice x54a x54n x54c) U ?_)
   refine za (zg (v:=.int .i64 x55) U ?_)
   refine zh ?_
   refine ze ?_
   refine wpf_forget ?_
   intro fg56 hfg56
   have ag56_0:fg56 1=(Value.pointer x3):=by rw [hfg56]; exact rfl
   have ag56_1:fg56 4=(Value.pointer (some ⟨h5.size,0,none⟩)):=by rw [hfg56]; exact rfl
   have ag56_2:fg56 5=(Value.int .i64 x19):=by rw [hfg56]; exact rfl
   have ag56_3:fg56 6=(Value.int .i64 x24):=by rw [hfg56]; exact rfl
   have ag56_4:fg56 7=(Value.slice x27a x27n x27c):=by rw [hfg56]; exact rfl
   have ag56_5:fg56 10=(Value.int .i64 x32):=by rw [hfg56]; exact rfl
   have ag56_6:fg56 11=(Value.int .i64 x44):=by rw [hfg56]; exact rfl
   have ag56_7:fg56 12=(Value.int .i64 x50):=by rw [hfg56]; exact rfl
   have ag56_8:fg56 13=(Value.int .i64 x51):=by rw [hfg56]; exact rfl
   have ag56_9:fg56 14=(Value.slice x54a x54n x54c):=by rw [hfg56]; exact rfl
   clear hfg56
   refine zc U ?_
   refine za (zd (v:=.pointer x3) ag56_0 ?_)
   obtain⟨x57_0,x57_1,c58,H⟩:=H
   refine za (zS ag56_1 ag_39 c58 ?_)
   refine za (zG (vs:=[.pointer x3,.agg #[.int .i64 x57_0,.int .u64 x57_1],.int .i64 3,.int .i64 2]) en_20 (zm U (zm U (zm U (zm U zy)))) (CallsH.mono H ?_))
   clear H
   rintro _ h59 ⟨x61a,x61n,x61c,x62,rfl,H⟩
   refine za (zd (v:=.tuple #[.slice x61a x61n x61c,.int .i64 x62]) U ?_)
   refine za (zB U U ?_)
   refine za (zB U U ?_)
   refine za (zg (v:=.slice x61a x61n x61c) U ?_)
   refine za (zg (v:=.int .i64 x62) U ?_)
   refine zh ?_
   refine ze ?_
   refine zc U ?_
   refine za (zd (v:=.int .i64 x19) ag56_2 ?_)
   refine za (op_eql U U ?_)
   refine za (zd (v:=.bool (decide (x19=0))) U ?_)
   refine zF (b:=decide (x19=0)) (zi U U) (Z .i64 x24) (fun hb N hN=>zd (v:=.int .i64 x24) ag56_3 hN) ?_
   refine zF (b:=decide (x19=0)) (zi U U) (W (decide (x24=8))) (fun hb N hN=>op_eql (gv hb) U hN) ?_
   refine za (zV U (fun hq=>(gv hq)) U ?_)
   refine za (zd (v:=.bool ((decide (x19=0)) && (decide (x24=8)))) U ?_)
   refine zF (b:=(decide (x19=0)) && (decide (x24=8))) (zi U U) (T x27a x27n x27c) (fun hb N hN=>zd (v:=.slice x27a x27n x27c) ag56_4 hN) ?_
   refine zF (b:=(decide (x19=0)) && (decide (x24=8))) (zi U U) (Z .i64 (x27n:Int)) (fun hb N hN=>zN (gv hb) un_34 hN) ?_
   refine zF (b:=(decide (x19=0)) && (decide (x24=8))) (zi U U) (W (decide ((x27n:Int)=1))) (fun hb N hN=>op_eql (gv hb) U hN) ?_
   refine za (zV U (fun hq=>(gv hq)) U ?_)
   refine za (zd (v:=.bool (((decide (x19=0)) && (decide (x24=8))) && (decide ((x27n:Int)=1)))) U ?_)
   refine zF (b:=((decide (x19=0)) && (decide (x24=8))) && (decide ((x27n:Int)=1))) (zi U U) (Z .i64 x32) (fun hb N hN=>zd (v:=.int .i64 x32) ag56_5 hN) ?_
   refine zF (b:=((decide (x19=0)) && (decide (x24=8))) && (decide ((x27n:Int)=1))) (zi U U) (W (decide (x32=0))) (fun hb N hN=>op_eql (gv hb) U hN) ?_
   refine za (zV U (fun hq=>(gv hq)) U ?_)
   refine za (zd (v:=.bool ((((decide (x19=0)) && (decide (x24=8))) && (decide ((x27n:Int)=1))) && (decide (x32=0)))) U ?_)
   refine zF (b:=(((decide (x19=0)) && (decide (x24=8))) && (decide ((x27n:Int)=1))) && (decide (x32=0))) (zi U U) (Z .i64 x44) (fun hb N hN=>zd (v:=.int .i64 x44) ag56_6 hN) ?_
   refine zF (b:=(((decide (x19=0)) && (decide (x24=8))) && (decide ((x27n:Int)=1))) && (decide (x32=0))) (zi U U) (W (decide (x44=0))) (fun hb N hN=>op_eql (gv hb) U hN) ?_
   refine za (zV U (fun hq=>(gv hq)) U ?_)
   refine za (zd (v:=.bool (((((decide (x19=0)) && (decide (x24=8))) && (decide ((x27n:Int)=1))) && (decide (x32=0))) && (decide (x44=0)))) U ?_)
   refine zF (b:=((((decide (x19=0)) && (decide (x24=8))) && (decide ((x27n:Int)=1))) && (decide (x32=0))) && (decide (x44=0))) (zi U U) (Z .i64 x50) (fun hb N hN=>zd (v:=.int .i64 x50) ag56_7 hN) ?_
   refine zF (b:=((((decide (x19=0)) && (decide (x24=8))) && (decide ((x27n:Int)=1))) && (decide (x32=0))) && (decide (x44=0))) (zi U U) (W (decide (x50=7))) (fun hb N hN=>op_eql (gv hb) U hN) ?_
   refine za (zV U (fun hq=>(gv hq)) U ?_)
   refine za (zd (v:=.bool ((((((decide (x19=0)) && (decide (x24=8))) && (decide ((x27n:Int)=1))) && (decide (x32=0))) && (decide (x44=0))) && (decide (x50=7)))) U ?_)
   refine zF (b:=(((((decide (x19=0)) && (decide (x24=8))) && (decide ((x27n:Int)=1))) && (decide (x32=0))) && (decide (x44=0))) && (decide (x50=7))) (zi U U) (Z .i64 x51) (fun hb N hN=>zd (v:=.int .i64 x51) ag56_8 hN) ?_
   refine zF (b:=(((((decide (x19=0)) && (decide (x24=8))) && (decide ((x27n:Int)=1))) && (decide (x32=0))) && (decide (x44=0))) && (decide (x50=7))) (zi U U) (W (decide (x51=0))) (fun hb N hN=>op_eql (gv hb) U hN) ?_
   refine za (zV U (fun hq=>(gv hq)) U ?_)
   refine za (zd (v:=.bool (((((((decide (x19=0)) && (decide (x24=8))) && (decide ((x27n:Int)=1))) && (decide (x32=0))) && (decide (x44=0))) && (decide (x50=7))) && (decide (x51=0)))) U ?_)
   refine zF (b:=((((((decide (x19=0)) && (decide (x24=8))) && (decide ((x27n:Int)=1))) && (decide (x32=0))) && (decide (x44=0))) && (decide (x50=7))) && (decide (x51=0))) (zi U U) (T x54a x54n x54c) (fun hb N hN=>zd (v:=.slice x54a x54n x54c) ag56_9 hN) ?_
   refine zF (b:=((((((decide (x19=0)) && (decide (x24=8))) && (decide ((x27n:Int)=1))) && (decide (x32=0))) && (decide (x44=0))) && (decide (x50=7))) && (decide (x51=0))) (zi U U) (Z .i64 (x54n:Int)) (fun hb N hN=>zN (gv hb) un_70 hN) ?_
   refine zF (b:=((((((decide (x19=0)) && (decide (x24=8))) && (decide ((x27n:Int)=1))) && (decide (x32=0))) && (decide (x44=0))) && (decide (x50=7))) && (decide (x51=0))) (zi U U) (W (decide ((x54n:Int)=1))) (fun hb N hN=>op_eql (gv hb) U hN) ?_
   refine za (zV U (fun hq=>(gv hq)) U ?_)
   refine za (zd (v:=.bool ((((((((decide (x19=0)) && (decide (x24=8))) && (decide ((x27n:Int)=1))) && (decide (x32=0))) && (decide (x44=0))) && (decide (x50=7))) && (decide (x51=0))) && (decide ((x54n:Int)=1)))) U ?_)
   refine zF (b:=(((((((decide (x19=0)) && (decide (x24=8))) && (decide ((x27n:Int)=1))) && (decide (x32=0))) && (decide (x44=0))) && (decide (x50=7))) && (decide (x51=0))) && (decide ((x54n:Int)=1))) (zi U U) (T x54a x54n x54c) (fun hb N hN=>zd (v:=.slice x54a x54n x54c) ag56_9 hN) ?_
   obtain⟨b72,o73,c74,H⟩:=H
   obtain⟨c71,H⟩:=H
   refine zF (b:=(((((((decide (x19=0)) && (decide (x24=8))) && (decide ((x27n:Int)=1))) && (decide (x32=0))) && (decide (x44=0))) && (decide (x50=7))) && (decide (x51=0))) && (decide ((x54n:Int)=1))) (zi U U) (Y (some ⟨b72,o73,none⟩)) (fun hb N hN=>zE (Eq.trans (gv hb) (congrArg (fun a=>T a x54n x54c) (c74 hb))) U ei_70 (c71 hb) hN) ?_
   obtain⟨x75_0,x75_1,x75_2,c76,H⟩:=H
   refine zF (b:=(((((((decide (x19=0)) && (decide (x24=8))) && (decide ((x27n:Int)=1))) && (decide (x32=0))) && (decide (x44=0))) && (decide (x50=7))) && (decide (x51=0))) && (decide ((x54n:Int)=1))) (zi U U) (X #[.int .i64 x75_0,.int .i64 x75_1,.int .i64 x75_2]) (fun hb N hN=>zS (gv hb) ag_74 (c76 hb) hN) ?_
   refine zF (b:=(((((((decide (x19=0)) && (decide (x24=8))) && (decide ((x27n:Int)=1))) && (decide (x32=0))) && (decide (x44=0))) && (decide (x50=7))) && (decide (x51=0))) && (decide ((x54n:Int)=1))) (zi U U) (X #[.int .i64 7,.int .i64 1,.int .i64 9]) (fun hb N hN=>zX (vs:=[(0,.int .i64 7),(1,.int .i64 1),(2,.int .i64 9)]) (cs:=#[.int .i64 7,.int .i64 1,.int .i64 9]) z_74 fs_74 (zM U (zM U (zM U zT))) U hN) ?_
   refine zF (b:=(((((((decide (x19=0)) && (decide (x24=8))) && (decide ((x27n:Int)=1))) && (decide (x32=0))) && (decide (x44=0))) && (decide (x50=7))) && (decide (x51=0))) && (decide ((x54n:Int)=1))) (zi U U) (W ((decide (x75_0=7)) && ((decide (x75_1=1)) && ((decide (x75_2=9)) && true)))) (fun hb N hN=>op_eqs (a:=[.int .i64 x75_0,.int .i64 x75_1,.int .i64 x75_2]) (b:=[.int .i64 7,.int .i64 1,.int .i64 9]) (gv hb) (gv hb) eg_74 (eq_of_plan eqp_74 fun w=>(eqRun_int w un_3 ag_3 U U (eqRun_int w un_3 ag_3 U U (eqRun_int w un_3 ag_3 U U (eqRun_nil w))))) hN) ?_
   refine za (zV U (fun hq=>(gv hq)) U ?_)
   refine za (zd (v:=.bool (((((((((decide (x19=0)) && (decide (x24=8))) && (decide ((x27n:Int)=1))) && (decide (x32=0))) && (decide (x44=0))) && (decide (x50=7))) && (decide (x51=0))) && (decide ((x54n:Int)=1))) && ((decide (x75_0=7)) && ((decide (x75_1=1)) && ((decide (x75_2=9)) && true))))) U ?_)
   refine zF (b:=((((((((decide (x19=0)) && (decide (x24=8))) && (decide ((x27n:Int)=1))) && (decide (x32=0))) && (decide (x44=0))) && (decide (x50=7))) && (decide (x51=0))) && (decide ((x54n:Int)=1))) && ((decide (x75_0=7)) && ((decide (x75_1=1)) && ((decide (x75_2=9)) && true)))) (zi U U) (T x61a x61n x61c) (fun hb N hN=>zd (v:=.slice x61a x61n x61c) U hN) ?_
   obtain⟨xs78,c79,H⟩:=H
   refine zF (b:=((((((((decide (x19=0)) && (decide (x24=8))) && (decide ((x27n:Int)=1))) && (decide (x32=0))) && (decide (x44=0))) && (decide (x50=7))) && (decide (x51=0))) && (decide ((x54n:Int)=1))) && ((decide (x75_0=7)) && ((decide (x75_1=1)) && ((decide (x75_2=9)) && true)))) (zi U U) (Value.string (strOfNums xs78)) (fun hb N hN=>op_b2s (gv hb) un_23 un_5 un_9 (c79 hb) hN) ?_
   refine zF (b:=((((((((decide (x19=0)) && (decide (x24=8))) && (decide ((x27n:Int)=1))) && (decide (x32=0))) && (decide (x44=0))) && (decide (x50=7))) && (decide (x51=0))) && (decide ((x54n:Int)=1))) && ((decide (x75_0=7)) && ((decide (x75_1=1)) && ((decide (x75_2=9)) && true)))) (zi U U) (W (decide ((strOfNums xs78)=(ByteArray.mk #[97,98])))) (fun hb N hN=>op_eqstr un_9 (gv hb) U hN) ?_
   refine za (zV U (fun hq=>(gv hq)) U ?_)
   refine za (zg (v:=.bool ((((((((((decide (x19=0)) && (decide (x24=8))) && (decide ((x27n:Int)=1))) && (decide (x32=0))) && (decide (x44=0))) && (decide (x50=7))) && (decide (x51=0))) && (decide ((x54n:Int)=1))) && ((decide (x75_0=7)) && ((decide (x75_1=1)) && ((decide (x75_2=9)) && true)))) && (decide ((strOfNums xs78)=(ByteArray.mk #[97,98]))))) U ?_)
   refine zh ?_
   refine zx ?_
   exact zv (zq U zu) H
def Gby (p0a:Option Addr) (p0n:Nat) (p0c:Nat) (K:Bool→Heap→Prop) (h:Heap):Prop:=
 ∃ (I2:Int→Heap→Prop) (mu3:Int→Heap→Nat),I2 0 h∧∀ (x1:Int) (h5:Heap),I2 x1 h5→(((decide (x1<(p0n:Int))) && (decide (x1<120)))=true→∃ (b9:Nat) (o10:Nat),p0a=some ⟨b9,o10,none⟩∧(0≤x1∧x1<(p0n:Int))∧∃ (x12a:Option Addr) (x12n:Nat) (x12c:Nat),cellH h5 b9 (o10+x1.toNat * 12+11)=some (.slice x12a x12n x12c)∧(100<(x12n:Int)→K false h5)∧((¬ (100<(x12n:Int)))→(-9223372036854775808≤x1+1∧x1+1<9223372036854775808)∧(I2 (x1+1) h5∧mu3 (x1+1) h5<mu3 x1 h5)))∧(((decide (x1<(p0n:Int))) && (decide (x1<120)))=false→K true h5)
theorem Gbz (p0a:Option Addr) (p0n:Nat) (p0c:Nat) (R:Value→Heap→Prop) (h:Heap) (H:Gby p0a p0n p0c (fun r0 h'=>R (Value.bool r0) h') h):CallsH PR Gj6 #[.slice p0a p0n p0c] h R:=by
 refine zD (args:=[.slice p0a p0n p0c]) Tryz.func32 U U ?_
 intro f hf
 have e0:=hf 0 _ rfl
 clear hf
 unfold Gby at H
 refine ze ?_
 refine zc U ?_
 refine za (zg (v:=.bool false) U ?_)
 refine zh ?_
 refine ze ?_
 refine ze ?_
 refine zc U ?_
 refine za (zg (v:=.int .i64 0) U ?_)
 refine zh ?_
 refine zK ?_
 obtain⟨I2,mu3,hI,H⟩:=H
 obtain⟨I4,mu4,hin4,hout4,hmu4⟩ : ∃ (J4:Fr→Heap→Prop) (m:Fr→Heap→Nat),(∀ f hz (x1:Int),f 3 = .int .i64 x1→f 0 = .slice p0a p0n p0c→I2 x1 hz→J4 f hz)∧(∀ f hz,J4 f hz→∃ (x1:Int),f 3 = .int .i64 x1∧f 0 = .slice p0a p0n p0c∧I2 x1 hz)∧(∀ f hz (x1:Int),f 3 = .int .i64 x1→m f hz=mu3 x1 hz):=⟨fun f hz=>∃ (x1:Int),f 3 = .int .i64 x1∧f 0 = .slice p0a p0n p0c∧I2 x1 hz,fun f hz=>mu3 (dInt (f 3)) hz,fun _ _ x1 a0 a1 z=>⟨x1,a0,a1,z⟩,fun _ _ hz=>hz,fun f hz x1 a0=>by simp only [a0]; rfl⟩
 refine yb I4 mu4 (hin4 _ _ _ U e0 hI) ?_
 clear hI
 intro f h5 hf
 obtain⟨x1,a4_0,a4_1,hJ⟩:=hout4 _ _ hf
 replace H:=H x1 h5 hJ
 refine ze ?_
 refine ze ?_
 refine zc U ?_
 refine za (zd (v:=.int .i64 x1) a4_0 ?_)
 refine za (zd (v:=.slice p0a p0n p0c) a4_1 ?_)
 refine za (zN U un_83 ?_)
 refine za (zY U U ?_)
 refine za (zd (v:=.bool (decide (x1<(p0n:Int)))) U ?_)
 refine zF (b:=decide (x1<(p0n:Int))) (zi U U) (Z .i64 x1) (fun hb N hN=>zd (v:=.int .i64 x1) a4_0 hN) ?_
 refine zF (b:=decide (x1<(p0n:Int))) (zi U U) (W (decide (x1<120))) (fun hb N hN=>zY (gv hb) U hN) ?_
 refine za (zV U (fun hq=>(gv hq)) U ?_)
 refine zh ?_
 refine zz ((decide (x1<(p0n:Int))) && (decide (x1<120))) U ?_ ?_
 ·intro hb
  replace H:=H.1 hb
  refine zC ?_
  refine ze ?_
  refine zK ?_
  refine ze ?_
  refine zc U ?_
  refine za (zd (v:=.slice p0a p0n p0c) a4_1 ?_)
  refine za (zd (v:=.int .i64 x1) a4_0 ?_)
  obtain⟨b9,o10,rfl,H⟩:=H
  obtain⟨c8,H⟩:=H
  refine za (zE U U ei_83 c8 ?_)
  refine za (zf U fo_93_4 ?_)
  obtain⟨x12a,x12n,x12c,c13,H⟩:=H
  refine za (zk U ag_23 c13 ?_)
  refine za (zN U un_23 ?_)
  refine za (yj U U ?_)
  refine zh ?_
  refine zz (decide (100<(x12n:Int))) U ?_ ?_
  ·intro hb
   replace H:=H.1 (zo hb)
   refine ze ?_
   refine zc U ?_
   refine za (zg (v:=.bool false) U ?_)
   refine zh ?_
   refine zx ?_
   exact zv (zq U zu) H
  ·intro hb
   replace H:=H.2 (zn hb)
   refine zC ?_
   refine zc U ?_
   refine za (zd (v:=.int .i64 x1) a4_0 ?_)
   obtain⟨c15,H⟩:=H
   refine za (yf U U (zU c15) ?_)
   refine za (zg (v:=.int .i64 (x1+1)) U ?_)
   refine zh ?_
   exact And.intro (hin4 _ _ _ rfl a4_1 H.1) (yk (hmu4 _ _ _ rfl) (hmu4 _ _ _ a4_0) H.2)
 ·intro hb
  replace H:=H.2 hb
  refine ya ?_
  refine ze ?_
  refine zc U ?_
  refine za (zg (v:=.bool true) U ?_)
  refine zh ?_
  refine zx ?_
  exact zv (zq U zu) H
def Gbw (p0:Int) (p1:Int) (K:Int→Heap→Prop) (h:Heap):Prop:=
 (p1<0→K p0 h)∧((¬ (p1<0))→K (IntKind.u64.wrap (p0+((IntKind.u64.wrap p1).tmod 200))) h)
theorem Gbx (p0:Int) (p1:Int) (R:Value→Heap→Prop) (h:Heap) (H:Gbw p0 p1 (fun r0 h'=>R (Value.int .u64 r0) h') h):CallsH PR Gj5 #[.int .u64 p0,.int .i64 p1] h R:=by
 refine zD (args:=[.int .u64 p0,.int .i64 p1]) Tryz.func37 U U ?_
 intro f hf
 have e0:=hf 0 _ rfl
 have e1:=hf 1 _ rfl
 clear hf
 unfold Gbw at H
 refine ze ?_
 refine zc U ?_
 refine za (zg (v:=.int .u64 0) U ?_)
 refine zh ?_
 refine ze ?_
 refine ze ?_
 refine zc U ?_
 refine za (zd (v:=.int .i64 p1) e1 ?_)
 refine za (zY U U ?_)
 refine zh ?_
 refine zz (decide (p1<0)) U ?_ ?_
 ·intro hb
  replace H:=H.1 (zo hb)
  refine ze ?_
  refine zc U ?_
  refine za (zd (v:=.int .u64 p0) e0 ?_)
  refine za (zg (v:=.int .u64 p0) U ?_)
  refine zh ?_
  refine zx ?_
  exact zv (zq U zu) H
 ·intro hb
  replace H:=H.2 (zn hb)
  refine zC ?_
  refine ze ?_
  refine zc U ?_
  refine za (zd (v:=.int .u64 p0) e0 ?_)
  refine za (zd (v:=.int .i64 p1) e1 ?_)
  refine za (op_conv U (congrArg (Option.map fun _=>()) un_3) un_37 U ?_)
  refine za (op_rem U U (by decide) U ?_)
  refine za (yf U U U ?_)
  refine za (zg (v:=.int .u64 (IntKind.u64.wrap (p0+((IntKind.u64.wrap p1).tmod 200)))) U ?_)
  refine zh ?_
  refine zx ?_
  exact zv (zq U zu) H
def Ggb:Cert:=⟨[[],[],[0,1],[0,1,2],[],[],[4,5],[4,5,6],[0,1,2,3,4,5,6,7]],[false,false,false,false,false,false,false,false,false]⟩
def Gc0 (p0a:Option Addr) (p0n:Nat) (p0c:Nat) (p1a:Option Addr) (p1n:Nat) (p1c:Nat) (K:Bool→Heap→Prop) (h:Heap):Prop:=
 ((¬ ((p0n:Int)=(p1n:Int)))→K false h)∧((p0n:Int)=(p1n:Int)→∃ (I3:Int→Heap→Prop) (mu4:Int→Heap→Nat),I3 0 h∧∀ (x2:Int) (h6:Heap),I3 x2 h6→(x2<(p0n:Int)→∃ (b9:Nat) (o10:Nat),p0a=some ⟨b9,o10,none⟩∧(0≤x2∧x2<(p0n:Int))∧∃ (x12:Int),cellH h6 b9 (o10+x2.toNat * 1)=some (.int .u8 x12)∧∃ (b15:Nat) (o16:Nat),p1a=some ⟨b15,o16,none⟩∧(0≤x2∧x2<(p1n:Int))∧∃ (x18:Int),cellH h6 b15 (o16+x2.toNat * 1)=some (.int .u8 x18)∧((¬ (x12=x18))→K false h6)∧(x12=x18→(-9223372036854775808≤x2+1∧x2+1<9223372036854775808)∧(I3 (x2+1) h6∧mu4 (x2+1) h6<mu4 x2 h6)))∧((¬ (x2<(p0n:Int)))→K true h6))
theorem Gc1 (p0a:Option Addr) (p0n:Nat) (p0c:Nat) (p1a:Option Addr) (p1n:Nat) (p1c:Nat) (R:Value→Heap→Prop) (h:Heap) (H:Gc0 p0a p0n p0c p1a p1n p1c (fun r0 h'=>R (Value.bool r0) h') h):CallsH PR Gjz #[.slice p0a p0n p0c,.slice p1a p1n p1c] h R:=by
 refine zD (args:=[.slice p0a p0n p0c,.slice p1a p1n p1c]) Tryz.func50 U U ?_
 intro f hf
 have e0:=hf 0 _ rfl
 have e1:=hf 1 _ rfl
 clear hf
 unfold Gc0 at H
 refine ze ?_
 refine zc U ?_
 refine za (zg (v:=.bool false) U ?_)
 refine zh ?_
 refine ze ?_
 refine ze ?_
 refine zc U ?_
 refine za (zd (v:=.slice p0a p0n p0c) e0 ?_)
 refine za (zN U un_23 ?_)
 refine za (zd (v:=.slice p1a p1n p1c) e1 ?_)
 refine za (zN U un_23 ?_)
 refine za (op_neq U U ?_)
 refine zh ?_
 refine zz (!decide ((p0n:Int)=(p1n:Int))) U ?_ ?_
 ·intro hb
  replace H:=H.1 (zn (zt hb))
  refine ze ?_
  refine zc U ?_
  refine za (zg (v:=.bool false) U ?_)
  refine zh ?_
  refine zx ?_
  exact zv (zq U zu) H
 ·intro hb
  replace H:=H.2 (zo (zL hb))
  refine zC ?_
  refine ze ?_
  refine ze ?_
  refine zc U ?_
  refine za (zg (v:=.int .i64 0) U ?_)
  refine zh ?_
  refine zK ?_
  obtain⟨I3,mu4,hI,H⟩:=H
  obtain⟨I5,mu5,hin5,hout5,hmu5⟩ : ∃ (J5:Fr→Heap→Prop) (m:Fr→Heap→Nat),(∀ f hz (x2:Int),f 5 = .int .i64 x2→f 0 = .slice p0a p0n p0c→f 1 = .slice p1a p1n p1c→I3 x2 hz→J5 f hz)∧(∀ f hz,J5 f hz→∃ (x2:Int),f 5 = .int .i64 x2∧f 0 = .slice p0a p0n p0c∧f 1 = .slice p1a p1n p1c∧I3 x2 hz)∧(∀ f hz (x2:Int),f 5 = .int .i64 x2→m f hz=mu4 x2 hz):=⟨fun f hz=>∃ (x2:Int),f 5 = .int .i64 x2∧f 0 = .slice p0a p0n p0c∧f 1 = .slice p1a p1n p1c∧I3 x2 hz,fun f hz=>mu4 (dInt (f 5)) hz,fun _ _ x2 a0 a1 a2 z=>⟨x2,a0,a1,a2,z⟩,fun _ _ hz=>hz,fun f hz x2 a0=>by simp only [a0]; rfl⟩
  refine yb I5 mu5 (hin5 _ _ _ U e0 e1 hI) ?_
  clear hI
  intro f h6 hf
  obtain⟨x2,a5_0,a5_1,a5_2,hJ⟩:=hout5 _ _ hf
  replace H:=H x2 h6 hJ
  refine ze ?_
  refine ze ?_
  refine zc U ?_
  refine za (zd (v:=.int .i64 x2) a5_0 ?_)
  refine za (zd (v:=.slice p0a p0n p0c) a5_1 ?_)
  refine za (zN U un_23 ?_)
  refine za (zY U U ?_)
  refine zh ?_
  refine zz (decide (x2<(p0n:Int))) U ?_ ?_
  ·intro hb
   replace H:=H.1 (zo hb)
   refine zC ?_
   refine ze ?_
   refine zK ?_
   refine ze ?_
   obtain⟨b9,o10,rfl,H⟩:=H
   obtain⟨c8,H⟩:=H
   obtain⟨x12,c13,H⟩:=H
   obtain⟨b15,o16,rfl,H⟩:=H
   obtain⟨c14,H⟩:=H
   obtain⟨x18,c19,H⟩:=H
   refine zO Ggb 0 [(T (some ⟨b9,o10,none⟩) p0n p0c),(Z .i64 x2),(Y (some ⟨b9,o10+x2.toNat * 1,none⟩)),(Z .u8 x12),(T (some ⟨b15,o16,none⟩) p1n p1c),(Z .i64 x2),(Y (some ⟨b15,o16+x2.toNat * 1,none⟩)),(Z .u8 x18),(W (!decide (x12=x18)))] (by kernel_rfl) U mixed_PR ?_
   refine zJ U (zw [0,1,2,3,4,5,6,7,8] U ⟨zb U U (zd (v:=.slice (some ⟨b9,o10,none⟩) p0n p0c) a5_1 ⟨U,U⟩),zb U U (zd (v:=.int .i64 x2) a5_0 ⟨U,U⟩),zb U U (zE U U ei_23 c8 ⟨U,U⟩),zb U U (zk U ag_5 c13 ⟨U,U⟩),zb U U (zd (v:=.slice (some ⟨b15,o16,none⟩) p1n p1c) a5_2 ⟨U,U⟩),zb U U (zd (v:=.int .i64 x2) a5_0 ⟨U,U⟩),zb U U (zE U U ei_23 c14 ⟨U,U⟩),zb U U (zk U ag_5 c19 ⟨U,U⟩),zb U U (op_neq U U ⟨U,U⟩),V⟩) U ?_
   refine zz (!decide (x12=x18)) U ?_ ?_
   ·intro hb
    replace H:=H.1 (zn (zt hb))
    refine ze ?_
    refine zc U ?_
    refine za (zg (v:=.bool false) U ?_)
    refine zh ?_
    refine zx ?_
    exact zv (zq U zu) H
   ·intro hb
    replace H:=H.2 (zo (zL hb))
    refine zC ?_
    refine zc U ?_
    refine za (zd (v:=.int .i64 x2) a5_0 ?_)
    obtain⟨c21,H⟩:=H
    refine za (yf U U (zU c21) ?_)
    refine za (zg (v:=.int .i64 (x2+1)) U ?_)
    refine zh ?_
    exact And.intro (hin5 _ _ _ rfl a5_1 a5_2 H.1) (yk (hmu5 _ _ _ rfl) (hmu5 _ _ _ a5_0) H.2)
  ·intro hb
   replace H:=H.2 (zn hb)
   refine ya ?_
   refine ze ?_
   refine zc U ?_
   refine za (zg (v:=.bool true) U ?_)
   refine zh ?_
   refine zx ?_
   exact zv (zq U zu) H
def Gga:Cert:=⟨[[],[],[],[2],[2,3],[2,3,4],[0,1,2,3,4,5],[0,1,2,3,4,5,6],[0,1,2,3,4,5,6,7],[0,1,2,3,4,5,6,7],[0,1,2,3,4,5,6,7,8],[0,1,2,3,4,5,6,7,8,9,10]],[false,false,false,false,false,false,true,false,false,false,false,false]⟩
def Gbo (p0:Int) (p1:Int) (p2a:Option Addr) (p2n:Nat) (p2c:Nat) (K:Bool→Heap→Prop) (h:Heap):Prop:=
 CallsH PR Gj2 #[] h (fun v h1=>∃ (x3:Bool),v=(Value.bool x3)∧(x3=false→K false h1)∧(x3=true→CallsH PR Gj6 #[.slice p2a p2n p2c] h1 (fun v h4=>∃ (x6:Bool),v=(Value.bool x6)∧(x6=false→K true h4)∧(x6=true→CallsH PR Gj4 #[] h4 (fun v h7=>∃ (x9:Option Addr),v=(Value.pointer x9)∧(-9223372036854775808≤1+((IntKind.i64.wrap p0).tmod 8)∧1+((IntKind.i64.wrap p0).tmod 8)<9223372036854775808)∧CallsH PR Gij #[.pointer x9,.int .i64 (1+((IntKind.i64.wrap p0).tmod 8)),.int .u64 (IntKind.u64.wrap (1+((IntKind.u64.wrap p1).tmod 20)))] h7 (fun v h14=>∃ (x16:Option Addr) (x17:Int),v=(Value.tuple #[.pointer x16,.int .i64 x17])∧((x16.isNone || (!decide (x17=0)))=true→K false h14)∧((x16.isNone || (!decide (x17=0)))=false→∃ (I23:Int→Int→Int→Heap→Prop) (mu24:Int→Int→Int→Heap→Nat),I23 0 0 0 h14∧∀ (x20:Int) (x21:Int) (x22:Int) (h26:Heap),I23 x20 x21 x22 h26→(((decide (x22<(p2n:Int))) && (decide (x22<120)))=true→∃ (b30:Nat) (o31:Nat),p2a=some ⟨b30,o31,none⟩∧(0≤x22∧x22<(p2n:Int))∧∃ (x33_0:Int) (x33_1:Int) (x33_2:Int) (x33_3:Int) (x33_4:Int) (x33_5:Int) (x33_6:Int) (x33_7:Int) (x33_8:Int) (x33_9:Int) (x33_10:Int) (x33_11a:Option Addr) (x33_11n:Nat) (x33_11c:Nat),ldCells h26 b30 (o31+x22.toNat * 12) 12=some [.int .i64 x33_0,.int .i64 x33_1,.int .i64 x33_2,.int .u64 x33_3,.int .i64 x33_4,.int .i64 x33_5,.int .u64 x33_6,.int .i64 x33_7,.int .i64 x33_8,.int .i64 x33_9,.int .i64 x33_10,.slice x33_11a x33_11n x33_11c]∧∀ (h35:Heap),h35=h26.push (.cells #[.int .i64 0,.int .i64 0,.int .i64 0,.int .u64 0,.int .i64 0,.int .i64 0,.int .u64 0,.int .i64 0,.int .i64 0,.int .i64 0,.int .i64 0,.slice none 0 0] 93 (0,0))→∃ (h38:Heap),stCells h26.size h35 0 [.int .i64 x33_0,.int .i64 x33_1,.int .i64 x33_2,.int .u64 x33_3,.int .i64 x33_4,.int .i64 x33_5,.int .u64 x33_6,.int .i64 x33_7,.int .i64 x33_8,.int .i64 x33_9,.int .i64 x33_10,.slice x33_11a x33_11n x33_11c]=some h38∧∀ (h39:Heap),h39=h38.push (.cells #[.slice none 0 0,.slice none 0 0,.slice none 0 0,.slice none 0 0] 115 (0,0))→∀ (h41:Heap),h41=h39.push (.cells #[.int .i64 0,.int .i64 0,.int .i64 0,.int .i64 0] 116 (0,0))→∃ (I44:Int→Heap→Prop) (mu45:Int→Heap→Nat),I44 0 h41∧∀ (x43:Int) (h47:Heap),I44 x43 h47→(x43<4→∀ (h49:Heap),h49=h47.push (.cells #[.int .i64 0,.int .u64 0] 39 (0,0))→∃ (h52:Heap),stCells h47.size h49 0 [.int .i64 x43,.int .u64 1]=some h52∧∃ (x53_0:Int) (x53_1:Int),ldCells h52 h47.size 0 2=some [.int .i64 x53_0,.int .u64 x53_1]∧CallsH PR Glz #[.pointer x9,.agg #[.int .i64 x53_0,.int .u64 x53_1]] h52 (fun v h55=>∃ (x57:Int) (x58:Int),v=(Value.tuple #[.int .i64 x57,.int .i64 x58])∧∃ (x59_0:Int) (x59_1:Int),ldCells h55 h47.size 0 2=some [.int .i64 x59_0,.int .u64 x59_1]∧CallsH PR Glx #[.pointer x9,.agg #[.int .i64 x59_0,.int .u64 x59_1],.int .i64 0,.int .i64 x57] h55 (fun v h61=>∃ (x63a:Option Addr) (x63n:Nat) (x63c:Nat) (x64:Int),v=(Value.tuple #[.slice x63a x63n x63c,.int .i64 x64])∧(0≤x43∧x43<4)∧∃ (h67:Heap),stCells h38.size h61 (0+x43.toNat * 1) [.slice x63a x63n x63c]=some h67∧∃ (x68_0:Int) (x68_1:Int),ldCells h67 h47.size 0 2=some [.int .i64 x68_0,.int .u64 x68_1]∧CallsH PR Glv #[.pointer x9,.agg #[.int .i64 x68_0,.int .u64 x68_1]] h67 (fun v h70=>∃ (x72:Int) (x73:Int) (x74:Int),v=(Value.tuple #[.int .i64 x72,.int .i64 x73,.int .i64 x74])∧(0≤x43∧x43<4)∧∃ (h77:Heap),stCells h39.size h70 (0+x43.toNat * 1) [.int .i64 x72]=some h77∧(-9223372036854775808≤x43+1∧x43+1<9223372036854775808)∧(I44 (x43+1) h77∧mu45 (x43+1) h77<mu45 x43 h47)))))∧((¬ (x43<4))→∃ J81:Int→Int→Heap→Prop,(∀ (x79:Int) (x80:Int) (h83:Heap),J81 x79 x80 h83→∃ (I85:Int→Heap→Prop) (mu86:Int→Heap→Nat),I85 0 h83∧∀ (x84:Int) (h88:Heap),I85 x84 h88→(x84<4→∀ (h90:Heap),h90=h88.push (.cells #[.int .i64 0,.int .u64 0] 39 (0,0))→∃ (h93:Heap),stCells h88.size h90 0 [.int .i64 x84,.int .u64 1]=some h93∧∃ (x94_0:Int) (x94_1:Int),ldCells h93 h88.size 0 2=some [.int .i64 x94_0,.int .u64 x94_1]∧(0≤x84∧x84<4)∧∃ (x97a:Option Addr) (x97n:Nat) (x97c:Nat),cellH h93 h38.size (0+x84.toNat * 1)=some (.slice x97a x97n x97c)∧CallsH PR Glx #[.pointer x9,.agg #[.int .i64 x94_0,.int .u64 x94_1],.int .i64 0,.int .i64 (x97n:Int)] h93 (fun v h99=>∃ (x101a:Option Addr) (x101n:Nat) (x101c:Nat) (x102:Int),v=(Value.tuple #[.slice x101a x101n x101c,.int .i64 x102])∧(0≤x84∧x84<4)∧∃ (x104a:Option Addr) (x104n:Nat) (x104c:Nat),cellH h99 h38.size (0+x84.toNat * 1)=some (.slice x104a x104n x104c)∧CallsH PR Gjz #[.slice x101a x101n x101c,.slice x104a x104n x104c] h99 (fun v h106=>∃ (x108:Bool),v=(Value.bool x108)∧∃ (x109:Int),((x108=false)→cellH h106 h26.size 0=some (.int .i64 x109))∧((((!x108) && (!(!decide (x109=3))))=true)→0≤x84∧x84<4)∧∃ (x113:Int),((((!x108) && (!(!decide (x109=3))))=true)→cellH h106 h39.size (0+x84.toNat * 1)=some (.int .i64 x113))∧(((!x108) && ((!decide (x109=3)) || (!decide (x113=3))))=true→K false h106)∧(((!x108) && ((!decide (x109=3)) || (!decide (x113=3))))=false→(-9223372036854775808≤x84+1∧x84+1<9223372036854775808)∧(I85 (x84+1) h106∧mu86 (x84+1) h106<mu86 x84 h88)))))∧((¬ (x84<4))→(-9223372036854775808≤x22+1∧x22+1<9223372036854775808)∧(I23 x79 x80 (x22+1) h88∧mu24 x79 x80 (x22+1) h88<mu24 x20 x21 x22 h26)))∧∃ (x118:Int),cellH h47 h26.size 0=some (.int .i64 x118)∧(x118=0→∃ (x121:Int),cellH h47 h26.size 3=some (.int .u64 x121)∧CallsH PR Gj5 #[.int .u64 x20,.int .i64 (IntKind.i64.wrap (x121.tmod 300))] h47 (fun v h124=>∃ (x126:Int),v=(Value.int .u64 x126)∧∃ (h128:Heap),stCells h26.size h124 3 [.int .u64 x126]=some h128∧∃ (x129_0:Int) (x129_1:Int) (x129_2:Int) (x129_3:Int) (x129_4:Int) (x129_5:Int) (x129_6:Int) (x129_7:Int),ldCells h128 h26.size 1 8=some [.int .i64 x129_0,.int .i64 x129_1,.int .u64 x129_2,.int .i64 x129_3,.int .i64 x129_4,.int .u64 x129_5,.int .i64 x129_6,.int .i64 x129_7]∧CallsH PR Gie #[.pointer x16,.agg #[.int .i64 x129_0,.int .i64 x129_1,.int .u64 x129_2,.int .i64 x129_3,.int .i64 x129_4,.int .u64 x129_5,.int .i64 x129_6,.int .i64 x129_7]] h128 (fun v h131=>∃ (x133:Int),v=(Value.int .i64 x133)∧(x133=0→(-9223372036854775808≤x21+1∧x21+1<9223372036854775808)∧J81 x20 (x21+1) h131)∧((¬ (x133=0))→J81 x20 x21 h131))))∧((¬ (x118=0))→(x118=1→CallsH PR Gid #[.pointer x16] h47 (fun v h137=>∃ (x139a:Option Addr) (x139n:Nat) (x139c:Nat),v=(Value.slice x139a x139n x139c)∧J81 x20 x21 h137))∧((¬ (x118=1))→(x118=2→CallsH PR Gif #[.pointer x16] h47 (fun v h141=>∃ (x143:Int) (x144_0:Int) (x144_1:Int) (x144_2:Int) (x144_3:Int) (x144_4:Int) (x144_5:Int) (x144_6:Bool) (x144_7:Bool) (x144_8:Int) (x145:Int),v=(Value.tuple #[.int .i64 x143,.agg #[.int .i64 x144_0,.int .i64 x144_1,.int .i64 x144_2,.int .u64 x144_3,.int .i64 x144_4,.int .i64 x144_5,.bool x144_6,.bool x144_7,.int .i64 x144_8],.int .i64 x145])∧J81 x20 x21 h141))∧((¬ (x118=2))→(x118=3→∃ (x147:Int),cellH h47 h26.size 9=some (.int .i64 x147)∧∃ (x149:Int),cellH h47 h26.size 10=some (.int .i64 x149)∧∃ (x151a:Option Addr) (x151n:Nat) (x151c:Nat),cellH h47 h26.size 11=some (.slice x151a x151n x151c)∧CallsH PR Gig #[.pointer x16,.int .i64 x147,.int .i64 x149,.slice x151a x151n x151c] h47 (fun v h153=>∃ (x155:Int),v=(Value.int .i64 x155)∧J81 x20 x21 h153))∧((¬ (x118=3))→∃ J157:Bool→Heap→Prop,(∀ (x156:Bool) (h159:Heap),J157 x156 h159→(x156=true→∃ (x160:Int),cellH h159 h26.size 9=some (.int .i64 x160)∧∃ (x162:Int),cellH h159 h26.size 10=some (.int .i64 x162)∧∃ (x164:Int),cellH h159 h26.size 0=some (.int .i64 x164)∧CallsH PR Gia #[.pointer x16,.int .i64 x160,.int .i64 x162,.bool (decide (x164=5))] h159 (fun v h167=>∃ (x169:Int),v=(Value.int .i64 x169)∧J81 x20 x21 h167))∧(x156=false→(x118=6→CallsH PR Gic #[.pointer x16] h159 (fun v h171=>∃ (x173:Int) (x174:Int),v=(Value.tuple #[.int .i64 x173,.int .i64 x174])∧J81 x20 x21 h171))∧((¬ (x118=6))→(x118=7→∃ (x176:Int),cellH h159 h26.size 9=some (.int .i64 x176)∧CallsH PR Gi8 #[.pointer x16,.int .i64 x176] h159 (fun v h178=>∃ (x180:Int),v=(Value.int .i64 x180)∧J81 x20 x21 h178))∧((¬ (x118=7))→∃ (x181:Int),cellH h159 h26.size 10=some (.int .i64 x181)∧CallsH PR Gj5 #[.int .u64 x20,.int .i64 x181] h159 (fun v h183=>∃ (x185:Int),v=(Value.int .u64 x185)∧CallsH PR Gib #[.pointer x16,.int .u64 x185] h183 (fun v h186=>∃ (x188a:Option Addr) (x188n:Nat) (x188c:Nat) (x189:Int),v=(Value.tuple #[.slice x188a x188n x188c,.int .i64 x189])∧(-9223372036854775808≤x21 - (x188n:Int)∧x21 - (x188n:Int)<9223372036854775808)∧J81 x185 (x21 - (x188n:Int)) h186))))))∧(x118=4→J157 (decide (x118=4)) h47)∧((¬ (x118=4))→J157 (decide (x118=5)) h47)))))))∧(((decide (x22<(p2n:Int))) && (decide (x22<120)))=false→CallsH PR Gib #[.pointer x16,.int .u64 (IntKind.u64.wrap (x20+1000))] h26 (fun v h194=>∃ (x196a:Option Addr) (x196n:Nat) (x196c:Nat) (x197:Int),v=(Value.tuple #[.slice x196a x196n x196c,.int .i64 x197])∧(((!decide (x197=0)) || (!decide ((x196n:Int)=x21)))=true→K false h194)∧(((!decide (x197=0)) || (!decide ((x196n:Int)=x21)))=false→∃ (I201:Int→Heap→Prop) (mu202:Int→Heap→Nat),I201 0 h194∧∀ (x200:Int) (h204:Heap),I201 x200 h204→(x200<4→CallsH PR Glv #[.pointer x9,.agg #[.int .i64 x200,.int .u64 1]] h204 (fun v h206=>∃ (x208:Int) (x209:Int) (x210:Int),v=(Value.tuple #[.int .i64 x208,.int .i64 x209,.int .i64 x210])∧(((!decide (x210=0)) || (!decide (x208=1)))=true→K false h206)∧(((!decide (x210=0)) || (!decide (x208=1)))=false→(-9223372036854775808≤x200+1∧x200+1<9223372036854775808)∧(I201 (x200+1) h206∧mu202 (x200+1) h206<mu202 x200 h204))))∧((¬ (x200<4))→CallsH PR Gi9 #[.pointer x16] h204 (fun v h214=>∃ (x216:Int) (x217:Int),v=(Value.tuple #[.int .i64 x216,.int .i64 x217])∧K (decide (x216=0)) h214))))))))))))
theorem Gbp (p0:Int) (p1:Int) (p2a:Option Addr) (p2n:Nat) (p2c:Nat) (R:Value→Heap→Prop) (h:Heap) (H:Gbo p0 p1 p2a p2n p2c (fun r0 h'=>R (Value.bool r0) h') h):CallsH PR Giz #[.int .u8 p0,.int .u8 p1,.slice p2a p2n p2c] h R:=by
 refine zD (args:=[.int .u8 p0,.int .u8 p1,.slice p2a p2n p2c]) Tryz.func9 U U ?_
 intro f hf
 have e0:=hf 0 _ rfl
 have e1:=hf 1 _ rfl
 have e2:=hf 2 _ rfl
 clear hf
 unfold Gbo at H
 refine ze ?_
 refine zc U ?_
 refine za (zg (v:=.bool false) U ?_)
 refine zh ?_
 refine ze ?_
 refine ze ?_
 refine zc U ?_
 refine za (zG (vs:=[]) en_22 zy (CallsH.mono H ?_))
 clear H
 rintro _ h1 ⟨x3,rfl,H⟩
 refine za (yi U ?_)
 refine zh ?_
 refine zz (!x3) U ?_ ?_
 ·intro hb
  replace H:=H.1 (zt hb)
  refine ze ?_
  refine zc U ?_
  refine za (zg (v:=.bool false) U ?_)
  refine zh ?_
  refine zx ?_
  exact zv (zq U zu) H
 ·intro hb
  replace H:=H.2 (zL hb)
  refine zC ?_
  refine ze ?_
  refine ze ?_
  refine zc U ?_
  refine za (zd (v:=.slice p2a p2n p2c) e2 ?_)
  refine za (zG (vs:=[.slice p2a p2n p2c]) en_32 (zm U zy) (CallsH.mono H ?_))
  clear H
  rintro _ h4 ⟨x6,rfl,H⟩
  refine za (yi U ?_)
  refine zh ?_
  refine zz (!x6) U ?_ ?_
  ·intro hb
   replace H:=H.1 (zt hb)
   refine ze ?_
   refine zc U ?_
   refine za (zg (v:=.bool true) U ?_)
   refine zh ?_
   refine zx ?_
   exact zv (zq U zu) H
  ·intro hb
   replace H:=H.2 (zL hb)
   refine zC ?_
   refine ze ?_
   refine zc U ?_
   refine za (zG (vs:=[]) en_23 zy (CallsH.mono H ?_))
   clear H
   rintro _ h7 ⟨x9,rfl,H⟩
   refine za (zg (v:=.pointer x9) U ?_)
   refine zh ?_
   refine ze ?_
   refine zc U ?_
   refine za (zd (v:=.pointer x9) U ?_)
   refine za (zd (v:=.int .u8 p0) e0 ?_)
   refine za (op_conv U (congrArg (Option.map fun _=>()) un_5) un_3 U ?_)
   refine za (op_rem U U (by decide) U ?_)
   obtain⟨c11,H⟩:=H
   refine za (yf U U (zU c11) ?_)
   refine za (zd (v:=.int .u8 p1) e1 ?_)
   refine za (op_conv U (congrArg (Option.map fun _=>()) un_5) un_37 U ?_)
   refine za (op_rem U U (by decide) U ?_)
   refine za (yf U U U ?_)
   refine za (zG (vs:=[.pointer x9,.int .i64 (1+((IntKind.i64.wrap p0).tmod 8)),.int .u64 (IntKind.u64.wrap (1+((IntKind.u64.wrap p1).tmod 20)))]) en_24 (zm U (zm U (zm U zy))) (CallsH.mono H ?_))
   clear H
   rintro _ h14 ⟨x16,x17,rfl,H⟩
   refine za (zd (v:=.tuple #[.pointer x16,.int .i64 x17]) U ?_)
   refine za (zB U U ?_)
   refine za (zB U U ?_)
   refine za (zg (v:=.pointer x16) U ?_)
   refine za (zg (v:=.int .i64 x17) U ?_)
   refine zh ?_
   refine ze ?_
   refine ze ?_
   refine zc U ?_
   refine za (zd (v:=.pointer x16) U ?_)
   refine za (op_eq_ptr_nil U U un_28 ?_)
   refine za (zd (v:=.bool x16.isNone) U ?_)
   refine zF (b:=!x16.isNone) (zi U U) (Z .i64 x17) (fun hb N hN=>zd (v:=.int .i64 x17) U hN) ?_
   refine zF (b:=!x16.isNone) (zi U U) (W (!decide (x17=0))) (fun hb N hN=>op_neq (gv hb) U hN) ?_
   refine za (zR U U (fun hq=>(gv (zP hq))) ?_)
   refine zh ?_
   refine zz (x16.isNone || (!decide (x17=0))) U ?_ ?_
   ·intro hb
    replace H:=H.1 hb
    refine ze ?_
    refine zc U ?_
    refine za (zg (v:=.bool false) U ?_)
    refine zh ?_
    refine zx ?_
    exact zv (zq U zu) H
   ·intro hb
    replace H:=H.2 hb
    refine zC ?_
    refine ze ?_
    refine zc U ?_
    refine za (zg (v:=.int .u64 0) U ?_)
    refine zh ?_
    refine ze ?_
    refine zc U ?_
    refine za (zg (v:=.int .i64 0) U ?_)
    refine zh ?_
    refine ze ?_
    refine ze ?_
    refine zc U ?_
    refine za (zg (v:=.int .i64 0) U ?_)
    refine zh ?_
    refine zK ?_
    obtain⟨I23,mu24,hI,H⟩:=H
    obtain⟨I25,mu25,hin25,hout25,hmu25⟩ : ∃ (J25:Fr→Heap→Prop) (m:Fr→Heap→Nat),(∀ f hz (x20:Int) (x21:Int) (x22:Int),f 10 = .int .u64 x20→f 11 = .int .i64 x21→f 12 = .int .i64 x22→f 2 = .slice p2a p2n p2c→f 7 = .pointer x9→f 8 = .pointer x16→I23 x20 x21 x22 hz→J25 f hz)∧(∀ f hz,J25 f hz→∃ (x20:Int) (x21:Int) (x22:Int),f 10 = .int .u64 x20∧f 11 = .int .i64 x21∧f 12 = .int .i64 x22∧f 2 = .slice p2a p2n p2c∧f 7 = .pointer x9∧f 8 = .pointer x16∧I23 x20 x21 x22 hz)∧(∀ f hz (x20:Int) (x21:Int) (x22:Int),f 10 = .int .u64 x20→f 11 = .int .i64 x21→f 12 = .int .i64 x22→m f hz=mu24 x20 x21 x22 hz):=⟨fun f hz=>∃ (x20:Int) (x21:Int) (x22:Int),f 10 = .int .u64 x20∧f 11 = .int .i64 x21∧f 12 = .int .i64 x22∧f 2 = .slice p2a p2n p2c∧f 7 = .pointer x9∧f 8 = .pointer x16∧I23 x20 x21 x22 hz,fun f hz=>mu24 (dInt (f 10)) (dInt (f 11)) (dInt (f 12)) hz,fun _ _ x20 x21 x22 a0 a1 a2 a3 a4 a5 z=>⟨x20,x21,x22,a0,a1,a2,a3,a4,a5,z⟩,fun _ _ hz=>hz,fun f hz x20 x21 x22 a0 a1 a2=>by simp only [a0,a1,a2]; rfl⟩
    refine yb I25 mu25 (hin25 _ _ _ _ _ U U U e2 U U hI) ?_
    clear hI
    intro f h26 hf
    obtain⟨x20,x21,x22,a25_0,a25_1,a25_2,a25_3,a25_4,a25_5,hJ⟩:=hout25 _ _ hf
    replace H:=H x20 x21 x22 h26 hJ
    refine ze ?_
    refine ze ?_
    refine zc U ?_
    refine za (zd (v:=.int .i64 x22) a25_2 ?_)
    refine za (zd (v:=.slice p2a p2n p2c) a25_3 ?_)
    refine za (zN U un_83 ?_)
    refine za (zY U U ?_)
    refine za (zd (v:=.bool (decide (x22<(p2n:Int)))) U ?_)
    refine zF (b:=decide (x22<(p2n:Int))) (zi U U) (Z .i64 x22) (fun hb N hN=>zd (v:=.int .i64 x22) a25_2 hN) ?_
    refine zF (b:=decide (x22<(p2n:Int))) (zi U U) (W (decide (x22<120))) (fun hb N hN=>zY (gv hb) U hN) ?_
    refine za (zV U (fun hq=>(gv hq)) U ?_)
    refine zh ?_
    refine zz ((decide (x22<(p2n:Int))) && (decide (x22<120))) U ?_ ?_
    ·intro hb
     replace H:=H.1 hb
     refine zC ?_
     refine ze ?_
     refine zK ?_
     refine ze ?_
     refine zc U ?_
     refine za (zd (v:=.slice p2a p2n p2c) a25_3 ?_)
     refine za (zd (v:=.int .i64 x22) a25_2 ?_)
     obtain⟨b30,o31,rfl,H⟩:=H
     obtain⟨c29,H⟩:=H
     refine za (zE U U ei_83 c29 ?_)
     obtain⟨x33_0,x33_1,x33_2,x33_3,x33_4,x33_5,x33_6,x33_7,x33_8,x33_9,x33_10,x33_11a,x33_11n,x33_11c,c34,H⟩:=H
     refine za (zS U ag_93 c34 ?_)
     obtain⟨h35,c36⟩ : ∃ h35,h35=h26.push (.cells #[.int .i64 0,.int .i64 0,.int .i64 0,.int .u64 0,.int .i64 0,.int .i64 0,.int .u64 0,.int .i64 0,.int .i64 0,.int .i64 0,.int .i64 0,.slice none 0 0] 93 (0,0)):=⟨_,rfl⟩
     replace H:=H h35 c36
     refine za (zW z_93 c36 ?_)
     obtain⟨h38,c37,H⟩:=H
     refine za (zI (v:=.agg #[.int .i64 x33_0,.int .i64 x33_1,.int .i64 x33_2,.int .u64 x33_3,.int .i64 x33_4,.int .i64 x33_5,.int .u64 x33_6,.int .i64 x33_7,.int .i64 x33_8,.int .i64 x33_9,.int .i64 x33_10,.slice x33_11a x33_11n x33_11c]) U U sz_93 U c37 ?_)
     refine zh ?_
     refine ze ?_
     refine zc U ?_
     obtain⟨h39,c40⟩ : ∃ h39,h39=h38.push (.cells #[.slice none 0 0,.slice none 0 0,.slice none 0 0,.slice none 0 0] 115 (0,0)):=⟨_,rfl⟩
     replace H:=H h39 c40
     refine za (zW z_115 c40 ?_)
     refine zh ?_
     refine ze ?_
     refine zc U ?_
     obtain⟨h41,c42⟩ : ∃ h41,h41=h39.push (.cells #[.int .i64 0,.int .i64 0,.int .i64 0,.int .i64 0] 116 (0,0)):=⟨_,rfl⟩
     replace H:=H h41 c42
     refine za (zW z_116 c42 ?_)
     refine zh ?_
     refine ze ?_
     refine ze ?_
     refine zc U ?_
     refine za (zg (v:=.int .i64 0) U ?_)
     refine zh ?_
     refine zK ?_
     obtain⟨I44,mu45,hI,H⟩:=H
     obtain⟨I46,mu46,hin46,hout46,hmu46⟩ : ∃ (J46:Fr→Heap→Prop) (m:Fr→Heap→Nat),(∀ f hz (x43:Int),f 16 = .int .i64 x43→f 2 = .slice (some ⟨b30,o31,none⟩) p2n p2c→f 7 = .pointer x9→f 8 = .pointer x16→f 10 = .int .u64 x20→f 11 = .int .i64 x21→f 12 = .int .i64 x22→f 13 = .pointer (some ⟨h26.size,0,none⟩)→f 14 = .pointer (some ⟨h38.size,0,none⟩)→f 15 = .pointer (some ⟨h39.size,0,none⟩)→I44 x43 hz→J46 f hz)∧(∀ f hz,J46 f hz→∃ (x43:Int),f 16 = .int .i64 x43∧f 2 = .slice (some ⟨b30,o31,none⟩) p2n p2c∧f 7 = .pointer x9∧f 8 = .pointer x16∧f 10 = .int .u64 x20∧f 11 = .int .i64 x21∧f 12 = .int .i64 x22∧f 13 = .pointer (some ⟨h26.size,0,none⟩)∧f 14 = .pointer (some ⟨h38.size,0,none⟩)∧f 15 = .pointer (some ⟨h39.size,0,none⟩)∧I44 x43 hz)∧(∀ f hz (x43:Int),f 16 = .int .i64 x43→m f hz=mu45 x43 hz):=⟨fun f hz=>∃ (x43:Int),f 16 = .int .i64 x43∧f 2 = .slice (some ⟨b30,o31,none⟩) p2n p2c∧f 7 = .pointer x9∧f 8 = .pointer x16∧f 10 = .int .u64 x20∧f 11 = .int .i64 x21∧f 12 = .int .i64 x22∧f 13 = .pointer (some ⟨h26.size,0,none⟩)∧f 14 = .pointer (some ⟨h38.size,0,none⟩)∧f 15 = .pointer (some ⟨h39.size,0,none⟩)∧I44 x43 hz,fun f hz=>mu45 (dInt (f 16)) hz,fun _ _ x43 a0 a1 a2 a3 a4 a5 a6 a7 a8 a9 z=>⟨x43,a0,a1,a2,a3,a4,a5,a6,a7,a8,a9,z⟩,fun _ _ hz=>hz,fun f hz x43 a0=>by simp only [a0]; rfl⟩
     refine yb I46 mu46 (hin46 _ _ _ U a25_3 a25_4 a25_5 a25_0 a25_1 a25_2 U U U hI) ?_
     clear hI
     intro f h47 hf
     obtain⟨x43,a46_0,a46_1,a46_2,a46_3,a46_4,a46_5,a46_6,a46_7,a46_8,a46_9,hJ⟩:=hout46 _ _ hf
     replace H:=H x43 h47 hJ
     refine ze ?_
     refine ze ?_
     refine zc U ?_
     refine za (zd (v:=.int .i64 x43) a46_0 ?_)
     refine za (zY U U ?_)
     refine zh ?_
     refine zz (decide (x43<4)) U ?_ ?_
     ·intro hb
      replace H:=H.1 (zo hb)
      refine zC ?_
      refine ze ?_
      refine zK ?_
      refine ze ?_
      refine zc U ?_
      refine za (zd (v:=.int .i64 x43) a46_0 ?_)
      refine za (zX (vs:=[(0,.int .i64 x43),(1,.int .u64 1)]) (cs:=#[.int .i64 x43,.int .u64 1]) z_39 fs_39 (zM U (zM U zT)) U ?_)
      obtain⟨h49,c50⟩ : ∃ h49,h49=h47.push (.cells #[.int .i64 0,.int .u64 0] 39 (0,0)):=⟨_,rfl⟩
      replace H:=H h49 c50
      refine za (zW z_39 c50 ?_)
      obtain⟨h52,c51,H⟩:=H
      refine za (zI (v:=.agg #[.int .i64 x43,.int .u64 1]) U U sz_39 U c51 ?_)
      refine zh ?_
      refine ze ?_
      refine zc U ?_
      refine za (zd (v:=.pointer x9) a46_2 ?_)
      obtain⟨x53_0,x53_1,c54,H⟩:=H
      refine za (zS U ag_39 c54 ?_)
      refine za (zG (vs:=[.pointer x9,.agg #[.int .i64 x53_0,.int .u64 x53_1]]) en_49 (zm U (zm U zy)) (CallsH.mono H ?_))
      clear H
      rintro _ h55 ⟨x57,x58,rfl,H⟩
      refine za (zd (v:=.tuple #[.int .i64 x57,.int .i64 x58]) U ?_)
      refine za (zB U U ?_)
      refine za (zB U U ?_)
      refine za (zg (v:=.int .i64 x57) U ?_)
      refine za (zg (v:=.int .i64 x58) U ?_)
      refine zh ?_
      refine ze ?_
      refine zc U ?_
      refine za (zd (v:=.int .i64 x43) a46_0 ?_)
      refine za (zd (v:=.pointer x9) a46_2 ?_)
      obtain⟨x59_0,x59_1,c60,H⟩:=H
      refine za (zS U ag_39 c60 ?_)
      refine za (zd (v:=.int .i64 x57) U ?_)
      refine za (zG (vs:=[.pointer x9,.agg #[.int .i64 x59_0,.int .u64 x59_1],.int .i64 0,.int .i64 x57]) en_20 (zm U (zm U (zm U (zm U zy)))) (CallsH.mono H ?_))
      clear H
      rintro _ h61 ⟨x63a,x63n,x63c,x64,rfl,H⟩
      refine za (zd (v:=.tuple #[.slice x63a x63n x63c,.int .i64 x64]) U ?_)
      refine za (zB U U ?_)
      refine za (zB U U ?_)
      obtain⟨c65,H⟩:=H
      refine za (zQ a46_8 U ei_115 c65 ?_)
      obtain⟨h67,c66,H⟩:=H
      refine za (zI (v:=.slice x63a x63n x63c) U U sz_23 U c66 ?_)
      refine zh ?_
      refine zc U ?_
      refine za (zd (v:=.int .i64 x43) a46_0 ?_)
      refine za (zd (v:=.pointer x9) a46_2 ?_)
      obtain⟨x68_0,x68_1,c69,H⟩:=H
      refine za (zS U ag_39 c69 ?_)
      refine za (zG (vs:=[.pointer x9,.agg #[.int .i64 x68_0,.int .u64 x68_1]]) en_27 (zm U (zm U zy)) (CallsH.mono H ?_))
      clear H
      rintro _ h70 ⟨x72,x73,x74,rfl,H⟩
      refine za (zd (v:=.tuple #[.int .i64 x72,.int .i64 x73,.int .i64 x74]) U ?_)
      refine za (zB U U ?_)
      refine za (zB U U ?_)
      refine za (zB U U ?_)
      obtain⟨c75,H⟩:=H
      refine za (zQ a46_9 U ei_116 c75 ?_)
      obtain⟨h77,c76,H⟩:=H
      refine za (zI (v:=.int .i64 x72) U U sz_3 U c76 ?_)
      refine zh ?_
      refine zc U ?_
      refine za (zd (v:=.int .i64 x43) a46_0 ?_)
      obtain⟨c78,H⟩:=H
      refine za (yf U U (zU c78) ?_)
      refine za (zg (v:=.int .i64 (x43+1)) U ?_)
      refine zh ?_
      exact And.intro (hin46 _ _ _ rfl a46_1 a46_2 a46_3 a46_4 a46_5 a46_6 a46_7 a46_8 a46_9 H.1) (yk (hmu46 _ _ _ rfl) (hmu46 _ _ _ a46_0) H.2)
     ·intro hb
      replace H:=H.2 (zn hb)
      refine ya ?_
      obtain⟨J81,HR,H⟩:=H
      obtain⟨J82,hin82,hout82⟩ : ∃ J82:Fr→Heap→Prop,(∀ f hz (x79:Int) (x80:Int),f 10 = .int .u64 x79→f 11 = .int .i64 x80→f 2 = .slice (some ⟨b30,o31,none⟩) p2n p2c→f 7 = .pointer x9→f 8 = .pointer x16→f 12 = .int .i64 x22→f 13 = .pointer (some ⟨h26.size,0,none⟩)→f 14 = .pointer (some ⟨h38.size,0,none⟩)→f 15 = .pointer (some ⟨h39.size,0,none⟩)→J81 x79 x80 hz→J82 f hz)∧(∀ f hz,J82 f hz→∃ (x79:Int) (x80:Int),f 10 = .int .u64 x79∧f 11 = .int .i64 x80∧f 2 = .slice (some ⟨b30,o31,none⟩) p2n p2c∧f 7 = .pointer x9∧f 8 = .pointer x16∧f 12 = .int .i64 x22∧f 13 = .pointer (some ⟨h26.size,0,none⟩)∧f 14 = .pointer (some ⟨h38.size,0,none⟩)∧f 15 = .pointer (some ⟨h39.size,0,none⟩)∧J81 x79 x80 hz):=⟨fun f hz=>∃ (x79:Int) (x80:Int),f 10 = .int .u64 x79∧f 11 = .int .i64 x80∧f 2 = .slice (some ⟨b30,o31,none⟩) p2n p2c∧f 7 = .pointer x9∧f 8 = .pointer x16∧f 12 = .int .i64 x22∧f 13 = .pointer (some ⟨h26.size,0,none⟩)∧f 14 = .pointer (some ⟨h38.size,0,none⟩)∧f 15 = .pointer (some ⟨h39.size,0,none⟩)∧J81 x79 x80 hz,fun _ _ x79 x80 a0 a1 a2 a3 a4 a5 a6 a7 a8 z=>⟨x79,x80,a0,a1,a2,a3,a4,a5,a6,a7,a8,z⟩,fun _ _ hz=>hz⟩
      refine ym J82 ?_ ?_
      ·skip
       refine ze ?_
       refine zc U ?_
       refine za (zf a46_7 fo_93_0 ?_)
       obtain⟨x118,c119,H⟩:=H
       refine za (zk U ag_3 c119 ?_)
       refine zh ?_
       refine zK ?_
       refine ze ?_
       refine zc U ?_
       refine za (op_eql U U ?_)
       refine za (zg (v:=.bool (decide (x118=0))) U ?_)
       refine zh ?_
       refine zz (decide (x118=0)) U ?_ ?_
       ·intro hb
        replace H:=H.1 (zo hb)
        refine ze ?_
        refine zc U ?_
        refine za (zd (v:=.int .u64 x20) a46_4 ?_)
        refine za (zf a46_7 fo_93_1 ?_)
        refine za (zf U fo_43_2 ?_)
        obtain⟨x121,c122,H⟩:=H
        refine za (zk U ag_37 c122 ?_)
        refine za (op_rem U U (by decide) U ?_)
        refine za (op_conv U (congrArg (Option.map fun _=>()) un_37) un_3 U ?_)
        refine za (zG (vs:=[.int .u64 x20,.int .i64 (IntKind.i64.wrap (x121.tmod 300))]) en_37 (zm U (zm U zy)) (CallsH.mono H ?_))
        clear H
        rintro _ h124 ⟨x126,rfl,H⟩
        refine za (zf a46_7 fo_93_1 ?_)
        refine za (zf U fo_43_2 ?_)
        obtain⟨h128,c127,H⟩:=H
        refine za (zI (v:=.int .u64 x126) U U sz_37 U c127 ?_)
        refine zh ?_
        refine ze ?_
        refine zc U ?_
        refine za (zd (v:=.pointer x16) a46_3 ?_)
        refine za (zf a46_7 fo_93_1 ?_)
        obtain⟨x129_0,x129_1,x129_2,x129_3,x129_4,x129_5,x129_6,x129_7,c130,H⟩:=H
        refine za (zS U ag_43 c130 ?_)
        refine za (zG (vs:=[.pointer x16,.agg #[.int .i64 x129_0,.int .i64 x129_1,.int .u64 x129_2,.int .i64 x129_3,.int .i64 x129_4,.int .u64 x129_5,.int .i64 x129_6,.int .i64 x129_7]]) en_16 (zm U (zm U zy)) (CallsH.mono H ?_))
        clear H
        rintro _ h131 ⟨x133,rfl,H⟩
        refine za (op_eql U U ?_)
        refine zh ?_
        refine zz (decide (x133=0)) U ?_ ?_
        ·intro hb
         replace H:=H.1 (zo hb)
         refine zc U ?_
         refine za (zd (v:=.int .i64 x21) a46_5 ?_)
         obtain⟨c135,H⟩:=H
         refine za (yf U U (zU c135) ?_)
         refine za (zg (v:=.int .i64 (x21+1)) U ?_)
         refine zh ?_
         exact hin82 _ _ _ _ a46_4 rfl a46_1 a46_2 a46_3 a46_6 a46_7 a46_8 a46_9 H
        ·intro hb
         replace H:=H.2 (zn hb)
         refine zC ?_
         exact hin82 _ _ _ _ a46_4 a46_5 a46_1 a46_2 a46_3 a46_6 a46_7 a46_8 a46_9 H
       ·intro hb
        replace H:=H.2 (zn hb)
        refine ze ?_
        refine zc U ?_
        refine za (op_eql U U ?_)
        refine za (zg (v:=.bool (decide (x118=1))) U ?_)
        refine zh ?_
        refine zz (decide (x118=1)) U ?_ ?_
        ·intro hb
         replace H:=H.1 (zo hb)
         refine zc U ?_
         refine za (zd (v:=.pointer x16) a46_3 ?_)
         refine za (zG (vs:=[.pointer x16]) en_17 (zm U zy) (CallsH.mono H ?_))
         clear H
         rintro _ h137 ⟨x139a,x139n,x139c,rfl,H⟩
         refine zh ?_
         exact hin82 _ _ _ _ a46_4 a46_5 a46_1 a46_2 a46_3 a46_6 a46_7 a46_8 a46_9 H
        ·intro hb
         replace H:=H.2 (zn hb)
         refine ze ?_
         refine zc U ?_
         refine za (op_eql U U ?_)
         refine za (zg (v:=.bool (decide (x118=2))) U ?_)
         refine zh ?_
         refine zz (decide (x118=2)) U ?_ ?_
         ·intro hb
          replace H:=H.1 (zo hb)
          refine zc U ?_
          refine za (zd (v:=.pointer x16) a46_3 ?_)
          refine za (zG (vs:=[.pointer x16]) en_25 (zm U zy) (CallsH.mono H ?_))
          clear H
          rintro _ h141 ⟨x143,x144_0,x144_1,x144_2,x144_3,x144_4,x144_5,x144_6,x144_7,x144_8,x145,rfl,H⟩
          refine zh ?_
          exact hin82 _ _ _ _ a46_4 a46_5 a46_1 a46_2 a46_3 a46_6 a46_7 a46_8 a46_9 H
         ·intro hb
          replace H:=H.2 (zn hb)
          refine ze ?_
          refine zc U ?_
          refine za (op_eql U U ?_)
          refine za (zg (v:=.bool (decide (x118=3))) U ?_)
          refine zh ?_
          refine zz (decide (x118=3)) U ?_ ?_
          ·intro hb
           replace H:=H.1 (zo hb)
           refine zc U ?_
           refine za (zd (v:=.pointer x16) a46_3 ?_)
           refine za (zf a46_7 fo_93_2 ?_)
           obtain⟨x147,c148,H⟩:=H
           refine za (zk U ag_3 c148 ?_)
           refine za (zf a46_7 fo_93_3 ?_)
           obtain⟨x149,c150,H⟩:=H
           refine za (zk U ag_3 c150 ?_)
           refine za (zf a46_7 fo_93_4 ?_)
           obtain⟨x151a,x151n,x151c,c152,H⟩:=H
           refine za (zk U ag_23 c152 ?_)
           refine za (zG (vs:=[.pointer x16,.int .i64 x147,.int .i64 x149,.slice x151a x151n x151c]) en_26 (zm U (zm U (zm U (zm U zy)))) (CallsH.mono H ?_))
           clear H
           rintro _ h153 ⟨x155,rfl,H⟩
           refine zh ?_
           exact hin82 _ _ _ _ a46_4 a46_5 a46_1 a46_2 a46_3 a46_6 a46_7 a46_8 a46_9 H
          ·intro hb
           replace H:=H.2 (zn hb)
           obtain⟨J157,HR,H⟩:=H
           obtain⟨J158,hin158,hout158⟩ : ∃ J158:Fr→Heap→Prop,(∀ f hz (x156:Bool),f 155 = .bool x156→f 2 = .slice (some ⟨b30,o31,none⟩) p2n p2c→f 7 = .pointer x9→f 8 = .pointer x16→f 10 = .int .u64 x20→f 11 = .int .i64 x21→f 12 = .int .i64 x22→f 13 = .pointer (some ⟨h26.size,0,none⟩)→f 14 = .pointer (some ⟨h38.size,0,none⟩)→f 15 = .pointer (some ⟨h39.size,0,none⟩)→f 104 = .int .i64 x118→J157 x156 hz→J158 f hz)∧(∀ f hz,J158 f hz→∃ (x156:Bool),f 155 = .bool x156∧f 2 = .slice (some ⟨b30,o31,none⟩) p2n p2c∧f 7 = .pointer x9∧f 8 = .pointer x16∧f 10 = .int .u64 x20∧f 11 = .int .i64 x21∧f 12 = .int .i64 x22∧f 13 = .pointer (some ⟨h26.size,0,none⟩)∧f 14 = .pointer (some ⟨h38.size,0,none⟩)∧f 15 = .pointer (some ⟨h39.size,0,none⟩)∧f 104 = .int .i64 x118∧J157 x156 hz):=⟨fun f hz=>∃ (x156:Bool),f 155 = .bool x156∧f 2 = .slice (some ⟨b30,o31,none⟩) p2n p2c∧f 7 = .pointer x9∧f 8 = .pointer x16∧f 10 = .int .u64 x20∧f 11 = .int .i64 x21∧f 12 = .int .i64 x22∧f 13 = .pointer (some ⟨h26.size,0,none⟩)∧f 14 = .pointer (some ⟨h38.size,0,none⟩)∧f 15 = .pointer (some ⟨h39.size,0,none⟩)∧f 104 = .int .i64 x118∧J157 x156 hz,fun _ _ x156 a0 a1 a2 a3 a4 a5 a6 a7 a8 a9 a10 z=>⟨x156,a0,a1,a2,a3,a4,a5,a6,a7,a8,a9,a10,z⟩,fun _ _ hz=>hz⟩
           refine ym J158 ?_ ?_
           ·skip
            refine ze ?_
            refine zc U ?_
            refine za (op_eql U U ?_)
            refine za (zg (v:=.bool (decide (x118=4))) U ?_)
            refine zh ?_
            refine zz (decide (x118=4)) U ?_ ?_
            ·intro hb
             replace H:=H.1 (zo hb)
             refine zC ?_
             exact hin158 _ _ _ rfl a46_1 a46_2 a46_3 a46_4 a46_5 a46_6 a46_7 a46_8 a46_9 rfl H
            ·intro hb
             replace H:=H.2 (zn hb)
             refine zc U ?_
             refine za (op_eql U U ?_)
             refine za (zg (v:=.bool (decide (x118=5))) U ?_)
             refine zh ?_
             exact hin158 _ _ _ rfl a46_1 a46_2 a46_3 a46_4 a46_5 a46_6 a46_7 a46_8 a46_9 rfl H
           ·clear H
            intro f h159 hf
            obtain⟨x156,a158_0,a158_1,a158_2,a158_3,a158_4,a158_5,a158_6,a158_7,a158_8,a158_9,a158_10,hJ⟩:=hout158 _ _ hf
            have H:=HR x156 h159 hJ
            refine zz (x156) a158_0 ?_ ?_
            ·intro hb
             replace H:=H.1 hb
             refine zc U ?_
             refine za (zd (v:=.pointer x16) a158_3 ?_)
             refine za (zf a158_7 fo_93_2 ?_)
             obtain⟨x160,c161,H⟩:=H
             refine za (zk U ag_3 c161 ?_)
             refine za (zf a158_7 fo_93_3 ?_)
             obtain⟨x162,c163,H⟩:=H
             refine za (zk U ag_3 c163 ?_)
             refine za (zf a158_7 fo_93_0 ?_)
             obtain⟨x164,c165,H⟩:=H
             refine za (zk U ag_3 c165 ?_)
             refine za (op_eql U U ?_)
             refine za (zG (vs:=[.pointer x16,.int .i64 x160,.int .i64 x162,.bool (decide (x164=5))]) en_28 (zm U (zm U (zm U (zm U zy)))) (CallsH.mono H ?_))
             clear H
             rintro _ h167 ⟨x169,rfl,H⟩
             refine zh ?_
             exact hin82 _ _ _ _ a158_4 a158_5 a158_1 a158_2 a158_3 a158_6 a158_7 a158_8 a158_9 H
            ·intro hb
             replace H:=H.2 hb
             refine ze ?_
             refine zc U ?_
             refine za (op_eql a158_10 U ?_)
             refine za (zg (v:=.bool (decide (x118=6))) U ?_)
             refine zh ?_
             refine zz (decide (x118=6)) U ?_ ?_
             ·intro hb
              replace H:=H.1 (zo hb)
              refine zc U ?_
              refine za (zd (v:=.pointer x16) a158_3 ?_)
              refine za (zG (vs:=[.pointer x16]) en_18 (zm U zy) (CallsH.mono H ?_))
              clear H
              rintro _ h171 ⟨x173,x174,rfl,H⟩
              refine zh ?_
              exact hin82 _ _ _ _ a158_4 a158_5 a158_1 a158_2 a158_3 a158_6 a158_7 a158_8 a158_9 H
             ·intro hb
              replace H:=H.2 (zn hb)
              refine ze ?_
              refine zc U ?_
              refine za (op_eql a158_10 U ?_)
              refine za (zg (v:=.bool (decide (x118=7))) U ?_)
              refine zh ?_
              refine zz (decide (x118=7)) U ?_ ?_
              ·intro hb
               replace H:=H.1 (zo hb)
               refine zc U ?_
               refine za (zd (v:=.pointer x16) a158_3 ?_)
               refine za (zf a158_7 fo_93_2 ?_)
               obtain⟨x176,c177,H⟩:=H
               refine za (zk U ag_3 c177 ?_)
               refine za (zG (vs:=[.pointer x16,.int .i64 x176]) en_31 (zm U (zm U zy)) (CallsH.mono H ?_))
               clear H
               rintro _ h178 ⟨x180,rfl,H⟩
               refine zh ?_
               exact hin82 _ _ _ _ a158_4 a158_5 a158_1 a158_2 a158_3 a158_6 a158_7 a158_8 a158_9 H
              ·intro hb
               replace H:=H.2 (zn hb)
               refine ze ?_
               refine zc U ?_
               refine za (zd (v:=.int .u64 x20) a158_4 ?_)
               refine za (zf a158_7 fo_93_3 ?_)
               obtain⟨x181,c182,H⟩:=H
               refine za (zk U ag_3 c182 ?_)
               refine za (zG (vs:=[.int .u64 x20,.int .i64 x181]) en_37 (zm U (zm U zy)) (CallsH.mono H ?_))
               clear H
               rintro _ h183 ⟨x185,rfl,H⟩
               refine za (zg (v:=.int .u64 x185) U ?_)
               refine zh ?_
               refine ze ?_
               refine zc U ?_
               refine za (zd (v:=.pointer x16) a158_3 ?_)
               refine za (zd (v:=.int .u64 x185) U ?_)
               refine za (zG (vs:=[.pointer x16,.int .u64 x185]) en_29 (zm U (zm U zy)) (CallsH.mono H ?_))
               clear H
               rintro _ h186 ⟨x188a,x188n,x188c,x189,rfl,H⟩
               refine za (zd (v:=.tuple #[.slice x188a x188n x188c,.int .i64 x189]) U ?_)
               refine za (zB U U ?_)
               refine za (zB U U ?_)
               refine za (zg (v:=.slice x188a x188n x188c) U ?_)
               refine za (zg (v:=.int .i64 x189) U ?_)
               refine zh ?_
               refine zc U ?_
               refine za (zd (v:=.int .i64 x21) a158_5 ?_)
               refine za (zd (v:=.slice x188a x188n x188c) U ?_)
               refine za (zN U un_70 ?_)
               obtain⟨c190,H⟩:=H
               refine za (op_sub U U (zU c190) ?_)
               refine za (zg (v:=.int .i64 (x21 - (x188n:Int))) U ?_)
               refine zh ?_
               exact hin82 _ _ _ _ rfl rfl a158_1 a158_2 a158_3 a158_6 a158_7 a158_8 a158_9 H
      ·clear H
       intro f h83 hf
       obtain⟨x79,x80,a82_0,a82_1,a82_2,a82_3,a82_4,a82_5,a82_6,a82_7,a82_8,hJ⟩:=hout82 _ _ hf
       have H:=HR x79 x80 h83 hJ
       refine ze ?_
       refine zc U ?_
       refine za (zg (v:=.int .i64 0) U ?_)
       refine zh ?_
       refine zK ?_
       obtain⟨I85,mu86,hI,H⟩:=H
       obtain⟨I87,mu87,hin87,hout87,hmu87⟩ : ∃ (J87:Fr→Heap→Prop) (m:Fr→Heap→Nat),(∀ f hz (x84:Int),f 22 = .int .i64 x84→f 2 = .slice (some ⟨b30,o31,none⟩) p2n p2c→f 7 = .pointer x9→f 8 = .pointer x16→f 10 = .int .u64 x79→f 11 = .int .i64 x80→f 12 = .int .i64 x22→f 13 = .pointer (some ⟨h26.size,0,none⟩)→f 14 = .pointer (some ⟨h38.size,0,none⟩)→f 15 = .pointer (some ⟨h39.size,0,none⟩)→I85 x84 hz→J87 f hz)∧(∀ f hz,J87 f hz→∃ (x84:Int),f 22 = .int .i64 x84∧f 2 = .slice (some ⟨b30,o31,none⟩) p2n p2c∧f 7 = .pointer x9∧f 8 = .pointer x16∧f 10 = .int .u64 x79∧f 11 = .int .i64 x80∧f 12 = .int .i64 x22∧f 13 = .pointer (some ⟨h26.size,0,none⟩)∧f 14 = .pointer (some ⟨h38.size,0,none⟩)∧f 15 = .pointer (some ⟨h39.size,0,none⟩)∧I85 x84 hz)∧(∀ f hz (x84:Int),f 22 = .int .i64 x84→m f hz=mu86 x84 hz):=⟨fun f hz=>∃ (x84:Int),f 22 = .int .i64 x84∧f 2 = .slice (some ⟨b30,o31,none⟩) p2n p2c∧f 7 = .pointer x9∧f 8 = .pointer x16∧f 10 = .int .u64 x79∧f 11 = .int .i64 x80∧f 12 = .int .i64 x22∧f 13 = .pointer (some ⟨h26.size,0,none⟩)∧f 14 = .pointer (some ⟨h38.size,0,none⟩)∧f 15 = .pointer (some ⟨h39.size,0,none⟩)∧I85 x84 hz,fun f hz=>mu86 (dInt (f 22)) hz,fun _ _ x84 a0 a1 a2 a3 a4 a5 a6 a7 a8 a9 z=>⟨x84,a0,a1,a2,a3,a4,a5,a6,a7,a8,a9,z⟩,fun _ _ hz=>hz,fun f hz x84 a0=>by simp only [a0]; rfl⟩
       refine yb I87 mu87 (hin87 _ _ _ U a82_2 a82_3 a82_4 a82_0 a82_1 a82_5 a82_6 a82_7 a82_8 hI) ?_
       clear hI
       intro f h88 hf
       obtain⟨x84,a87_0,a87_1,a87_2,a87_3,a87_4,a87_5,a87_6,a87_7,a87_8,a87_9,hJ⟩:=hout87 _ _ hf
       replace H:=H x84 h88 hJ
       refine ze ?_
       refine ze ?_
       refine zc U ?_
       refine za (zd (v:=.int .i64 x84) a87_0 ?_)
       refine za (zY U U ?_)
       refine zh ?_
       refine zz (decide (x84<4)) U ?_ ?_
       ·intro hb
        replace H:=H.1 (zo hb)
        refine zC ?_
        refine ze ?_
        refine zK ?_
        refine ze ?_
        refine zc U ?_
        refine za (zd (v:=.int .i64 x84) a87_0 ?_)
        refine za (zX (vs:=[(0,.int .i64 x84),(1,.int .u64 1)]) (cs:=#[.int .i64 x84,.int .u64 1]) z_39 fs_39 (zM U (zM U zT)) U ?_)
        obtain⟨h90,c91⟩ : ∃ h90,h90=h88.push (.cells #[.int .i64 0,.int .u64 0] 39 (0,0)):=⟨_,rfl⟩
        replace H:=H h90 c91
        refine za (zW z_39 c91 ?_)
        obtain⟨h93,c92,H⟩:=H
        refine za (zI (v:=.agg #[.int .i64 x84,.int .u64 1]) U U sz_39 U c92 ?_)
        refine zh ?_
        refine ze ?_
        obtain⟨x94_0,x94_1,c95,H⟩:=H
        obtain⟨c96,H⟩:=H
        obtain⟨x97a,x97n,x97c,c98,H⟩:=H
        refine zO Gga 1 [(Y x9),(X #[.int .i64 x94_0,.int .u64 x94_1]),(Z .i64 x84),(Y (some ⟨h38.size,0+x84.toNat * 1,none⟩)),(T x97a x97n x97c),(Z .i64 (x97n:Int)),undef,undef,undef,undef,undef,undef] (by kernel_rfl) U mixed_PR ?_
        refine zA [6] (by decide) U (zw [0,1,2,3,4,5] U ⟨zb U U (zd (v:=.pointer x9) a87_2 ⟨U,U⟩),zb U U (zS U ag_39 c95 ⟨U,U⟩),zb U U (zd (v:=.int .i64 x84) a87_0 ⟨U,U⟩),zb U U (zQ a87_8 U ei_115 c96 ⟨U,U⟩),zb U U (zk U ag_23 c98 ⟨U,U⟩),zb U U (zN U un_23 ⟨U,U⟩),V⟩) U ⟨?_,V⟩
        refine zb U U (zG (vs:=[.pointer x9,.agg #[.int .i64 x94_0,.int .u64 x94_1],.int .i64 0,.int .i64 (x97n:Int)]) en_20 (zm U (zm U (zm U (zm U zy)))) (CallsH.mono H ?_))
        clear H
        rintro _ h99 ⟨x101a,x101n,x101c,x102,rfl,H⟩
        refine⟨[(Value.pointer x9),(Value.agg #[.int .i64 x94_0,.int .u64 x94_1]),(Value.int .i64 x84),(Value.pointer (some ⟨h38.size,0+x84.toNat * 1,none⟩)),(Value.slice x97a x97n x97c),(Value.int .i64 (x97n:Int)),(Value.tuple #[.slice x101a x101n x101c,.int .i64 x102]),(Value.tuple #[.slice x101a x101n x101c,.int .i64 x102]),(Value.slice x101a x101n x101c),(Value.int .i64 x102),(Value.slice x101a x101n x101c),(Value.int .i64 x102)],rfl,(zH [0,1,2,3,4,5] rfl ⟨rfl,rfl,rfl,rfl,rfl,rfl,trivial⟩),?_⟩
        refine zJ U (zw [7,8,9,10,11] U ⟨zb U U (zd (v:=.tuple #[.slice x101a x101n x101c,.int .i64 x102]) U ⟨U,U⟩),zb U U (zB U U ⟨U,U⟩),zb U U (zB U U ⟨U,U⟩),zb U U (zg (v:=.slice x101a x101n x101c) U ⟨U,U⟩),zb U U (zg (v:=.int .i64 x102) U ⟨U,U⟩),V⟩) U ?_
        refine ze ?_
        refine zc U ?_
        refine za (zd (v:=.slice x101a x101n x101c) U ?_)
        refine za (zd (v:=.int .i64 x84) a87_0 ?_)
        obtain⟨c103,H⟩:=H
        refine za (zQ a87_8 U ei_115 c103 ?_)
        obtain⟨x104a,x104n,x104c,c105,H⟩:=H
        refine za (zk U ag_23 c105 ?_)
        refine za (zG (vs:=[.slice x101a x101n x101c,.slice x104a x104n x104c]) en_50 (zm U (zm U zy)) (CallsH.mono H ?_))
        clear H
        rintro _ h106 ⟨x108,rfl,H⟩
        refine za (yi U ?_)
        refine za (zd (v:=.bool (!x108)) U ?_)
        refine zF (b:=!x108) (zi U U) (Y (some ⟨h26.size,0,none⟩)) (fun hb N hN=>zf a87_7 fo_93_0 hN) ?_
        obtain⟨x109,c110,H⟩:=H
        refine zF (b:=!x108) (zi U U) (Z .i64 x109) (fun hb N hN=>zk (gv hb) ag_3 (c110 (zt hb)) hN) ?_
        refine zF (b:=!x108) (zi U U) (W (!decide (x109=3))) (fun hb N hN=>op_neq (gv hb) U hN) ?_
        refine zF (b:=!x108) (zi U U) (W (!decide (x109=3))) (fun hb N hN=>zd (v:=.bool (!decide (x109=3))) (gv hb) hN) ?_
        refine zF (b:=(!x108) && (!(!decide (x109=3)))) (guard_cond U U) (Z .i64 x84) (fun hb N hN=>zd (v:=.int .i64 x84) a87_0 hN) ?_
        obtain⟨c112,H⟩:=H
        refine zF (b:=(!x108) && (!(!decide (x109=3)))) (guard_cond U U) (Y (some ⟨h39.size,0+x84.toNat * 1,none⟩)) (fun hb N hN=>zQ a87_9 (gv hb) ei_116 (c112 hb) hN) ?_
        obtain⟨x113,c114,H⟩:=H
        refine zF (b:=(!x108) && (!(!decide (x109=3)))) (guard_cond U U) (Z .i64 x113) (fun hb N hN=>zk (gv hb) ag_3 (c114 hb) hN) ?_
        refine zF (b:=(!x108) && (!(!decide (x109=3)))) (guard_cond U U) (W (!decide (x113=3))) (fun hb N hN=>op_neq (gv hb) U hN) ?_
        refine zF (b:=!x108) (zi U U) (W ((!decide (x109=3)) || (!decide (x113=3)))) (fun hb N hN=>zR (gv hb) U (fun hq=>(gv (and_i hb (zP hq)))) hN) ?_
        refine za (zV U (fun hq=>(gv hq)) U ?_)
        refine zh ?_
        refine zz ((!x108) && ((!decide (x109=3)) || (!decide (x113=3)))) U ?_ ?_
        ·intro hb
         replace H:=H.1 hb
         refine ze ?_
         refine zc U ?_
         refine za (zg (v:=.bool false) U ?_)
         refine zh ?_
         refine zx ?_
         exact zv (zq U zu) H
        ·intro hb
         replace H:=H.2 hb
         refine zC ?_
         refine zc U ?_
         refine za (zd (v:=.int .i64 x84) a87_0 ?_)
         obtain⟨c116,H⟩:=H
         refine za (yf U U (zU c116) ?_)
         refine za (zg (v:=.int .i64 (x84+1)) U ?_)
         refine zh ?_
         exact And.intro (hin87 _ _ _ rfl a87_1 a87_2 a87_3 a87_4 a87_5 a87_6 a87_7 a87_8 a87_9 H.1) (yk (hmu87 _ _ _ rfl) (hmu87 _ _ _ a87_0) H.2)
       ·intro hb
        replace H:=H.2 (zn hb)
        refine ya ?_
        refine zc U ?_
        refine za (zd (v:=.int .i64 x22) a87_6 ?_)
        obtain⟨c117,H⟩:=H
        refine za (yf U U (zU c117) ?_)
        refine za (zg (v:=.int .i64 (x22+1)) U ?_)
        refine zh ?_
        exact And.intro (hin25 _ _ _ _ _ a87_4 a87_5 rfl a87_1 a87_2 a87_3 H.1) (yk (hmu25 _ _ _ _ _ a87_4 a87_5 rfl) (hmu25 _ _ _ _ _ a25_0 a25_1 a25_2) H.2)
    ·intro hb
     replace H:=H.2 hb
     refine ya ?_
     refine ze ?_
     refine zc U ?_
     refine za (zd (v:=.pointer x16) a25_5 ?_)
     refine za (zd (v:=.int .u64 x20) a25_0 ?_)
     refine za (yf U U U ?_)
     refine za (zG (vs:=[.pointer x16,.int .u64 (IntKind.u64.wrap (x20+1000))]) en_29 (zm U (zm U zy)) (CallsH.mono H ?_))
     clear H
     rintro _ h194 ⟨x196a,x196n,x196c,x197,rfl,H⟩
     refine za (zd (v:=.tuple #[.slice x196a x196n x196c,.int .i64 x197]) U ?_)
     refine za (zB U U ?_)
     refine za (zB U U ?_)
     refine za (zg (v:=.slice x196a x196n x196c) U ?_)
     refine za (zg (v:=.int .i64 x197) U ?_)
     refine zh ?_
     refine ze ?_
     refine ze ?_
     refine zc U ?_
     refine za (zd (v:=.int .i64 x197) U ?_)
     refine za (op_neq U U ?_)
     refine za (zd (v:=.bool (!decide (x197=0))) U ?_)
     refine zF (b:=!(!decide (x197=0))) (zi U U) (T x196a x196n x196c) (fun hb N hN=>zd (v:=.slice x196a x196n x196c) U hN) ?_
     refine zF (b:=!(!decide (x197=0))) (zi U U) (Z .i64 (x196n:Int)) (fun hb N hN=>zN (gv hb) un_70 hN) ?_
     refine zF (b:=!(!decide (x197=0))) (zi U U) (Z .i64 x21) (fun hb N hN=>zd (v:=.int .i64 x21) a25_1 hN) ?_
     refine zF (b:=!(!decide (x197=0))) (zi U U) (W (!decide ((x196n:Int)=x21))) (fun hb N hN=>op_neq (gv hb) (gv hb) hN) ?_
     refine za (zR U U (fun hq=>(gv (zP hq))) ?_)
     refine zh ?_
     refine zz ((!decide (x197=0)) || (!decide ((x196n:Int)=x21))) U ?_ ?_
     ·intro hb
      replace H:=H.1 hb
      refine ze ?_
      refine zc U ?_
      refine za (zg (v:=.bool false) U ?_)
      refine zh ?_
      refine zx ?_
      exact zv (zq U zu) H
     ·intro hb
      replace H:=H.2 hb
      refine zC ?_
      refine ze ?_
      refine ze ?_
      refine zc U ?_
      refine za (zg (v:=.int .i64 0) U ?_)
      refine zh ?_
      refine zK ?_
      obtain⟨I201,mu202,hI,H⟩:=H
      obtain⟨I203,mu203,hin203,hout203,hmu203⟩ : ∃ (J203:Fr→Heap→Prop) (m:Fr→Heap→Nat),(∀ f hz (x200:Int),f 28 = .int .i64 x200→f 7 = .pointer x9→f 8 = .pointer x16→I201 x200 hz→J203 f hz)∧(∀ f hz,J203 f hz→∃ (x200:Int),f 28 = .int .i64 x200∧f 7 = .pointer x9∧f 8 = .pointer x16∧I201 x200 hz)∧(∀ f hz (x200:Int),f 28 = .int .i64 x200→m f hz=mu202 x200 hz):=⟨fun f hz=>∃ (x200:Int),f 28 = .int .i64 x200∧f 7 = .pointer x9∧f 8 = .pointer x16∧I201 x200 hz,fun f hz=>mu202 (dInt (f 28)) hz,fun _ _ x200 a0 a1 a2 z=>⟨x200,a0,a1,a2,z⟩,fun _ _ hz=>hz,fun f hz x200 a0=>by simp only [a0]; rfl⟩
      refine yb I203 mu203 (hin203 _ _ _ U a25_4 a25_5 hI) ?_
      clear hI
      intro f h204 hf
      obtain⟨x200,a203_0,a203_1,a203_2,hJ⟩:=hout203 _ _ hf
      replace H:=H x200 h204 hJ
      refine ze ?_
      refine ze ?_
      refine zc U ?_
      refine za (zd (v:=.int .i64 x200) a203_0 ?_)
      refine za (zY U U ?_)
      refine zh ?_
      refine zz (decide (x200<4)) U ?_ ?_
      ·intro hb
       replace H:=H.1 (zo hb)
       refine zC ?_
       refine ze ?_
       refine zK ?_
       refine ze ?_
       refine zc U ?_
       refine za (zd (v:=.pointer x9) a203_1 ?_)
       refine za (zd (v:=.int .i64 x200) a203_0 ?_)
       refine za (zX (vs:=[(0,.int .i64 x200),(1,.int .u64 1)]) (cs:=#[.int .i64 x200,.int .u64 1]) z_39 fs_39 (zM U (zM U zT)) U ?_)
       refine za (zG (vs:=[.pointer x9,.agg #[.int .i64 x200,.int .u64 1]]) en_27 (zm U (zm U zy)) (CallsH.mono H ?_))
       clear H
       rintro _ h206 ⟨x208,x209,x210,rfl,H⟩
       refine za (zd (v:=.tuple #[.int .i64 x208,.int .i64 x209,.int .i64 x210]) U ?_)
       refine za (zB U U ?_)
       refine za (zB U U ?_)
       refine za (zB U U ?_)
       refine za (zg (v:=.int .i64 x208) U ?_)
       refine za (zg (v:=.int .i64 x209) U ?_)
       refine za (zg (v:=.int .i64 x210) U ?_)
       refine zh ?_
       refine ze ?_
       refine zc U ?_
       refine za (zd (v:=.int .i64 x210) U ?_)
       refine za (op_neq U U ?_)
       refine za (zd (v:=.bool (!decide (x210=0))) U ?_)
       refine zF (b:=!(!decide (x210=0))) (zi U U) (Z .i64 x208) (fun hb N hN=>zd (v:=.int .i64 x208) U hN) ?_
       refine zF (b:=!(!decide (x210=0))) (zi U U) (W (!decide (x208=1))) (fun hb N hN=>op_neq (gv hb) U hN) ?_
       refine za (zR U U (fun hq=>(gv (zP hq))) ?_)
       refine zh ?_
       refine zz ((!decide (x210=0)) || (!decide (x208=1))) U ?_ ?_
       ·intro hb
        replace H:=H.1 hb
        refine ze ?_
        refine zc U ?_
        refine za (zg (v:=.bool false) U ?_)
        refine zh ?_
        refine zx ?_
        exact zv (zq U zu) H
       ·intro hb
        replace H:=H.2 hb
        refine zC ?_
        refine zc U ?_
        refine za (zd (v:=.int .i64 x200) a203_0 ?_)
        obtain⟨c213,H⟩:=H
        refine za (yf U U (zU c213) ?_)
        refine za (zg (v:=.int .i64 (x200+1)) U ?_)
        refine zh ?_
        exact And.intro (hin203 _ _ _ rfl a203_1 a203_2 H.1) (yk (hmu203 _ _ _ rfl) (hmu203 _ _ _ a203_0) H.2)
      ·intro hb
       replace H:=H.2 (zn hb)
       refine ya ?_
       refine ze ?_
       refine zc U ?_
       refine za (zd (v:=.pointer x16) a203_2 ?_)
       refine za (zG (vs:=[.pointer x16]) en_30 (zm U zy) (CallsH.mono H ?_))
       clear H
       rintro _ h214 ⟨x216,x217,rfl,H⟩
       refine za (zd (v:=.tuple #[.int .i64 x216,.int .i64 x217]) U ?_)
       refine za (zB U U ?_)
       refine za (zB U U ?_)
       refine za (zg (v:=.int .i64 x216) U ?_)
       refine za (zg (v:=.int .i64 x217) U ?_)
       refine zh ?_
       refine ze ?_
       refine zc U ?_
       refine za (zd (v:=.int .i64 x216) U ?_)
       refine za (op_eql U U ?_)
       refine za (zg (v:=.bool (decide (x216=0))) U ?_)
       refine zh ?_
       refine zx ?_
       exact zv (zq U zu) H
end Go.Proofs.Vf
