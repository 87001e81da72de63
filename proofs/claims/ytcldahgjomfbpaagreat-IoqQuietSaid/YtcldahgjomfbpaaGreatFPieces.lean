/- Printed by a program of this claim: for each Go function named below a formula over the heap, and the proof that it gives the call of that function. No conditions. -/
import Derived.Test.YtcldahgjomfbpaaGreatBase
namespace Go.Proofs.Vf
open Go Go.Proofs Go.VC
set_option maxRecDepth 100000
set_option maxHeartbeats 4000000
set_option linter.unusedVariables false
def Gcy (p0:Option Addr) (p1a:Option Addr) (p1n:Nat) (p1c:Nat) (K:Bool→Heap→Prop) (h:Heap):Prop:=
 ∃ (I2:Int→Heap→Prop) (mu3:Int→Heap→Nat),I2 0 h∧∀ (x1:Int) (h5:Heap),I2 x1 h5→(x1<(p1n:Int)→∃ (b8:Nat) (o9:Nat),p1a=some ⟨b8,o9,none⟩∧(0≤x1∧x1<(p1n:Int))∧∃ (x11_0:Int) (x11_1:Int) (x11_2:Int) (x11_3:Int),ldCells h5 b8 (o9+x1.toNat * 4) 4=some [.int .i64 x11_0,.int .u64 x11_1,.int .i64 x11_2,.int .i64 x11_3]∧∀ (h13:Heap),h13=h5.push (.cells #[.int .i64 0,.int .u64 0,.int .i64 0,.int .i64 0] 41 (0,0))→∃ (h16:Heap),stCells h5.size h13 0 [.int .i64 x11_0,.int .u64 x11_1,.int .i64 x11_2,.int .i64 x11_3]=some h16∧∃ (x17_0:Int) (x17_1:Int) (x17_2:Int) (x17_3:Int),ldCells h16 h5.size 0 4=some [.int .i64 x17_0,.int .u64 x17_1,.int .i64 x17_2,.int .i64 x17_3]∧CallsH PR Gln #[.pointer p0,.agg #[.int .i64 x17_0,.int .u64 x17_1,.int .i64 x17_2,.int .i64 x17_3]] h16 (fun v h19=>∃ (x21:Bool),v=(Value.bool x21)∧∃ (n22:Nat),((x21=true)→x1=(n22:Int))∧((x21=true)→0≤n22∧n22≤p1c∧p1c≤p1c)∧∃ J28:Bool→Heap→Prop,(∀ (x27:Bool) (h25:Heap),J28 x27 h25→(((!x21) || x27)=true→K false h25)∧(((!x21) || x27)=false→(-9223372036854775808≤x1+1∧x1+1<9223372036854775808)∧(I2 (x1+1) h25∧mu3 (x1+1) h25<mu3 x1 h5)))∧((x21=true)→CallsH PR Gn1 #[.slice (cutA (some ⟨b8,o9,none⟩) 0 p1c 4) n22 p1c,(Value.func (.func Glm) #[] #[.pointer (some ⟨h5.size,0,none⟩)])] h19 (fun v h25=>∃ (x27:Bool),v=(Value.bool x27)∧J28 x27 h25))∧((x21=false)→∃ (x27:Bool),J28 x27 h19)))∧((¬ (x1<(p1n:Int)))→K ((decide (1≤(p1n:Int))) && (decide ((p1n:Int)≤16))) h5)
theorem Gd1 (p0:Option Addr) (p1a:Option Addr) (p1n:Nat) (p1c:Nat) (R:Value→Heap→Prop) (h:Heap) (H:Gcy p0 p1a p1n p1c (fun r0 h'=>R (Value.bool r0) h') h):CallsH PR Gll #[.pointer p0,.slice p1a p1n p1c] h R:=by
 refine zD (args:=[.pointer p0,.slice p1a p1n p1c]) Tryz.func64 U U ?_
 intro f hf
 have e0:=hf 0 _ rfl
 have e1:=hf 1 _ rfl
 clear hf
 unfold Gcy at H
 refine ze ?_
 refine zc U ?_
 refine za (zg (v:=.bool false) U ?_)
 refine zh ?_
 refine ze ?_
 refine ze ?_
 refine zc U ?_
 refine za (zd (v:=.slice p1a p1n p1c) e1 ?_)
 refine za (zN U un_157 ?_)
 refine za (zd (v:=.int .i64 0) U ?_)
 refine zh ?_
 refine zK ?_
 obtain⟨I2,mu3,hI,H⟩:=H
 obtain⟨I4,mu4,hin4,hout4,hmu4⟩ : ∃ (J4:Fr→Heap→Prop) (m:Fr→Heap→Nat),(∀ f hz (x1:Int),f 9 = .int .i64 x1→f 0 = .pointer p0→f 1 = .slice p1a p1n p1c→f 7 = .slice p1a p1n p1c→f 8 = .int .i64 (p1n:Int)→I2 x1 hz→J4 f hz)∧(∀ f hz,J4 f hz→∃ (x1:Int),f 9 = .int .i64 x1∧f 0 = .pointer p0∧f 1 = .slice p1a p1n p1c∧f 7 = .slice p1a p1n p1c∧f 8 = .int .i64 (p1n:Int)∧I2 x1 hz)∧(∀ f hz (x1:Int),f 9 = .int .i64 x1→m f hz=mu3 x1 hz):=⟨fun f hz=>∃ (x1:Int),f 9 = .int .i64 x1∧f 0 = .pointer p0∧f 1 = .slice p1a p1n p1c∧f 7 = .slice p1a p1n p1c∧f 8 = .int .i64 (p1n:Int)∧I2 x1 hz,fun f hz=>mu3 (dInt (f 9)) hz,fun _ _ x1 a0 a1 a2 a3 a4 z=>⟨x1,a0,a1,a2,a3,a4,z⟩,fun _ _ hz=>hz,fun f hz x1 a0=>by simp only [a0]; rfl⟩
 refine yb I4 mu4 (hin4 _ _ _ U e0 e1 U U hI) ?_
 clear hI
 intro f h5 hf
 obtain⟨x1,a4_0,a4_1,a4_2,a4_3,a4_4,hJ⟩:=hout4 _ _ hf
 replace H:=H x1 h5 hJ
 refine ze ?_
 refine zc U ?_
 refine za (zY a4_0 a4_4 ?_)
 refine zh ?_
 refine ze ?_
 refine zz (decide (x1<(p1n:Int))) U ?_ ?_
 ·intro hb
  replace H:=H.1 (zo hb)
  refine zC ?_
  refine ze ?_
  refine zK ?_
  refine ze ?_
  refine zc U ?_
  refine za (zd (v:=.int .i64 x1) a4_0 ?_)
  obtain⟨b8,o9,rfl,H⟩:=H
  obtain⟨c7,H⟩:=H
  refine za (zE a4_3 a4_0 ei_157 c7 ?_)
  obtain⟨x11_0,x11_1,x11_2,x11_3,c12,H⟩:=H
  refine za (zS U ag_41 c12 ?_)
  obtain⟨h13,c14⟩ : ∃ h13,h13=h5.push (.cells #[.int .i64 0,.int .u64 0,.int .i64 0,.int .i64 0] 41 (0,0)):=⟨_,rfl⟩
  replace H:=H h13 c14
  refine za (zW z_41 c14 ?_)
  refine za (zg (v:=.int .i64 x1) U ?_)
  obtain⟨h16,c15,H⟩:=H
  refine za (zI (v:=.agg #[.int .i64 x11_0,.int .u64 x11_1,.int .i64 x11_2,.int .i64 x11_3]) U U sz_41 U c15 ?_)
  refine zh ?_
  refine ze ?_
  refine zc U ?_
  refine za (zd (v:=.pointer p0) a4_1 ?_)
  obtain⟨x17_0,x17_1,x17_2,x17_3,c18,H⟩:=H
  refine za (zS U ag_41 c18 ?_)
  refine za (zG (vs:=[.pointer p0,.agg #[.int .i64 x17_0,.int .u64 x17_1,.int .i64 x17_2,.int .i64 x17_3]]) en_120 (zm U (zm U zy)) (CallsH.mono H ?_))
  clear H
  rintro _ h19 ⟨x21,rfl,H⟩
  refine za (yi U ?_)
  refine za (zd (v:=.bool (!x21)) U ?_)
  refine zF (b:=!(!x21)) (zi U U) (T (some ⟨b8,o9,none⟩) p1n p1c) (fun hb N hN=>zd (v:=.slice (some ⟨b8,o9,none⟩) p1n p1c) a4_2 hN) ?_
  refine zF (b:=!(!x21)) (zi U U) (Z .i64 x1) (fun hb N hN=>zd (v:=.int .i64 x1) U hN) ?_
  obtain⟨n22,c23,H⟩:=H
  obtain⟨c24,H⟩:=H
  refine zF (b:=!(!x21)) (zi U U) (T (cutA (some ⟨b8,o9,none⟩) 0 p1c 4) n22 p1c) (fun hb N hN=>yc ei_157 (gv hb) U ⟨_,Eq.trans (gv hb) (congrArg (Z .i64) (c23 (zL (zt hb))))⟩ U (.inl U) (c24 (zL (zt hb))).1 (c24 (zL (zt hb))).2.1 (c24 (zL (zt hb))).2.2 hN) ?_
  refine zF (b:=!(!x21)) (zi U U) (Value.func (.func Glm) #[] #[.pointer (some ⟨h5.size,0,none⟩)]) (fun hb N hN=>yl (cs:=[.pointer (some ⟨h5.size,0,none⟩)]) (zm U zy) hN) ?_
  obtain⟨J28,HR,HT,HF⟩:=H
  refine wpL_gl (b:=!(!x21)) (zi U U) (fun v h25=>∃ (x27:Bool),v=(bif !(!x21) then (W x27) else undef)∧J28 x27 h25) ?_ ?_ ?_
  ·rintro _ h25 ⟨x27,rfl,hJ⟩
   have H:=HR x27 h25 hJ
   refine za (zR U U (fun hq=>(gv (zP hq))) ?_)
   refine zh ?_
   refine zz ((!x21) || x27) U ?_ ?_
   ·intro hb
    replace H:=H.1 hb
    refine ze ?_
    refine zc U ?_
    refine za (zg (v:=.bool false) U ?_)
    refine zh ?_
    refine zx ?_
    exact zv (zq U zu) H
   ·intro hb
    replace H:=H.2 hb
    refine zC ?_
    refine zc U ?_
    obtain⟨c29,H⟩:=H
    refine za (yf a4_0 U (zU c29) ?_)
    refine za (zd (v:=.int .i64 (x1+1)) U ?_)
    refine zh ?_
    exact And.intro (hin4 _ _ _ rfl a4_1 a4_2 a4_3 a4_4 H.1) (yk (hmu4 _ _ _ rfl) (hmu4 _ _ _ a4_0) H.2)
  ·intro hb
   refine zG (vs:=[.slice (cutA (some ⟨b8,o9,none⟩) 0 p1c 4) n22 p1c,(Value.func (.func Glm) #[] #[.pointer (some ⟨h5.size,0,none⟩)])]) en_121 (zm (gv hb) (zm (gv hb) zy)) (CallsH.mono (HT (zL (zt hb))) ?_)
   rintro _ h25 ⟨x27,rfl,hJ⟩
   exact⟨x27,zs hb,hJ⟩
  ·intro hb
   obtain⟨x27,hJ⟩:=HF (zt (zL hb))
   exact⟨x27,zp hb,hJ⟩
 ·intro hb
  replace H:=H.2 (zn hb)
  refine ya ?_
  refine ze ?_
  refine zc U ?_
  refine za (zd (v:=.slice p1a p1n p1c) a4_2 ?_)
  refine za (zN U un_157 ?_)
  refine za (op_geq U U ?_)
  refine za (zd (v:=.bool (decide (1≤(p1n:Int)))) U ?_)
  refine zF (b:=decide (1≤(p1n:Int))) (zi U U) (T p1a p1n p1c) (fun hb N hN=>zd (v:=.slice p1a p1n p1c) a4_2 hN) ?_
  refine zF (b:=decide (1≤(p1n:Int))) (zi U U) (Z .i64 (p1n:Int)) (fun hb N hN=>zN (gv hb) un_157 hN) ?_
  refine zF (b:=decide (1≤(p1n:Int))) (zi U U) (W (decide ((p1n:Int)≤16))) (fun hb N hN=>op_leq (gv hb) U hN) ?_
  refine za (zV U (fun hq=>(gv hq)) U ?_)
  refine za (zg (v:=.bool ((decide (1≤(p1n:Int))) && (decide ((p1n:Int)≤16)))) U ?_)
  refine zh ?_
  refine zx ?_
  exact zv (zq U zu) H
def Gd2 (p0:Option Addr) (p1_0:Int) (p1_1:Int) (p1_2:Int) (p1_3:Int) (K:Bool→Heap→Prop) (h:Heap):Prop:=
 ∀ (h1:Heap),h1=h.push (.cells #[.int .i64 p1_0,.int .u64 p1_1,.int .i64 p1_2,.int .i64 p1_3] 41 (0,0))→∃ (x3_0:Int) (x3_1:Int),ldCells h1 h.size 0 2=some [.int .i64 x3_0,.int .u64 x3_1]∧CallsH PR Glz #[.pointer p0,.agg #[.int .i64 x3_0,.int .u64 x3_1]] h1 (fun v h5=>∃ (x7:Int) (x8:Int),v=(Value.tuple #[.int .i64 x7,.int .i64 x8])∧∃ (x10:Int),((x8=0)→cellH h5 h.size 2=some (.int .i64 x10))∧∃ (x13:Int),((((decide (x8=0)) && (decide (0≤x10)))=true)→cellH h5 h.size 3=some (.int .i64 x13))∧∃ (x16:Int),(((((decide (x8=0)) && (decide (0≤x10))) && (decide (1≤x13)))=true)→cellH h5 h.size 3=some (.int .i64 x16))∧∃ (x19:Int),((((((decide (x8=0)) && (decide (0≤x10))) && (decide (1≤x13))) && (decide (x16≤x7)))=true)→cellH h5 h.size 2=some (.int .i64 x19))∧∃ (x21:Int),((((((decide (x8=0)) && (decide (0≤x10))) && (decide (1≤x13))) && (decide (x16≤x7)))=true)→cellH h5 h.size 3=some (.int .i64 x21))∧K (((((decide (x8=0)) && (decide (0≤x10))) && (decide (1≤x13))) && (decide (x16≤x7))) && (decide (x19≤(IntKind.i64.wrap (x7 - x21))))) h5)
theorem Gd3 (p0:Option Addr) (p1_0:Int) (p1_1:Int) (p1_2:Int) (p1_3:Int) (R:Value→Heap→Prop) (h:Heap) (H:Gd2 p0 p1_0 p1_1 p1_2 p1_3 (fun r0 h'=>R (Value.bool r0) h') h):CallsH PR Gln #[.pointer p0,.agg #[.int .i64 p1_0,.int .u64 p1_1,.int .i64 p1_2,.int .i64 p1_3]] h R:=by
 refine zD (args:=[.pointer p0,.agg #[.int .i64 p1_0,.int .u64 p1_1,.int .i64 p1_2,.int .i64 p1_3]]) Tryz.func120 U U ?_
 intro f hf
 have e0:=hf 0 _ rfl
 have e1:=hf 1 _ rfl
 clear hf
 unfold Gd2 at H
 refine ze ?_
 refine zc U ?_
 obtain⟨h1,c2⟩ : ∃ h1,h1=h.push (.cells #[.int .i64 p1_0,.int .u64 p1_1,.int .i64 p1_2,.int .i64 p1_3] 41 (0,0)):=⟨_,rfl⟩
 replace H:=H h1 c2
 refine za (yd (v:=.agg #[.int .i64 p1_0,.int .u64 p1_1,.int .i64 p1_2,.int .i64 p1_3]) e1 c2 ?_)
 refine za (zg (v:=.bool false) U ?_)
 refine zh ?_
 refine ze ?_
 refine zc U ?_
 refine za (zd (v:=.pointer p0) e0 ?_)
 refine za (zf U fo_41_0 ?_)
 obtain⟨x3_0,x3_1,c4,H⟩:=H
 refine za (zS U ag_39 c4 ?_)
 refine za (zG (vs:=[.pointer p0,.agg #[.int .i64 x3_0,.int .u64 x3_1]]) en_49 (zm U (zm U zy)) (CallsH.mono H ?_))
 clear H
 rintro _ h5 ⟨x7,x8,rfl,H⟩
 refine za (zd (v:=.tuple #[.int .i64 x7,.int .i64 x8]) U ?_)
 refine za (zB U U ?_)
 refine za (zB U U ?_)
 refine za (zg (v:=.int .i64 x7) U ?_)
 refine za (zg (v:=.int .i64 x8) U ?_)
 refine zh ?_
 refine ze ?_
 refine zc U ?_
 refine za (zd (v:=.int .i64 x8) U ?_)
 refine za (op_eql U U ?_)
 refine za (zd (v:=.bool (decide (x8=0))) U ?_)
 refine zF (b:=decide (x8=0)) (zi U U) (Y (some ⟨h.size,2,none⟩)) (fun hb N hN=>zf U fo_41_1 hN) ?_
 obtain⟨x10,c11,H⟩:=H
 refine zF (b:=decide (x8=0)) (zi U U) (Z .i64 x10) (fun hb N hN=>zk (gv hb) ag_3 (c11 (zo hb)) hN) ?_
 refine zF (b:=decide (x8=0)) (zi U U) (W (decide (0≤x10))) (fun hb N hN=>op_geq (gv hb) U hN) ?_
 refine za (zV U (fun hq=>(gv hq)) U ?_)
 refine za (zd (v:=.bool ((decide (x8=0)) && (decide (0≤x10)))) U ?_)
 refine zF (b:=(decide (x8=0)) && (decide (0≤x10))) (zi U U) (Y (some ⟨h.size,3,none⟩)) (fun hb N hN=>zf U fo_41_2 hN) ?_
 obtain⟨x13,c14,H⟩:=H
 refine zF (b:=(decide (x8=0)) && (decide (0≤x10))) (zi U U) (Z .i64 x13) (fun hb N hN=>zk (gv hb) ag_3 (c14 hb) hN) ?_
 refine zF (b:=(decide (x8=0)) && (decide (0≤x10))) (zi U U) (W (decide (1≤x13))) (fun hb N hN=>op_geq (gv hb) U hN) ?_
 refine za (zV U (fun hq=>(gv hq)) U ?_)
 refine za (zd (v:=.bool (((decide (x8=0)) && (decide (0≤x10))) && (decide (1≤x13)))) U ?_)
 refine zF (b:=((decide (x8=0)) && (decide (0≤x10))) && (decide (1≤x13))) (zi U U) (Y (some ⟨h.size,3,none⟩)) (fun hb N hN=>zf U fo_41_2 hN) ?_
 obtain⟨x16,c17,H⟩:=H
 refine zF (b:=((decide (x8=0)) && (decide (0≤x10))) && (decide (1≤x13))) (zi U U) (Z .i64 x16) (fun hb N hN=>zk (gv hb) ag_3 (c17 hb) hN) ?_
 refine zF (b:=((decide (x8=0)) && (decide (0≤x10))) && (decide (1≤x13))) (zi U U) (Z .i64 x7) (fun hb N hN=>zd (v:=.int .i64 x7) U hN) ?_
 refine zF (b:=((decide (x8=0)) && (decide (0≤x10))) && (decide (1≤x13))) (zi U U) (W (decide (x16≤x7))) (fun hb N hN=>op_leq (gv hb) (gv hb) hN) ?_
 refine za (zV U (fun hq=>(gv hq)) U ?_)
 refine za (zd (v:=.bool ((((decide (x8=0)) && (decide (0≤x10))) && (decide (1≤x13))) && (decide (x16≤x7)))) U ?_)
 refine zF (b:=(((decide (x8=0)) && (decide (0≤x10))) && (decide (1≤x13))) && (decide (x16≤x7))) (zi U U) (Y (some ⟨h.size,2,none⟩)) (fun hb N hN=>zf U fo_41_1 hN) ?_
 obtain⟨x19,c20,H⟩:=H
 refine zF (b:=(((decide (x8=0)) && (decide (0≤x10))) && (decide (1≤x13))) && (decide (x16≤x7))) (zi U U) (Z .i64 x19) (fun hb N hN=>zk (gv hb) ag_3 (c20 hb) hN) ?_
 refine zF (b:=(((decide (x8=0)) && (decide (0≤x10))) && (decide (1≤x13))) && (decide (x16≤x7))) (zi U U) (Z .i64 x7) (fun hb N hN=>zd (v:=.int .i64 x7) U hN) ?_
 refine zF (b:=(((decide (x8=0)) && (decide (0≤x10))) && (decide (1≤x13))) && (decide (x16≤x7))) (zi U U) (Y (some ⟨h.size,3,none⟩)) (fun hb N hN=>zf U fo_41_2 hN) ?_
 obtain⟨x21,c22,H⟩:=H
 refine zF (b:=(((decide (x8=0)) && (decide (0≤x10))) && (decide (1≤x13))) && (decide (x16≤x7))) (zi U U) (Z .i64 x21) (fun hb N hN=>zk (gv hb) ag_3 (c22 hb) hN) ?_
 refine zF (b:=(((decide (x8=0)) && (decide (0≤x10))) && (decide (1≤x13))) && (decide (x16≤x7))) (zi U U) (Z .i64 (IntKind.i64.wrap (x7 - x21))) (fun hb N hN=>op_sub (gv hb) (gv hb) U hN) ?_
 refine zF (b:=(((decide (x8=0)) && (decide (0≤x10))) && (decide (1≤x13))) && (decide (x16≤x7))) (zi U U) (W (decide (x19≤(IntKind.i64.wrap (x7 - x21))))) (fun hb N hN=>op_leq (gv hb) (gv hb) hN) ?_
 refine za (zV U (fun hq=>(gv hq)) U ?_)
 refine za (zg (v:=.bool (((((decide (x8=0)) && (decide (0≤x10))) && (decide (1≤x13))) && (decide (x16≤x7))) && (decide (x19≤(IntKind.i64.wrap (x7 - x21)))))) U ?_)
 refine zh ?_
 refine zx ?_
 exact zv (zq U zu) H
def Gek (p0a:Option Addr) (p0n:Nat) (p0c:Nat) (p1:Value) (K:Bool→Heap→Prop) (h:Heap):Prop:=
 CallsH PR Gn3 #[.slice p0a p0n p0c,p1] h (fun v h1=>∃ (x3:Int),v=(Value.int .i64 x3)∧K (decide (0≤x3)) h1)
theorem Gel (p0a:Option Addr) (p0n:Nat) (p0c:Nat) (p1:Value) (R:Value→Heap→Prop) (h:Heap) (H:Gek p0a p0n p0c p1 (fun r0 h'=>R (Value.bool r0) h') h):CallsH PR Gn1 #[.slice p0a p0n p0c,p1] h R:=by
 refine zD (args:=[.slice p0a p0n p0c,p1]) Tryz.func121 U U ?_
 intro f hf
 have e0:=hf 0 _ rfl
 have e1:=hf 1 _ rfl
 clear hf
 unfold Gek at H
 refine ze ?_
 refine zc U ?_
 refine za (zg (v:=.bool false) U ?_)
 refine zh ?_
 refine ze ?_
 refine zc U ?_
 refine za (zd (v:=.slice p0a p0n p0c) e0 ?_)
 refine za (zd (v:=p1) e1 ?_)
 refine za (zG (vs:=[.slice p0a p0n p0c,p1]) en_162 (zm U (zm U zy)) (CallsH.mono H ?_))
 clear H
 rintro _ h1 ⟨x3,rfl,H⟩
 refine za (op_geq U U ?_)
 refine za (zg (v:=.bool (decide (0≤x3))) U ?_)
 refine zh ?_
 refine zx ?_
 exact zv (zq U zu) H
def Geo (p0a:Option Addr) (p0n:Nat) (p0c:Nat) (p1:Value) (K:Int→Heap→Prop) (h:Heap):Prop:=
 ∃ (I2:Int→Heap→Prop) (mu3:Int→Heap→Nat),I2 0 h∧∀ (x1:Int) (h5:Heap),I2 x1 h5→(x1<(p0n:Int)→∃ (b8:Nat) (o9:Nat),p0a=some ⟨b8,o9,none⟩∧(0≤x1∧x1<(p0n:Int))∧∃ (x11_0:Int) (x11_1:Int) (x11_2:Int) (x11_3:Int),ldCells h5 b8 (o9+x1.toNat * 4) 4=some [.int .i64 x11_0,.int .u64 x11_1,.int .i64 x11_2,.int .i64 x11_3]∧CallsV PR p1 [.agg #[.int .i64 x11_0,.int .u64 x11_1,.int .i64 x11_2,.int .i64 x11_3]] h5 (fun v h13=>∃ (x15:Bool),v=(Value.bool x15)∧(x15=true→K x1 h13)∧(x15=false→(-9223372036854775808≤x1+1∧x1+1<9223372036854775808)∧(I2 (x1+1) h13∧mu3 (x1+1) h13<mu3 x1 h5))))∧((¬ (x1<(p0n:Int)))→K (-1) h5)
theorem Gep (p0a:Option Addr) (p0n:Nat) (p0c:Nat) (p1:Value) (R:Value→Heap→Prop) (h:Heap) (H:Geo p0a p0n p0c p1 (fun r0 h'=>R (Value.int .i64 r0) h') h):CallsH PR Gn3 #[.slice p0a p0n p0c,p1] h R:=by
 refine zD (args:=[.slice p0a p0n p0c,p1]) Tryz.func162 U U ?_
 intro f hf
 have e0:=hf 0 _ rfl
 have e1:=hf 1 _ rfl
 clear hf
 unfold Geo at H
 refine ze ?_
 refine zc U ?_
 refine za (zg (v:=.int .i64 0) U ?_)
 refine zh ?_
 refine ze ?_
 refine ze ?_
 refine zc U ?_
 refine za (zd (v:=.slice p0a p0n p0c) e0 ?_)
 refine za (zN U un_157 ?_)
 refine za (zd (v:=.int .i64 0) U ?_)
 refine zh ?_
 refine zK ?_
 obtain⟨I2,mu3,hI,H⟩:=H
 obtain⟨I4,mu4,hin4,hout4,hmu4⟩ : ∃ (J4:Fr→Heap→Prop) (m:Fr→Heap→Nat),(∀ f hz (x1:Int),f 8 = .int .i64 x1→f 0 = .slice p0a p0n p0c→f 1=p1→f 7 = .int .i64 (p0n:Int)→I2 x1 hz→J4 f hz)∧(∀ f hz,J4 f hz→∃ (x1:Int),f 8 = .int .i64 x1∧f 0 = .slice p0a p0n p0c∧f 1=p1∧f 7 = .int .i64 (p0n:Int)∧I2 x1 hz)∧(∀ f hz (x1:Int),f 8 = .int .i64 x1→m f hz=mu3 x1 hz):=⟨fun f hz=>∃ (x1:Int),f 8 = .int .i64 x1∧f 0 = .slice p0a p0n p0c∧f 1=p1∧f 7 = .int .i64 (p0n:Int)∧I2 x1 hz,fun f hz=>mu3 (dInt (f 8)) hz,fun _ _ x1 a0 a1 a2 a3 z=>⟨x1,a0,a1,a2,a3,z⟩,fun _ _ hz=>hz,fun f hz x1 a0=>by simp only [a0]; rfl⟩
 refine yb I4 mu4 (hin4 _ _ _ U e0 e1 U hI) ?_
 clear hI
 intro f h5 hf
 obtain⟨x1,a4_0,a4_1,a4_2,a4_3,hJ⟩:=hout4 _ _ hf
 replace H:=H x1 h5 hJ
 refine ze ?_
 refine zc U ?_
 refine za (zY a4_0 a4_3 ?_)
 refine zh ?_
 refine ze ?_
 refine zz (decide (x1<(p0n:Int))) U ?_ ?_
 ·intro hb
  replace H:=H.1 (zo hb)
  refine zC ?_
  refine ze ?_
  refine zK ?_
  refine ze ?_
  refine zc U ?_
  refine za (zd (v:=.int .i64 x1) a4_0 ?_)
  refine za (zg (v:=.int .i64 x1) U ?_)
  refine zh ?_
  refine ze ?_
  refine zc U ?_
  refine za (zd (v:=p1) a4_2 ?_)
  refine za (zd (v:=.slice p0a p0n p0c) a4_1 ?_)
  refine za (zd (v:=.int .i64 x1) U ?_)
  obtain⟨b8,o9,rfl,H⟩:=H
  obtain⟨c7,H⟩:=H
  refine za (zE U U ei_157 c7 ?_)
  obtain⟨x11_0,x11_1,x11_2,x11_3,c12,H⟩:=H
  refine za (zS U ag_41 c12 ?_)
  refine za (op_callV (vs:=[.agg #[.int .i64 x11_0,.int .u64 x11_1,.int .i64 x11_2,.int .i64 x11_3]]) U (zm U zy) (CallsV.mono H ?_))
  clear H
  rintro _ h13 ⟨x15,rfl,H⟩
  refine zh ?_
  refine zz (x15) U ?_ ?_
  ·intro hb
   replace H:=H.1 hb
   refine ze ?_
   refine zc U ?_
   refine za (zd (v:=.int .i64 x1) U ?_)
   refine za (zg (v:=.int .i64 x1) U ?_)
   refine zh ?_
   refine zx ?_
   exact zv (zq U zu) H
  ·intro hb
   replace H:=H.2 hb
   refine zC ?_
   refine zc U ?_
   obtain⟨c16,H⟩:=H
   refine za (yf a4_0 U (zU c16) ?_)
   refine za (zd (v:=.int .i64 (x1+1)) U ?_)
   refine zh ?_
   exact And.intro (hin4 _ _ _ rfl a4_1 a4_2 a4_3 H.1) (yk (hmu4 _ _ _ rfl) (hmu4 _ _ _ a4_0) H.2)
 ·intro hb
  replace H:=H.2 (zn hb)
  refine ya ?_
  refine ze ?_
  refine zc U ?_
  refine za (zg (v:=.int .i64 (-1)) U ?_)
  refine zh ?_
  refine zx ?_
  exact zv (zq U zu) H
end Go.Proofs.Vf
