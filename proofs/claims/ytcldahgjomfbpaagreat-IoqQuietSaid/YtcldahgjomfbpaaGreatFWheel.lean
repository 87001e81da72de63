/- Printed by a program of this claim: for each Go function named below a formula over the heap, and the proof that it gives the call of that function. No conditions. -/
import Derived.Test.YtcldahgjomfbpaaGreatBase
namespace Go.Proofs.Vf
open Go Go.Proofs Go.VC
set_option maxRecDepth 100000
set_option maxHeartbeats 4000000
set_option linter.unusedVariables false
def Gfe (p0:Int) (p1:Int) (K:Int→Heap→Prop) (h:Heap):Prop:=
 (-9223372036854775808≤4 * p1∧4 * p1<9223372036854775808)∧0≤4 * p1∧K (bitsAnd .i64 (IntKind.i64.wrap (p0.fdiv (2 ^ (min (4 * p1).toNat IntKind.u64.bits)))) 15) h
theorem Gff (p0:Int) (p1:Int) (R:Value→Heap→Prop) (h:Heap) (H:Gfe p0 p1 (fun r0 h'=>R (Value.int .i64 r0) h') h):CallsH PR Go3 #[.int .u64 p0,.int .i64 p1] h R:=by
 refine zD (args:=[.int .u64 p0,.int .i64 p1]) Tryz.func188 U U ?_
 intro f hf
 have e0:=hf 0 _ rfl
 have e1:=hf 1 _ rfl
 clear hf
 unfold Gfe at H
 refine ze ?_
 refine zc U ?_
 refine za (zg (v:=.int .i64 0) U ?_)
 refine zh ?_
 refine ze ?_
 refine zc U ?_
 refine za (zd (v:=.int .u64 p0) e0 ?_)
 refine za (zd (v:=.int .i64 p1) e1 ?_)
 obtain⟨c1,H⟩:=H
 refine za (op_mul U U (zU c1) ?_)
 obtain⟨c2,H⟩:=H
 refine za (op_shr U U c2 U ?_)
 refine za (op_conv U (congrArg (Option.map fun _=>()) un_37) un_3 U ?_)
 refine za (op_and U U U ?_)
 refine za (zg (v:=.int .i64 (bitsAnd .i64 (IntKind.i64.wrap (p0.fdiv (2 ^ (min (4 * p1).toNat IntKind.u64.bits)))) 15)) U ?_)
 refine zh ?_
 refine zx ?_
 exact zv (zq U zu) H
def Gew (K:Option Addr→Heap→Prop) (h:Heap):Prop:=
 ∀ (h1:Heap),h1=h.push (.map #[] 0)→∀ (h3:Heap),h3=h1.push (.cells #[.map none,.map none,.map none,.map none,.map none,.map none,.map none,.map none,.map none,.map none,.map none,.map none,.map none,.map none,.map none,.map none,.map none,.map none,.map none,.map none,.map none,.map none,.map none,.map none,.map none,.map none,.map none,.map none,.map none,.map none,.map none,.map none,.map none,.map none,.map none,.map none,.map none,.map none,.map none,.map none,.map none,.map none,.map none,.map none,.map none,.map none,.map none,.map none,.map none,.map none,.map none,.map none,.map none,.map none,.map none,.map none,.map none,.map none,.map none,.map none,.map none,.map none,.map none,.map none,.map none,.map none,.map none,.map none,.map none,.map none,.map none,.map none,.map none,.map none,.map none,.map none,.map none,.map none,.map none,.map none,.map none,.map none,.map none,.map none,.map none,.map none,.map none,.map none,.map none,.map none,.map none,.map none,.map none,.map none,.map none,.map none,.map none,.map none,.map none,.map none,.map none,.map none,.map none,.map none,.map none,.map none,.map none,.map none,.map none,.map none,.map none,.map none,.map none,.map none,.map none,.map none,.map none,.map none,.map none,.map none,.map none,.map none,.map none,.map none,.map none,.map none,.map none,.map none,.map none,.map none,.map none,.map none,.map none,.map none,.map none,.map none,.map none,.map none,.map none,.map none,.map none,.map none,.map none,.map none,.map none,.map none,.map none,.map none,.map none,.map none,.map none,.map none,.map none,.map none,.map none,.map none,.map none,.map none,.map none,.map none,.map none,.map none,.map none,.map none,.map none,.map none,.map none,.map none,.map none,.map none,.map none,.map none,.map none,.map none,.map none,.map none,.map none,.map none,.map none,.map none,.map none,.map none,.map none,.map none,.map none,.map none,.map none,.map none,.map none,.map none,.map none,.map none,.map none,.map none,.map none,.map none,.map none,.map none,.map none,.map none,.map none,.map none,.map none,.map none,.map none,.map none,.map none,.map none,.map none,.map none,.map none,.map none,.map none,.map none,.map none,.map none,.map none,.map none,.map none,.map none,.map none,.map none,.map none,.map none,.map none,.map none,.map none,.map none,.map none,.map none,.map none,.map none,.map none,.map none,.map none,.map none,.map none,.map none,.map none,.map none,.map none,.map none,.map none,.map none,.map none,.map none,.map none,.map none,.map none,.map none,.map none,.map none,.map none,.map none,.map none,.map none,.map (some h.size),.int .u64 0] 290 (0,0))→K (some ⟨h1.size,0,none⟩) h3
theorem Gex (R:Value→Heap→Prop) (h:Heap) (H:Gew  (fun r0 h'=>R (Value.pointer r0) h') h):CallsH PR Gnt #[] h R:=by
 refine zD (args:=[]) Tryz.func146 U U ?_
 intro f hf
 clear hf
 unfold Gew at H
 refine ze ?_
 refine zc U ?_
 refine za (zg (v:=.pointer none) U ?_)
 refine zh ?_
 refine ze ?_
 refine zc U ?_
 obtain⟨h1,c2⟩ : ∃ h1,h1=h.push (.map #[] 0):=⟨_,rfl⟩
 replace H:=H h1 c2
 refine za (op_makeMap' c2 ?_)
 refine za (zX (vs:=[(1,.map (some h.size))]) (cs:=#[.map none,.map none,.map none,.map none,.map none,.map none,.map none,.map none,.map none,.map none,.map none,.map none,.map none,.map none,.map none,.map none,.map none,.map none,.map none,.map none,.map none,.map none,.map none,.map none,.map none,.map none,.map none,.map none,.map none,.map none,.map none,.map none,.map none,.map none,.map none,.map none,.map none,.map none,.map none,.map none,.map none,.map none,.map none,.map none,.map none,.map none,.map none,.map none,.map none,.map none,.map none,.map none,.map none,.map none,.map none,.map none,.map none,.map none,.map none,.map none,.map none,.map none,.map none,.map none,.map none,.map none,.map none,.map none,.map none,.map none,.map none,.map none,.map none,.map none,.map none,.map none,.map none,.map none,.map none,.map none,.map none,.map none,.map none,.map none,.map none,.map none,.map none,.map none,.map none,.map none,.map none,.map none,.map none,.map none,.map none,.map none,.map none,.map none,.map none,.map none,.map none,.map none,.map none,.map none,.map none,.map none,.map none,.map none,.map none,.map none,.map none,.map none,.map none,.map none,.map none,.map none,.map none,.map none,.map none,.map none,.map none,.map none,.map none,.map none,.map none,.map none,.map none,.map none,.map none,.map none,.map none,.map none,.map none,.map none,.map none,.map none,.map none,.map none,.map none,.map none,.map none,.map none,.map none,.map none,.map none,.map none,.map none,.map none,.map none,.map none,.map none,.map none,.map none,.map none,.map none,.map none,.map none,.map none,.map none,.map none,.map none,.map none,.map none,.map none,.map none,.map none,.map none,.map none,.map none,.map none,.map none,.map none,.map none,.map none,.map none,.map none,.map none,.map none,.map none,.map none,.map none,.map none,.map none,.map none,.map none,.map none,.map none,.map none,.map none,.map none,.map none,.map none,.map none,.map none,.map none,.map none,.map none,.map none,.map none,.map none,.map none,.map none,.map none,.map none,.map none,.map none,.map none,.map none,.map none,.map none,.map none,.map none,.map none,.map none,.map none,.map none,.map none,.map none,.map none,.map none,.map none,.map none,.map none,.map none,.map none,.map none,.map none,.map none,.map none,.map none,.map none,.map none,.map none,.map none,.map none,.map none,.map none,.map none,.map none,.map none,.map none,.map none,.map none,.map none,.map none,.map none,.map none,.map none,.map none,.map none,.map none,.map none,.map none,.map none,.map none,.map none,.map (some h.size),.int .u64 0]) z_290 fs_290 (zM U zT) U ?_)
 obtain⟨h3,c4⟩ : ∃ h3,h3=h1.push (.cells #[.map none,.map none,.map none,.map none,.map none,.map none,.map none,.map none,.map none,.map none,.map none,.map none,.map none,.map none,.map none,.map none,.map none,.map none,.map none,.map none,.map none,.map none,.map none,.map none,.map none,.map none,.map none,.map none,.map none,.map none,.map none,.map none,.map none,.map none,.map none,.map none,.map none,.map none,.map none,.map none,.map none,.map none,.map none,.map none,.map none,.map none,.map none,.map none,.map none,.map none,.map none,.map none,.map none,.map none,.map none,.map none,.map none,.map none,.map none,.map none,.map none,.map none,.map none,.map none,.map none,.map none,.map none,.map none,.map none,.map none,.map none,.map none,.map none,.map none,.map none,.map none,.map none,.map none,.map none,.map none,.map none,.map none,.map none,.map none,.map none,.map none,.map none,.map none,.map none,.map none,.map none,.map none,.map none,.map none,.map none,.map none,.map none,.map none,.map none,.map none,.map none,.map none,.map none,.map none,.map none,.map none,.map none,.map none,.map none,.map none,.map none,.map none,.map none,.map none,.map none,.map none,.map none,.map none,.map none,.map none,.map none,.map none,.map none,.map none,.map none,.map none,.map none,.map none,.map none,.map none,.map none,.map none,.map none,.map none,.map none,.map none,.map none,.map none,.map none,.map none,.map none,.map none,.map none,.map none,.map none,.map none,.map none,.map none,.map none,.map none,.map none,.map none,.map none,.map none,.map none,.map none,.map none,.map none,.map none,.map none,.map none,.map none,.map none,.map none,.map none,.map none,.map none,.map none,.map none,.map none,.map none,.map none,.map none,.map none,.map none,.map none,.map none,.map none,.map none,.map none,.map none,.map none,.map none,.map none,.map none,.map none,.map none,.map none,.map none,.map none,.map none,.map none,.map none,.map none,.map none,.map none,.map none,.map none,.map none,.map none,.map none,.map none,.map none,.map none,.map none,.map none,.map none,.map none,.map none,.map none,.map none,.map none,.map none,.map none,.map none,.map none,.map none,.map none,.map none,.map none,.map none,.map none,.map none,.map none,.map none,.map none,.map none,.map none,.map none,.map none,.map none,.map none,.map none,.map none,.map none,.map none,.map none,.map none,.map none,.map none,.map none,.map none,.map none,.map none,.map none,.map none,.map none,.map none,.map none,.map none,.map none,.map none,.map none,.map none,.map none,.map none,.map (some h.size),.int .u64 0] 290 (0,0)):=⟨_,rfl⟩
 replace H:=H h3 c4
 refine za (yd (v:=.agg #[.map none,.map none,.map none,.map none,.map none,.map none,.map none,.map none,.map none,.map none,.map none,.map none,.map none,.map none,.map none,.map none,.map none,.map none,.map none,.map none,.map none,.map none,.map none,.map none,.map none,.map none,.map none,.map none,.map none,.map none,.map none,.map none,.map none,.map none,.map none,.map none,.map none,.map none,.map none,.map none,.map none,.map none,.map none,.map none,.map none,.map none,.map none,.map none,.map none,.map none,.map none,.map none,.map none,.map none,.map none,.map none,.map none,.map none,.map none,.map none,.map none,.map none,.map none,.map none,.map none,.map none,.map none,.map none,.map none,.map none,.map none,.map none,.map none,.map none,.map none,.map none,.map none,.map none,.map none,.map none,.map none,.map none,.map none,.map none,.map none,.map none,.map none,.map none,.map none,.map none,.map none,.map none,.map none,.map none,.map none,.map none,.map none,.map none,.map none,.map none,.map none,.map none,.map none,.map none,.map none,.map none,.map none,.map none,.map none,.map none,.map none,.map none,.map none,.map none,.map none,.map none,.map none,.map none,.map none,.map none,.map none,.map none,.map none,.map none,.map none,.map none,.map none,.map none,.map none,.map none,.map none,.map none,.map none,.map none,.map none,.map none,.map none,.map none,.map none,.map none,.map none,.map none,.map none,.map none,.map none,.map none,.map none,.map none,.map none,.map none,.map none,.map none,.map none,.map none,.map none,.map none,.map none,.map none,.map none,.map none,.map none,.map none,.map none,.map none,.map none,.map none,.map none,.map none,.map none,.map none,.map none,.map none,.map none,.map none,.map none,.map none,.map none,.map none,.map none,.map none,.map none,.map none,.map none,.map none,.map none,.map none,.map none,.map none,.map none,.map none,.map none,.map none,.map none,.map none,.map none,.map none,.map none,.map none,.map none,.map none,.map none,.map none,.map none,.map none,.map none,.map none,.map none,.map none,.map none,.map none,.map none,.map none,.map none,.map none,.map none,.map none,.map none,.map none,.map none,.map none,.map none,.map none,.map none,.map none,.map none,.map none,.map none,.map none,.map none,.map none,.map none,.map none,.map none,.map none,.map none,.map none,.map none,.map none,.map none,.map none,.map none,.map none,.map none,.map none,.map none,.map none,.map none,.map none,.map none,.map none,.map none,.map none,.map none,.map none,.map none,.map none,.map (some h.size),.int .u64 0]) U c4 ?_)
 refine za (zg (v:=.pointer (some ⟨h1.size,0,none⟩)) U ?_)
 refine zh ?_
 refine zx ?_
 exact zv (zq U zu) H
def Gf2 (p0:Option Addr) (K:Int→Heap→Prop) (h:Heap):Prop:=
 ∃ (b1:Nat) (o2:Nat),p0=some ⟨b1,o2,none⟩∧∃ (x4:Int),cellH h b1 (o2+257)=some (.int .u64 x4)∧K x4 h
theorem Gf3 (p0:Option Addr) (R:Value→Heap→Prop) (h:Heap) (H:Gf2 p0 (fun r0 h'=>R (Value.int .u64 r0) h') h):CallsH PR Gnx #[.pointer p0] h R:=by
 refine zD (args:=[.pointer p0]) Tryz.func125 U U ?_
 intro f hf
 have e0:=hf 0 _ rfl
 clear hf
 unfold Gf2 at H
 refine ze ?_
 refine zc U ?_
 refine za (zg (v:=.int .u64 0) U ?_)
 refine zh ?_
 refine ze ?_
 refine zc U ?_
 refine za (zd (v:=.pointer p0) e0 ?_)
 obtain⟨b1,o2,rfl,H⟩:=H
 refine za (zj U ?_)
 refine za (zf U fo_290_2 ?_)
 obtain⟨x4,c5,H⟩:=H
 refine za (zk U ag_37 c5 ?_)
 refine za (zg (v:=.int .u64 x4) U ?_)
 refine zh ?_
 refine zx ?_
 exact zv (zq U zu) H
def Ghc:Cert:=⟨[[],[],[0,1],[],[3],[3,4],[3,4,5],[],[0,1,2,3,4,5,6,7],[0,1,2,3,4,5,6,7,8]],[false,false,true,false,false,false,false,false,true,false]⟩
def Gfc (p0:Option Addr) (p1:Int) (p2:Int) (K:Heap→Prop) (h:Heap):Prop:=
 ∃ (I3:Int→Int→Heap→Prop) (mu4:Int→Int→Heap→Nat),I3 0 0 h∧∀ (x1:Int) (x2:Int) (h6:Heap),I3 x1 x2 h6→(x2<16→∃ J9:Int→Heap→Prop,(∀ (x8:Int) (h11:Heap),J9 x8 h11→(-9223372036854775808≤x2+1∧x2+1<9223372036854775808)∧(I3 x8 (x2+1) h11∧mu4 x8 (x2+1) h11<mu4 x1 x2 h6))∧∃ (b13:Nat) (o14:Nat),p0=some ⟨b13,o14,none⟩∧∃ (x16:Int),cellH h6 b13 (o14+257)=some (.int .u64 x16)∧CallsH PR Go3 #[.int .u64 p2,.int .i64 x2] h6 (fun v h18=>∃ (x20:Int),v=(Value.int .i64 x20)∧cellH h18 b13 (o14+257)=some (Value.int .u64 x16)∧CallsH PR Go3 #[.int .u64 x16,.int .i64 x2] h18 (fun v h22=>∃ (x24:Int),v=(Value.int .i64 x24)∧((¬ (x20=x24))→J9 x2 h22)∧(x20=x24→J9 x1 h22))))∧((¬ (x2<16))→CallsH PR Go3 #[.int .u64 p2,.int .i64 x1] h6 (fun v h26=>∃ (x28:Int),v=(Value.int .i64 x28)∧∃ J29:Heap→Prop,(∀ (h31:Heap),J29 h31→∃ (b32:Nat) (o33:Nat),p0=some ⟨b32,o33,none⟩∧(0≤x1∧x1<16)∧(0≤x28∧x28<16)∧∃ (x37:Option Nat),cellH h31 b32 (o33+x1.toNat * 16+x28.toNat * 1)=some (.map x37)∧∃ (r39:Nat),x37=some r39∧∃ (l40:List (ME Int)) (n41:Nat),h31[r39]? = some (mobj (Value.int .i64) l40 n41)∧∀ (h44:Heap),h44=h31.setIfInBounds r39 (mobj (Value.int .i64) (mput l40 p1 (Value.bool true) n41) (mclk l40 p1 n41))→∃ (x46:Option Nat),cellH h44 b32 (o33+256)=some (.map x46)∧∃ (r48:Nat),x46=some r48∧∃ (l49:List (ME Int)) (n50:Nat),h44[r48]? = some (mobj (Value.int .i64) l49 n50)∧∀ (h53:Heap),h53=h44.setIfInBounds r48 (mobj (Value.int .i64) (mput l49 p1 (Value.agg #[.int .u64 p2,.int .i64 x1,.int .i64 x28]) n50) (mclk l49 p1 n50))→K h53)∧∃ (b55:Nat) (o56:Nat),p0=some ⟨b55,o56,none⟩∧(0≤x1∧x1<16)∧(0≤x28∧x28<16)∧∃ (x60:Option Nat),cellH h26 b55 (o56+x1.toNat * 16+x28.toNat * 1)=some (.map x60)∧(x60.isNone=true→∀ (h63:Heap),h63=h26.push (.map #[] 0)→(0≤x1∧x1<16)∧(0≤x28∧x28<16)∧∃ (h68:Heap),stCells b55 h63 (o56+x1.toNat * 16+x28.toNat * 1) [.map (some h26.size)]=some h68∧J29 h68)∧(x60.isNone=false→J29 h26)))
theorem Gfd (p0:Option Addr) (p1:Int) (p2:Int) (R:Value→Heap→Prop) (h:Heap) (H:Gfc p0 p1 p2 (fun h'=>R (Value.tuple #[]) h') h):CallsH PR Go2 #[.pointer p0,.int .i64 p1,.int .u64 p2] h R:=by
 refine zD (args:=[.pointer p0,.int .i64 p1,.int .u64 p2]) Tryz.func164 U U ?_
 intro f hf
 have e0:=hf 0 _ rfl
 have e1:=hf 1 _ rfl
 have e2:=hf 2 _ rfl
 clear hf
 unfold Gfc at H
 refine ze ?_
 refine zc U ?_
 refine za (zg (v:=.int .i64 0) U ?_)
 refine zh ?_
 refine ze ?_
 refine ze ?_
 refine zc U ?_
 refine za (zd (v:=.int .i64 0) U ?_)
 refine zh ?_
 refine zK ?_
 obtain⟨I3,mu4,hI,H⟩:=H
 obtain⟨I5,mu5,hin5,hout5,hmu5⟩ : ∃ (J5:Fr→Heap→Prop) (m:Fr→Heap→Nat),(∀ f hz (x1:Int) (x2:Int),f 6 = .int .i64 x1→f 9 = .int .i64 x2→f 0 = .pointer p0→f 1 = .int .i64 p1→f 2 = .int .u64 p2→I3 x1 x2 hz→J5 f hz)∧(∀ f hz,J5 f hz→∃ (x1:Int) (x2:Int),f 6 = .int .i64 x1∧f 9 = .int .i64 x2∧f 0 = .pointer p0∧f 1 = .int .i64 p1∧f 2 = .int .u64 p2∧I3 x1 x2 hz)∧(∀ f hz (x1:Int) (x2:Int),f 6 = .int .i64 x1→f 9 = .int .i64 x2→m f hz=mu4 x1 x2 hz):=⟨fun f hz=>∃ (x1:Int) (x2:Int),f 6 = .int .i64 x1∧f 9 = .int .i64 x2∧f 0 = .pointer p0∧f 1 = .int .i64 p1∧f 2 = .int .u64 p2∧I3 x1 x2 hz,fun f hz=>mu4 (dInt (f 6)) (dInt (f 9)) hz,fun _ _ x1 x2 a0 a1 a2 a3 a4 z=>⟨x1,x2,a0,a1,a2,a3,a4,z⟩,fun _ _ hz=>hz,fun f hz x1 x2 a0 a1=>by simp only [a0,a1]; rfl⟩
 refine yb I5 mu5 (hin5 _ _ _ _ U U e0 e1 e2 hI) ?_
 clear hI
 intro f h6 hf
 obtain⟨x1,x2,a5_0,a5_1,a5_2,a5_3,a5_4,hJ⟩:=hout5 _ _ hf
 replace H:=H x1 x2 h6 hJ
 refine ze ?_
 refine zc U ?_
 refine za (zY a5_1 U ?_)
 refine zh ?_
 refine ze ?_
 refine zz (decide (x2<16)) U ?_ ?_
 ·intro hb
  replace H:=H.1 (zo hb)
  refine zC ?_
  obtain⟨J9,HR,H⟩:=H
  obtain⟨J10,hin10,hout10⟩ : ∃ J10:Fr→Heap→Prop,(∀ f hz (x8:Int),f 6 = .int .i64 x8→f 0 = .pointer p0→f 1 = .int .i64 p1→f 2 = .int .u64 p2→f 9 = .int .i64 x2→J9 x8 hz→J10 f hz)∧(∀ f hz,J10 f hz→∃ (x8:Int),f 6 = .int .i64 x8∧f 0 = .pointer p0∧f 1 = .int .i64 p1∧f 2 = .int .u64 p2∧f 9 = .int .i64 x2∧J9 x8 hz):=⟨fun f hz=>∃ (x8:Int),f 6 = .int .i64 x8∧f 0 = .pointer p0∧f 1 = .int .i64 p1∧f 2 = .int .u64 p2∧f 9 = .int .i64 x2∧J9 x8 hz,fun _ _ x8 a0 a1 a2 a3 a4 z=>⟨x8,a0,a1,a2,a3,a4,z⟩,fun _ _ hz=>hz⟩
  refine ym J10 ?_ ?_
  ·skip
   refine zK ?_
   refine ze ?_
   refine zc U ?_
   refine za (zd (v:=.int .i64 x2) a5_1 ?_)
   refine za (zg (v:=.int .i64 x2) U ?_)
   refine zh ?_
   refine ze ?_
   obtain⟨b13,o14,rfl,H⟩:=H
   obtain⟨x16,c17,H⟩:=H
   refine zO Ghc 2 [(Z .u64 p2),(Z .i64 x2),undef,(Y (some ⟨b13,o14,none⟩)),(Y (some ⟨b13,o14,none⟩)),(Y (some ⟨b13,o14+257,none⟩)),(Z .u64 x16),(Z .i64 x2),undef,undef] (by kernel_rfl) U mixed_PR ?_
   refine zA [2] (by decide) U (zw [0,1,3,4,5,6,7] U ⟨zb U U (zd (v:=.int .u64 p2) a5_4 ⟨U,U⟩),zb U U (zd (v:=.int .i64 x2) U ⟨U,U⟩),zb U U (zd (v:=.pointer (some ⟨b13,o14,none⟩)) a5_2 ⟨U,U⟩),zb U U (zj U ⟨U,U⟩),zb U U (zf U fo_290_2 ⟨U,U⟩),zb U U (zk U ag_37 c17 ⟨U,U⟩),zb U U (zd (v:=.int .i64 x2) U ⟨U,U⟩),V⟩) U ⟨?_,V⟩
   refine zb U U (zG (vs:=[.int .u64 p2,.int .i64 x2]) en_188 (zm U (zm U zy)) (CallsH.mono H ?_))
   clear H
   rintro _ h18 ⟨x20,rfl,H⟩
   obtain⟨c21,H⟩:=H
   refine⟨[(Value.int .u64 p2),(Value.int .i64 x2),(Value.int .i64 x20),(Value.pointer (some ⟨b13,o14,none⟩)),(Value.pointer (some ⟨b13,o14,none⟩)),(Value.pointer (some ⟨b13,o14+257,none⟩)),(Value.int .u64 x16),(Value.int .i64 x2),undef,undef],rfl,(zH [0,1,3,4,5,6,7] rfl ⟨rfl,rfl,rfl,rfl,rfl,rfl,rfl,trivial⟩),?_⟩
   refine zA [8] (by decide) U (zw [3,4,5,6,7] U ⟨zb U U (zd (v:=.pointer (some ⟨b13,o14,none⟩)) a5_2 ⟨U,U⟩),zb U U (zj U ⟨U,U⟩),zb U U (zf U fo_290_2 ⟨U,U⟩),zb U U (zk U ag_37 c21 ⟨U,U⟩),zb U U (zd (v:=.int .i64 x2) U ⟨U,U⟩),V⟩) U ⟨?_,V⟩
   refine zb U U (zG (vs:=[.int .u64 x16,.int .i64 x2]) en_188 (zm U (zm U zy)) (CallsH.mono H ?_))
   clear H
   rintro _ h22 ⟨x24,rfl,H⟩
   refine⟨[(Value.int .u64 p2),(Value.int .i64 x2),(Value.int .i64 x20),(Value.pointer (some ⟨b13,o14,none⟩)),(Value.pointer (some ⟨b13,o14,none⟩)),(Value.pointer (some ⟨b13,o14+257,none⟩)),(Value.int .u64 x16),(Value.int .i64 x2),(Value.int .i64 x24),(Value.bool (!decide (x20=x24)))],rfl,(zH [0,1,2,3,4,5,6,7] rfl ⟨rfl,rfl,rfl,rfl,rfl,rfl,rfl,rfl,trivial⟩),?_⟩
   refine zJ U (zw [9] U ⟨zb U U (op_neq U U ⟨U,U⟩),V⟩) U ?_
   refine zz (!decide (x20=x24)) U ?_ ?_
   ·intro hb
    replace H:=H.1 (zn (zt hb))
    refine zc U ?_
    refine za (zd (v:=.int .i64 x2) U ?_)
    refine za (zg (v:=.int .i64 x2) U ?_)
    refine zh ?_
    exact hin10 _ _ _ rfl a5_2 a5_3 a5_4 a5_1 H
   ·intro hb
    replace H:=H.2 (zo (zL hb))
    refine zC ?_
    exact hin10 _ _ _ a5_0 a5_2 a5_3 a5_4 a5_1 H
  ·clear H
   intro f h11 hf
   obtain⟨x8,a10_0,a10_1,a10_2,a10_3,a10_4,hJ⟩:=hout10 _ _ hf
   have H:=HR x8 h11 hJ
   refine zc U ?_
   obtain⟨c12,H⟩:=H
   refine za (yf a10_4 U (zU c12) ?_)
   refine za (zd (v:=.int .i64 (x2+1)) U ?_)
   refine zh ?_
   exact And.intro (hin5 _ _ _ _ a10_0 rfl a10_1 a10_2 a10_3 H.1) (yk (hmu5 _ _ _ _ a10_0 rfl) (hmu5 _ _ _ _ a5_0 a5_1) H.2)
 ·intro hb
  replace H:=H.2 (zn hb)
  refine ya ?_
  refine ze ?_
  refine zc U ?_
  refine za (zd (v:=.int .u64 p2) a5_4 ?_)
  refine za (zd (v:=.int .i64 x1) a5_0 ?_)
  refine za (zG (vs:=[.int .u64 p2,.int .i64 x1]) en_188 (zm U (zm U zy)) (CallsH.mono H ?_))
  clear H
  rintro _ h26 ⟨x28,rfl,H⟩
  refine za (zg (v:=.int .i64 x28) U ?_)
  refine zh ?_
  obtain⟨J29,HR,H⟩:=H
  obtain⟨J30,hin30,hout30⟩ : ∃ J30:Fr→Heap→Prop,(∀ f hz,f 0 = .pointer p0→f 1 = .int .i64 p1→f 2 = .int .u64 p2→f 6 = .int .i64 x1→f 8 = .int .i64 x28→J29 hz→J30 f hz)∧(∀ f hz,J30 f hz→f 0 = .pointer p0∧f 1 = .int .i64 p1∧f 2 = .int .u64 p2∧f 6 = .int .i64 x1∧f 8 = .int .i64 x28∧J29 hz):=⟨fun f hz=>f 0 = .pointer p0∧f 1 = .int .i64 p1∧f 2 = .int .u64 p2∧f 6 = .int .i64 x1∧f 8 = .int .i64 x28∧J29 hz,fun _ _ a0 a1 a2 a3 a4 z=>⟨a0,a1,a2,a3,a4,z⟩,fun _ _ hz=>hz⟩
  refine ym J30 ?_ ?_
  ·skip
   refine ze ?_
   refine zc U ?_
   refine za (zd (v:=.pointer p0) a5_2 ?_)
   refine za (zd (v:=.int .i64 x1) a5_0 ?_)
   refine za (zd (v:=.int .i64 x28) U ?_)
   obtain⟨b55,o56,rfl,H⟩:=H
   refine za (zj U ?_)
   refine za (zf U fo_290_0 ?_)
   obtain⟨c58,H⟩:=H
   refine za (zQ U U ei_287 c58 ?_)
   obtain⟨c59,H⟩:=H
   refine za (zQ U U ei_286 c59 ?_)
   obtain⟨x60,c61,H⟩:=H
   refine za (zk U ag_285 c61 ?_)
   refine za (op_eq_map_nil U U un_285 ?_)
   refine zh ?_
   refine zz (x60.isNone) U ?_ ?_
   ·intro hb
    replace H:=H.1 hb
    refine zc U ?_
    refine za (zd (v:=.pointer (some ⟨b55,o56,none⟩)) a5_2 ?_)
    refine za (zd (v:=.int .i64 x1) a5_0 ?_)
    refine za (zd (v:=.int .i64 x28) U ?_)
    obtain⟨h63,c64⟩ : ∃ h63,h63=h26.push (.map #[] 0):=⟨_,rfl⟩
    replace H:=H h63 c64
    refine za (op_makeMap' c64 ?_)
    refine za (zj U ?_)
    refine za (zf U fo_290_0 ?_)
    obtain⟨c65,H⟩:=H
    refine za (zQ U U ei_287 c65 ?_)
    obtain⟨c66,H⟩:=H
    refine za (zQ U U ei_286 c66 ?_)
    obtain⟨h68,c67,H⟩:=H
    refine za (zI (v:=.map (some h26.size)) U U sz_285 U c67 ?_)
    refine zh ?_
    exact hin30 _ _ a5_2 a5_3 a5_4 a5_0 rfl H
   ·intro hb
    replace H:=H.2 hb
    refine zC ?_
    exact hin30 _ _ a5_2 a5_3 a5_4 a5_0 rfl H
  ·clear H
   intro f h31 hf
   obtain⟨a30_0,a30_1,a30_2,a30_3,a30_4,hJ⟩:=hout30 _ _ hf
   have H:=HR h31 hJ
   refine ze ?_
   refine zc U ?_
   refine za (zd (v:=.pointer p0) a30_0 ?_)
   refine za (zd (v:=.int .i64 x1) a30_3 ?_)
   refine za (zd (v:=.int .i64 x28) a30_4 ?_)
   obtain⟨b32,o33,rfl,H⟩:=H
   refine za (zj U ?_)
   refine za (zf U fo_290_0 ?_)
   obtain⟨c35,H⟩:=H
   refine za (zQ U U ei_287 c35 ?_)
   obtain⟨c36,H⟩:=H
   refine za (zQ U U ei_286 c36 ?_)
   obtain⟨x37,c38,H⟩:=H
   refine za (zk U ag_285 c38 ?_)
   refine za (zd (v:=.int .i64 p1) a30_1 ?_)
   obtain⟨r39,rfl,H⟩:=H
   obtain⟨l40,n41,c43,H⟩:=H
   obtain⟨h44,c45⟩ : ∃ h44,h44=h31.setIfInBounds r39 (mobj (Value.int .i64) (mput l40 p1 (Value.bool true) n41) (mclk l40 p1 n41)):=⟨_,rfl⟩
   replace H:=H h44 c45
   refine za (op_mapUpdate' (v:=.bool true) (zZ .i64) mt_285 U U U c43 c45 ?_)
   refine zh ?_
   refine zc U ?_
   refine za (zd (v:=.pointer (some ⟨b32,o33,none⟩)) a30_0 ?_)
   refine za (zj U ?_)
   refine za (zf U fo_290_1 ?_)
   obtain⟨x46,c47,H⟩:=H
   refine za (zk U ag_288 c47 ?_)
   refine za (zd (v:=.int .i64 p1) a30_1 ?_)
   refine za (zd (v:=.int .u64 p2) a30_2 ?_)
   refine za (zd (v:=.int .i64 x1) a30_3 ?_)
   refine za (zd (v:=.int .i64 x28) a30_4 ?_)
   refine za (zX (vs:=[(0,.int .u64 p2),(1,.int .i64 x1),(2,.int .i64 x28)]) (cs:=#[.int .u64 p2,.int .i64 x1,.int .i64 x28]) z_292 fs_292 (zM U (zM U (zM U zT))) U ?_)
   obtain⟨r48,rfl,H⟩:=H
   obtain⟨l49,n50,c52,H⟩:=H
   obtain⟨h53,c54⟩ : ∃ h53,h53=h44.setIfInBounds r48 (mobj (Value.int .i64) (mput l49 p1 (Value.agg #[.int .u64 p2,.int .i64 x1,.int .i64 x28]) n50) (mclk l49 p1 n50)):=⟨_,rfl⟩
   replace H:=H h53 c54
   refine za (op_mapUpdate' (v:=.agg #[.int .u64 p2,.int .i64 x1,.int .i64 x28]) (zZ .i64) mt_288 U U U c52 c54 ?_)
   refine zh ?_
   exact end_leaf zu H
def Gha:Cert:=⟨[[],[],[1],[],[3],[0],[0,5],[0,1,2,5,6],[0,1,2,3,4,5,6,7],[0,1,2,3,4,5,6,7,8],[],[0,1,2,3,4,5,6,7,8,9,10]],[false,false,false,false,false,false,false,false,false,false,false,true]⟩
def Gf6 (p0:Option Addr) (p1:Int) (K:Heap→Prop) (h:Heap):Prop:=
 ∃ (b1:Nat) (o2:Nat),p0=some ⟨b1,o2,none⟩∧∃ (x4:Option Nat),cellH h b1 (o2+256)=some (.map x4)∧∃ (l6:List (ME Int)) (n7:Nat),mapAt (Value.int .i64) h x4 l6 n7∧∃ (x9_0:Int) (x9_1:Int) (x9_2:Int),(mlook l6 p1).getD (Value.agg #[.int .u64 0,.int .i64 0,.int .i64 0])=(Value.agg #[.int .u64 x9_0,.int .i64 x9_1,.int .i64 x9_2])∧∀ (h11:Heap),h11=h.push (.cells #[.int .u64 0,.int .i64 0,.int .i64 0] 292 (0,0))→∃ (h14:Heap),stCells h.size h11 0 [.int .u64 x9_0,.int .i64 x9_1,.int .i64 x9_2]=some h14∧∃ (x15:Int),cellH h14 h.size 1=some (.int .i64 x15)∧∃ (x17:Int),cellH h14 h.size 2=some (.int .i64 x17)∧(0≤x15∧x15<16)∧(0≤x17∧x17<16)∧∃ (x21:Option Nat),cellH h14 b1 (o2+x15.toNat * 16+x17.toNat * 1)=some (.map x21)∧∃ (r23:Nat),x21=some r23∧∃ (l24:List (ME Int)) (n25:Nat),h14[r23]? = some (mobj (Value.int .i64) l24 n25)∧∀ (h28:Heap),h28=h14.setIfInBounds r23 (mobj (Value.int .i64) (mdel l24 p1) n25)→∃ (x30:Option Nat),cellH h28 b1 (o2+256)=some (.map x30)∧∃ (r32:Nat),x30=some r32∧∃ (l33:List (ME Int)) (n34:Nat),h28[r32]? = some (mobj (Value.int .i64) l33 n34)∧∀ (h37:Heap),h37=h28.setIfInBounds r32 (mobj (Value.int .i64) (mdel l33 p1) n34)→K h37
theorem Gf7 (p0:Option Addr) (p1:Int) (R:Value→Heap→Prop) (h:Heap) (H:Gf6 p0 p1 (fun h'=>R (Value.tuple #[]) h') h):CallsH PR Gnz #[.pointer p0,.int .i64 p1] h R:=by
 refine zD (args:=[.pointer p0,.int .i64 p1]) Tryz.func163 U U ?_
 intro f hf
 have e0:=hf 0 _ rfl
 have e1:=hf 1 _ rfl
 clear hf
 unfold Gf6 at H
 refine ze ?_
 refine zc U ?_
 refine za (zd (v:=.pointer p0) e0 ?_)
 obtain⟨b1,o2,rfl,H⟩:=H
 refine za (zj U ?_)
 refine za (zf U fo_290_1 ?_)
 obtain⟨x4,c5,H⟩:=H
 refine za (zk U ag_288 c5 ?_)
 refine za (zd (v:=.int .i64 p1) e1 ?_)
 obtain⟨l6,n7,c8,H⟩:=H
 obtain⟨x9_0,x9_1,x9_2,c10,H⟩:=H
 refine za (yh (zZ .i64) mt_288 z_292 U U c8 c10 ?_)
 obtain⟨h11,c12⟩ : ∃ h11,h11=h.push (.cells #[.int .u64 0,.int .i64 0,.int .i64 0] 292 (0,0)):=⟨_,rfl⟩
 replace H:=H h11 c12
 refine za (zW z_292 c12 ?_)
 obtain⟨h14,c13,H⟩:=H
 refine za (zI (v:=.agg #[.int .u64 x9_0,.int .i64 x9_1,.int .i64 x9_2]) U U sz_292 U c13 ?_)
 refine zh ?_
 refine ze ?_
 obtain⟨x15,c16,H⟩:=H
 obtain⟨x17,c18,H⟩:=H
 obtain⟨c19,H⟩:=H
 obtain⟨c20,H⟩:=H
 obtain⟨x21,c22,H⟩:=H
 refine zO Gha 1 [(Y (some ⟨b1,o2,none⟩)),(Y (some ⟨h.size,1,none⟩)),(Z .i64 x15),(Y (some ⟨h.size,2,none⟩)),(Z .i64 x17),(Y (some ⟨b1,o2,none⟩)),(Y (some ⟨b1,o2,none⟩)),(Y (some ⟨b1,o2+x15.toNat * 16,none⟩)),(Y (some ⟨b1,o2+x15.toNat * 16+x17.toNat * 1,none⟩)),(Value.map x21),(Z .i64 p1),undef] (by kernel_rfl) U mixed_PR ?_
 refine zA [11] (by decide) U (zw [0,1,2,3,4,5,6,7,8,9,10] U ⟨zb U U (zd (v:=.pointer (some ⟨b1,o2,none⟩)) e0 ⟨U,U⟩),zb U U (zf U fo_292_1 ⟨U,U⟩),zb U U (zk U ag_3 c16 ⟨U,U⟩),zb U U (zf U fo_292_2 ⟨U,U⟩),zb U U (zk U ag_3 c18 ⟨U,U⟩),zb U U (zj U ⟨U,U⟩),zb U U (zf U fo_290_0 ⟨U,U⟩),zb U U (zQ U U ei_287 c19 ⟨U,U⟩),zb U U (zQ U U ei_286 c20 ⟨U,U⟩),zb U U (zk U ag_285 c22 ⟨U,U⟩),zb U U (zd (v:=.int .i64 p1) e1 ⟨U,U⟩),V⟩) U ⟨?_,V⟩
 obtain⟨r23,rfl,H⟩:=H
 obtain⟨l24,n25,c27,H⟩:=H
 obtain⟨h28,c29⟩ : ∃ h28,h28=h14.setIfInBounds r23 (mobj (Value.int .i64) (mdel l24 p1) n25):=⟨_,rfl⟩
 replace H:=H h28 c29
 refine zb U U (op_delete' (zZ .i64) U mt_285 U U c27 c29 ?_)
 refine⟨[(Value.pointer (some ⟨b1,o2,none⟩)),(Value.pointer (some ⟨h.size,1,none⟩)),(Value.int .i64 x15),(Value.pointer (some ⟨h.size,2,none⟩)),(Value.int .i64 x17),(Value.pointer (some ⟨b1,o2,none⟩)),(Value.pointer (some ⟨b1,o2,none⟩)),(Value.pointer (some ⟨b1,o2+x15.toNat * 16,none⟩)),(Value.pointer (some ⟨b1,o2+x15.toNat * 16+x17.toNat * 1,none⟩)),(Value.map (some r23)),(Value.int .i64 p1),undef],rfl,(zH [0,1,2,3,4,5,6,7,8,9,10] rfl ⟨rfl,rfl,rfl,rfl,rfl,rfl,rfl,rfl,rfl,rfl,rfl,trivial⟩),?_⟩
 refine zJ U (zw [] U V) U ?_
 refine zc U ?_
 refine za (zd (v:=.pointer (some ⟨b1,o2,none⟩)) e0 ?_)
 refine za (zj U ?_)
 refine za (zf U fo_290_1 ?_)
 obtain⟨x30,c31,H⟩:=H
 refine za (zk U ag_288 c31 ?_)
 refine za (zd (v:=.int .i64 p1) e1 ?_)
 obtain⟨r32,rfl,H⟩:=H
 obtain⟨l33,n34,c36,H⟩:=H
 obtain⟨h37,c38⟩ : ∃ h37,h37=h28.setIfInBounds r32 (mobj (Value.int .i64) (mdel l33 p1) n34):=⟨_,rfl⟩
 replace H:=H h37 c38
 refine za (op_delete' (zZ .i64) U mt_288 U U c36 c38 ?_)
 refine zh ?_
 exact end_leaf zu H
def Gf4 (p0:Option Addr) (p1:Int) (p2:Int) (K:Int→Heap→Prop) (h:Heap):Prop:=
 ∃ (b3:Nat) (o4:Nat),((((decide (p1<0)) || (decide (999<p1)))=false)→p0=some ⟨b3,o4,none⟩)∧∃ (x6:Int),((((decide (p1<0)) || (decide (999<p1)))=false)→cellH h b3 (o4+257)=some (.int .u64 x6))∧((((decide (p1<0)) || (decide (999<p1))) || (decide (p2≤x6)))=true→K 1 h)∧((((decide (p1<0)) || (decide (999<p1))) || (decide (p2≤x6)))=false→CallsH PR Gnq #[.int .u64 p2] h (fun v h9=>∃ (x11:Bool),v=(Value.bool x11)∧(x11=false→K 2 h9)∧(x11=true→∃ J12:Heap→Prop,(∀ (h14:Heap),J12 h14→CallsH PR Go2 #[.pointer p0,.int .i64 p1,.int .u64 p2] h14 (fun v h15=>v=(Value.tuple #[])∧K 0 h15))∧∃ (b17:Nat) (o18:Nat),p0=some ⟨b17,o18,none⟩∧∃ (x20:Option Nat),cellH h9 b17 (o18+256)=some (.map x20)∧∃ (l22:List (ME Int)) (n23:Nat),mapAt (Value.int .i64) h9 x20 l22 n23∧∃ (x25_0:Int) (x25_1:Int) (x25_2:Int),(mlook l22 p1).getD (Value.agg #[.int .u64 0,.int .i64 0,.int .i64 0])=(Value.agg #[.int .u64 x25_0,.int .i64 x25_1,.int .i64 x25_2])∧∀ (h27:Heap),h27=h9.push (.cells #[.int .u64 0,.int .i64 0,.int .i64 0] 292 (0,0))→∃ (h30:Heap),stCells h9.size h27 0 [.int .u64 x25_0,.int .i64 x25_1,.int .i64 x25_2]=some h30∧(((mlook l22 p1).isSome)=true→CallsH PR Gnz #[.pointer (some ⟨b17,o18,none⟩),.int .i64 p1] h30 (fun v h31=>v=(Value.tuple #[])∧J12 h31))∧(((mlook l22 p1).isSome)=false→J12 h30))))
theorem Gf5 (p0:Option Addr) (p1:Int) (p2:Int) (R:Value→Heap→Prop) (h:Heap) (H:Gf4 p0 p1 p2 (fun r0 h'=>R (Value.int .i64 r0) h') h):CallsH PR Gny #[.pointer p0,.int .i64 p1,.int .u64 p2] h R:=by
 refine zD (args:=[.pointer p0,.int .i64 p1,.int .u64 p2]) Tryz.func127 U U ?_
 intro f hf
 have e0:=hf 0 _ rfl
 have e1:=hf 1 _ rfl
 have e2:=hf 2 _ rfl
 clear hf
 unfold Gf4 at H
 refine ze ?_
 refine zc U ?_
 refine za (zg (v:=.int .i64 0) U ?_)
 refine zh ?_
 refine ze ?_
 refine zK ?_
 refine ze ?_
 refine zc U ?_
 refine za (zd (v:=.int .i64 p1) e1 ?_)
 refine za (zY U U ?_)
 refine za (zd (v:=.bool (decide (p1<0))) U ?_)
 refine zF (b:=!(decide (p1<0))) (zi U U) (Z .i64 p1) (fun hb N hN=>zd (v:=.int .i64 p1) e1 hN) ?_
 refine zF (b:=!(decide (p1<0))) (zi U U) (W (decide (999<p1))) (fun hb N hN=>yj (gv hb) U hN) ?_
 refine za (zR U U (fun hq=>(gv (zP hq))) ?_)
 refine za (zd (v:=.bool ((decide (p1<0)) || (decide (999<p1)))) U ?_)
 refine zF (b:=!((decide (p1<0)) || (decide (999<p1)))) (zi U U) (Z .u64 p2) (fun hb N hN=>zd (v:=.int .u64 p2) e2 hN) ?_
 refine zF (b:=!((decide (p1<0)) || (decide (999<p1)))) (zi U U) (Y p0) (fun hb N hN=>zd (v:=.pointer p0) e0 hN) ?_
 obtain⟨b3,o4,c5,H⟩:=H
 refine zF (b:=!((decide (p1<0)) || (decide (999<p1)))) (zi U U) (Y (some ⟨b3,o4,none⟩)) (fun hb N hN=>zj (Eq.trans (gv hb) (congrArg Y (c5 (zt hb)))) hN) ?_
 refine zF (b:=!((decide (p1<0)) || (decide (999<p1)))) (zi U U) (Y (some ⟨b3,o4+257,none⟩)) (fun hb N hN=>zf (gv hb) fo_290_2 hN) ?_
 obtain⟨x6,c7,H⟩:=H
 refine zF (b:=!((decide (p1<0)) || (decide (999<p1)))) (zi U U) (Z .u64 x6) (fun hb N hN=>zk (gv hb) ag_37 (c7 (zt hb)) hN) ?_
 refine zF (b:=!((decide (p1<0)) || (decide (999<p1)))) (zi U U) (W (decide (p2≤x6))) (fun hb N hN=>op_leq (gv hb) (gv hb) hN) ?_
 refine za (zR U U (fun hq=>(gv (zP hq))) ?_)
 refine za (zg (v:=.bool (((decide (p1<0)) || (decide (999<p1))) || (decide (p2≤x6)))) U ?_)
 refine zh ?_
 refine zz (((decide (p1<0)) || (decide (999<p1))) || (decide (p2≤x6))) U ?_ ?_
 ·intro hb
  replace H:=H.1 hb
  refine ze ?_
  refine zc U ?_
  refine za (zg (v:=.int .i64 1) U ?_)
  refine zh ?_
  refine zx ?_
  exact zv (zq U zu) H
 ·intro hb
  replace H:=H.2 hb
  refine ze ?_
  refine zc U ?_
  refine za (zd (v:=.int .u64 p2) e2 ?_)
  refine za (zG (vs:=[.int .u64 p2]) en_117 (zm U zy) (CallsH.mono H ?_))
  clear H
  rintro _ h9 ⟨x11,rfl,H⟩
  refine za (yi U ?_)
  refine za (zg (v:=.bool (!x11)) U ?_)
  refine zh ?_
  refine zz (!x11) U ?_ ?_
  ·intro hb
   replace H:=H.1 (zt hb)
   refine ze ?_
   refine zc U ?_
   refine za (zg (v:=.int .i64 2) U ?_)
   refine zh ?_
   refine zx ?_
   exact zv (zq U zu) H
  ·intro hb
   replace H:=H.2 (zL hb)
   refine zC ?_
   obtain⟨J12,HR,H⟩:=H
   obtain⟨J13,hin13,hout13⟩ : ∃ J13:Fr→Heap→Prop,(∀ f hz,f 0 = .pointer p0→f 1 = .int .i64 p1→f 2 = .int .u64 p2→J12 hz→J13 f hz)∧(∀ f hz,J13 f hz→f 0 = .pointer p0∧f 1 = .int .i64 p1∧f 2 = .int .u64 p2∧J12 hz):=⟨fun f hz=>f 0 = .pointer p0∧f 1 = .int .i64 p1∧f 2 = .int .u64 p2∧J12 hz,fun _ _ a0 a1 a2 z=>⟨a0,a1,a2,z⟩,fun _ _ hz=>hz⟩
   refine ym J13 ?_ ?_
   ·skip
    refine ze ?_
    refine zc U ?_
    refine za (zd (v:=.pointer p0) e0 ?_)
    obtain⟨b17,o18,rfl,H⟩:=H
    refine za (zj U ?_)
    refine za (zf U fo_290_1 ?_)
    obtain⟨x20,c21,H⟩:=H
    refine za (zk U ag_288 c21 ?_)
    refine za (zd (v:=.int .i64 p1) e1 ?_)
    obtain⟨l22,n23,c24,H⟩:=H
    obtain⟨x25_0,x25_1,x25_2,c26,H⟩:=H
    refine za (op_lookup_ok' (zZ .i64) mt_288 z_292 U U c24 c26 ?_)
    refine za (zd (v:=.tuple #[.agg #[.int .u64 x25_0,.int .i64 x25_1,.int .i64 x25_2],.bool ((mlook l22 p1).isSome)]) U ?_)
    refine za (zB U U ?_)
    refine za (zB U U ?_)
    obtain⟨h27,c28⟩ : ∃ h27,h27=h9.push (.cells #[.int .u64 0,.int .i64 0,.int .i64 0] 292 (0,0)):=⟨_,rfl⟩
    replace H:=H h27 c28
    refine za (zW z_292 c28 ?_)
    obtain⟨h30,c29,H⟩:=H
    refine za (zI (v:=.agg #[.int .u64 x25_0,.int .i64 x25_1,.int .i64 x25_2]) U U sz_292 U c29 ?_)
    refine za (zg (v:=.bool ((mlook l22 p1).isSome)) U ?_)
    refine zh ?_
    refine ze ?_
    refine zc U ?_
    refine za (zd (v:=.bool ((mlook l22 p1).isSome)) U ?_)
    refine zh ?_
    refine zz ((mlook l22 p1).isSome) U ?_ ?_
    ·intro hb
     replace H:=H.1 hb
     refine zc U ?_
     refine za (zd (v:=.pointer (some ⟨b17,o18,none⟩)) e0 ?_)
     refine za (zd (v:=.int .i64 p1) e1 ?_)
     refine za (zG (vs:=[.pointer (some ⟨b17,o18,none⟩),.int .i64 p1]) en_163 (zm U (zm U zy)) (CallsH.mono H ?_))
     clear H
     rintro _ h31 ⟨rfl,H⟩
     refine zh ?_
     exact hin13 _ _ e0 e1 e2 H
    ·intro hb
     replace H:=H.2 hb
     refine zC ?_
     exact hin13 _ _ e0 e1 e2 H
   ·clear H
    intro f h14 hf
    obtain⟨a13_0,a13_1,a13_2,hJ⟩:=hout13 _ _ hf
    have H:=HR h14 hJ
    refine ze ?_
    refine zc U ?_
    refine za (zd (v:=.pointer p0) a13_0 ?_)
    refine za (zd (v:=.int .i64 p1) a13_1 ?_)
    refine za (zd (v:=.int .u64 p2) a13_2 ?_)
    refine za (zG (vs:=[.pointer p0,.int .i64 p1,.int .u64 p2]) en_164 (zm U (zm U (zm U zy))) (CallsH.mono H ?_))
    clear H
    rintro _ h15 ⟨rfl,H⟩
    refine zh ?_
    refine ze ?_
    refine zc U ?_
    refine za (zg (v:=.int .i64 0) U ?_)
    refine zh ?_
    refine zx ?_
    exact zv (zq U zu) H
def Gey (p0:Option Addr) (p1:Int) (K:Int→Heap→Prop) (h:Heap):Prop:=
 ∃ (b1:Nat) (o2:Nat),p0=some ⟨b1,o2,none⟩∧∃ (x4:Option Nat),cellH h b1 (o2+256)=some (.map x4)∧∃ (l6:List (ME Int)) (n7:Nat),mapAt (Value.int .i64) h x4 l6 n7∧∃ (x9_0:Int) (x9_1:Int) (x9_2:Int),(mlook l6 p1).getD (Value.agg #[.int .u64 0,.int .i64 0,.int .i64 0])=(Value.agg #[.int .u64 x9_0,.int .i64 x9_1,.int .i64 x9_2])∧∀ (h11:Heap),h11=h.push (.cells #[.int .u64 0,.int .i64 0,.int .i64 0] 292 (0,0))→∃ (h14:Heap),stCells h.size h11 0 [.int .u64 x9_0,.int .i64 x9_1,.int .i64 x9_2]=some h14∧(((mlook l6 p1).isSome)=false→K 6 h14)∧(((mlook l6 p1).isSome)=true→CallsH PR Gnz #[.pointer (some ⟨b1,o2,none⟩),.int .i64 p1] h14 (fun v h15=>v=(Value.tuple #[])∧K 0 h15))
theorem Gez (p0:Option Addr) (p1:Int) (R:Value→Heap→Prop) (h:Heap) (H:Gey p0 p1 (fun r0 h'=>R (Value.int .i64 r0) h') h):CallsH PR Gnu #[.pointer p0,.int .i64 p1] h R:=by
 refine zD (args:=[.pointer p0,.int .i64 p1]) Tryz.func177 U U ?_
 intro f hf
 have e0:=hf 0 _ rfl
 have e1:=hf 1 _ rfl
 clear hf
 unfold Gey at H
 refine ze ?_
 refine zc U ?_
 refine za (zg (v:=.int .i64 0) U ?_)
 refine zh ?_
 refine ze ?_
 refine ze ?_
 refine zc U ?_
 refine za (zd (v:=.pointer p0) e0 ?_)
 obtain⟨b1,o2,rfl,H⟩:=H
 refine za (zj U ?_)
 refine za (zf U fo_290_1 ?_)
 obtain⟨x4,c5,H⟩:=H
 refine za (zk U ag_288 c5 ?_)
 refine za (zd (v:=.int .i64 p1) e1 ?_)
 obtain⟨l6,n7,c8,H⟩:=H
 obtain⟨x9_0,x9_1,x9_2,c10,H⟩:=H
 refine za (op_lookup_ok' (zZ .i64) mt_288 z_292 U U c8 c10 ?_)
 refine za (zd (v:=.tuple #[.agg #[.int .u64 x9_0,.int .i64 x9_1,.int .i64 x9_2],.bool ((mlook l6 p1).isSome)]) U ?_)
 refine za (zB U U ?_)
 refine za (zB U U ?_)
 obtain⟨h11,c12⟩ : ∃ h11,h11=h.push (.cells #[.int .u64 0,.int .i64 0,.int .i64 0] 292 (0,0)):=⟨_,rfl⟩
 replace H:=H h11 c12
 refine za (zW z_292 c12 ?_)
 obtain⟨h14,c13,H⟩:=H
 refine za (zI (v:=.agg #[.int .u64 x9_0,.int .i64 x9_1,.int .i64 x9_2]) U U sz_292 U c13 ?_)
 refine za (zg (v:=.bool ((mlook l6 p1).isSome)) U ?_)
 refine zh ?_
 refine ze ?_
 refine zc U ?_
 refine za (zd (v:=.bool ((mlook l6 p1).isSome)) U ?_)
 refine za (yi U ?_)
 refine zh ?_
 refine zz (!((mlook l6 p1).isSome)) U ?_ ?_
 ·intro hb
  replace H:=H.1 (zt hb)
  refine ze ?_
  refine zc U ?_
  refine za (zg (v:=.int .i64 6) U ?_)
  refine zh ?_
  refine zx ?_
  exact zv (zq U zu) H
 ·intro hb
  replace H:=H.2 (zL hb)
  refine zC ?_
  refine ze ?_
  refine zc U ?_
  refine za (zd (v:=.pointer (some ⟨b1,o2,none⟩)) e0 ?_)
  refine za (zd (v:=.int .i64 p1) e1 ?_)
  refine za (zG (vs:=[.pointer (some ⟨b1,o2,none⟩),.int .i64 p1]) en_163 (zm U (zm U zy)) (CallsH.mono H ?_))
  clear H
  rintro _ h15 ⟨rfl,H⟩
  refine zh ?_
  refine ze ?_
  refine zc U ?_
  refine za (zg (v:=.int .i64 0) U ?_)
  refine zh ?_
  refine zx ?_
  exact zv (zq U zu) H
def Gf8 (p0:Option Addr) (K:Int→Bool→Heap→Prop) (h:Heap):Prop:=
 ∃ (I2:Int→Heap→Prop) (mu3:Int→Heap→Nat),I2 0 h∧∀ (x1:Int) (h5:Heap),I2 x1 h5→(x1<16→∃ (b7:Nat) (o8:Nat),p0=some ⟨b7,o8,none⟩∧∃ (x10:Int),cellH h5 b7 (o8+257)=some (.int .u64 x10)∧CallsH PR Go3 #[.int .u64 x10,.int .i64 x1] h5 (fun v h12=>∃ (x14:Int),v=(Value.int .i64 x14)∧∃ (I16:Int→Heap→Prop) (mu17:Int→Heap→Nat),I16 x14 h12∧∀ (x15:Int) (h19:Heap),I16 x15 h19→(x15<16→(0≤x1∧x1<16)∧(0≤x15∧x15<16)∧∃ (x23:Option Nat),cellH h19 b7 (o8+x1.toNat * 16+x15.toNat * 1)=some (.map x23)∧∃ (l25:List (ME Int)) (n26:Nat),mapAt (Value.int .i64) h19 x23 l25 n26∧((l25.length:Int)=0→(-9223372036854775808≤x15+1∧x15+1<9223372036854775808)∧(I16 (x15+1) h19∧mu17 (x15+1) h19<mu17 x15 h19))∧((¬ ((l25.length:Int)=0))→(0≤x1∧x1<16)∧(0≤x15∧x15<16)∧∃ (x32:Option Nat),cellH h19 b7 (o8+x1.toNat * 16+x15.toNat * 1)=some (.map x32)∧∃ (l34:List (ME Int)) (n35:Nat),mapAt (Value.int .i64) h19 x32 l34 n35∧∀ (h36:Heap),((∀ x,x<h19.size→h36[x]? = h19[x]?)∧h36.size=h19.size+1∧iterAt (Value.int .i64) h36 h19.size l34 n35 #[])→∃ (I40:Int→Heap→Prop) (mu41:Int→Heap→Nat),I40 18446744073709551615 h36∧∀ (x39:Int) (h43:Heap),I40 x39 h43→∃ (l44:List (ME Int)) (n45:Nat) (sn46:Array Nat),iterAt (Value.int .i64) h43 h19.size l44 n45 sn46∧(∀ e∈l44,e.born<n45)∧((∀ e∈l44,e.born∈sn46)→K x39 true h43)∧(∀ e47∈l44,e47.born ∉ sn46→∀ h48:Heap,((∀ x,x≠h19.size→h48[x]? = h43[x]?)∧h48.size=h43.size∧iterAt (Value.int .i64) h48 h19.size l44 n45 (sn46.push e47.born))→(iterAt (Value.int .i64) h48 h19.size l44 n45 (sn46.push e47.born)∧(l44.map (·.born)).Nodup)∧∃ (x49:Bool),e47.val=(Value.bool x49)∧∃ (x52:Option Nat),cellH h48 b7 (o8+256)=some (.map x52)∧∃ (l54:List (ME Int)) (n55:Nat),mapAt (Value.int .i64) h48 x52 l54 n55∧∃ (x57_0:Int) (x57_1:Int) (x57_2:Int),(mlook l54 e47.key).getD (Value.agg #[.int .u64 0,.int .i64 0,.int .i64 0])=(Value.agg #[.int .u64 x57_0,.int .i64 x57_1,.int .i64 x57_2])∧(I40 (if x57_0<x39 then x57_0 else x39) h48∧mu41 (if x57_0<x39 then x57_0 else x39) h48<mu41 x39 h43))))∧((¬ (x15<16))→(-9223372036854775808≤x1+1∧x1+1<9223372036854775808)∧(I2 (x1+1) h19∧mu3 (x1+1) h19<mu3 x1 h5))))∧((¬ (x1<16))→K 0 false h5)
theorem Gf9 (p0:Option Addr) (R:Value→Heap→Prop) (h:Heap) (H:Gf8 p0 (fun r0 r1 h'=>R (Value.tuple #[.int .u64 r0,.bool r1]) h') h):CallsH PR Go0 #[.pointer p0] h R:=by
 refine zD (args:=[.pointer p0]) Tryz.func182 U U ?_
 intro f hf
 have e0:=hf 0 _ rfl
 clear hf
 unfold Gf8 at H
 refine ze ?_
 refine zc U ?_
 refine za (zg (v:=.int .u64 0) U ?_)
 refine za (zg (v:=.bool false) U ?_)
 refine zh ?_
 refine ze ?_
 refine ze ?_
 refine zc U ?_
 refine za (zd (v:=.int .i64 0) U ?_)
 refine zh ?_
 refine zK ?_
 obtain⟨I2,mu3,hI,H⟩:=H
 obtain⟨I4,mu4,hin4,hout4,hmu4⟩ : ∃ (J4:Fr→Heap→Prop) (m:Fr→Heap→Nat),(∀ f hz (x1:Int),f 8 = .int .i64 x1→f 0 = .pointer p0→I2 x1 hz→J4 f hz)∧(∀ f hz,J4 f hz→∃ (x1:Int),f 8 = .int .i64 x1∧f 0 = .pointer p0∧I2 x1 hz)∧(∀ f hz (x1:Int),f 8 = .int .i64 x1→m f hz=mu3 x1 hz):=⟨fun f hz=>∃ (x1:Int),f 8 = .int .i64 x1∧f 0 = .pointer p0∧I2 x1 hz,fun f hz=>mu3 (dInt (f 8)) hz,fun _ _ x1 a0 a1 z=>⟨x1,a0,a1,z⟩,fun _ _ hz=>hz,fun f hz x1 a0=>by simp only [a0]; rfl⟩
 refine yb I4 mu4 (hin4 _ _ _ U e0 hI) ?_
 clear hI
 intro f h5 hf
 obtain⟨x1,a4_0,a4_1,hJ⟩:=hout4 _ _ hf
 replace H:=H x1 h5 hJ
 refine ze ?_
 refine zc U ?_
 refine za (zY a4_0 U ?_)
 refine zh ?_
 refine ze ?_
 refine zz (decide (x1<16)) U ?_ ?_
 ·intro hb
  replace H:=H.1 (zo hb)
  refine zC ?_
  refine ze ?_
  refine zK ?_
  refine ze ?_
  refine zc U ?_
  refine za (zd (v:=.int .i64 x1) a4_0 ?_)
  refine za (zg (v:=.int .i64 x1) U ?_)
  refine zh ?_
  refine ze ?_
  refine zc U ?_
  refine za (zd (v:=.pointer p0) a4_1 ?_)
  obtain⟨b7,o8,rfl,H⟩:=H
  refine za (zj U ?_)
  refine za (zf U fo_290_2 ?_)
  obtain⟨x10,c11,H⟩:=H
  refine za (zk U ag_37 c11 ?_)
  refine za (zd (v:=.int .i64 x1) U ?_)
  refine za (zG (vs:=[.int .u64 x10,.int .i64 x1]) en_188 (zm U (zm U zy)) (CallsH.mono H ?_))
  clear H
  rintro _ h12 ⟨x14,rfl,H⟩
  refine za (zg (v:=.int .i64 x14) U ?_)
  refine zh ?_
  refine zK ?_
  obtain⟨I16,mu17,hI,H⟩:=H
  obtain⟨I18,mu18,hin18,hout18,hmu18⟩ : ∃ (J18:Fr→Heap→Prop) (m:Fr→Heap→Nat),(∀ f hz (x15:Int),f 5 = .int .i64 x15→f 0 = .pointer (some ⟨b7,o8,none⟩)→f 4 = .int .i64 x1→f 8 = .int .i64 x1→I16 x15 hz→J18 f hz)∧(∀ f hz,J18 f hz→∃ (x15:Int),f 5 = .int .i64 x15∧f 0 = .pointer (some ⟨b7,o8,none⟩)∧f 4 = .int .i64 x1∧f 8 = .int .i64 x1∧I16 x15 hz)∧(∀ f hz (x15:Int),f 5 = .int .i64 x15→m f hz=mu17 x15 hz):=⟨fun f hz=>∃ (x15:Int),f 5 = .int .i64 x15∧f 0 = .pointer (some ⟨b7,o8,none⟩)∧f 4 = .int .i64 x1∧f 8 = .int .i64 x1∧I16 x15 hz,fun f hz=>mu17 (dInt (f 5)) hz,fun _ _ x15 a0 a1 a2 a3 z=>⟨x15,a0,a1,a2,a3,z⟩,fun _ _ hz=>hz,fun f hz x15 a0=>by simp only [a0]; rfl⟩
  refine yb I18 mu18 (hin18 _ _ _ U a4_1 U a4_0 hI) ?_
  clear hI
  intro f h19 hf
  obtain⟨x15,a18_0,a18_1,a18_2,a18_3,hJ⟩:=hout18 _ _ hf
  replace H:=H x15 h19 hJ
  refine ze ?_
  refine ze ?_
  refine zc U ?_
  refine za (zd (v:=.int .i64 x15) a18_0 ?_)
  refine za (zY U U ?_)
  refine zh ?_
  refine zz (decide (x15<16)) U ?_ ?_
  ·intro hb
   replace H:=H.1 (zo hb)
   refine zC ?_
   refine ze ?_
   refine zK ?_
   refine ze ?_
   refine ze ?_
   refine zc U ?_
   refine za (zd (v:=.pointer (some ⟨b7,o8,none⟩)) a18_1 ?_)
   refine za (zd (v:=.int .i64 x1) a18_2 ?_)
   refine za (zd (v:=.int .i64 x15) a18_0 ?_)
   refine za (zj U ?_)
   refine za (zf U fo_290_0 ?_)
   obtain⟨c21,H⟩:=H
   refine za (zQ U U ei_287 c21 ?_)
   obtain⟨c22,H⟩:=H
   refine za (zQ U U ei_286 c22 ?_)
   obtain⟨x23,c24,H⟩:=H
   refine za (zk U ag_285 c24 ?_)
   obtain⟨l25,n26,c27,H⟩:=H
   refine za (op_len_map un_285 U c27 ?_)
   refine za (op_eql U U ?_)
   refine zh ?_
   refine zz (decide ((l25.length:Int)=0)) U ?_ ?_
   ·intro hb
    replace H:=H.1 (zo hb)
    refine ya ?_
    refine zc U ?_
    refine za (zd (v:=.int .i64 x15) a18_0 ?_)
    obtain⟨c29,H⟩:=H
    refine za (yf U U (zU c29) ?_)
    refine za (zg (v:=.int .i64 (x15+1)) U ?_)
    refine zh ?_
    exact And.intro (hin18 _ _ _ rfl a18_1 a18_2 a18_3 H.1) (yk (hmu18 _ _ _ rfl) (hmu18 _ _ _ a18_0) H.2)
   ·intro hb
    replace H:=H.2 (zn hb)
    refine zC ?_
    refine ze ?_
    refine zc U ?_
    refine za (zg (v:=.int .u64 18446744073709551615) U ?_)
    refine zh ?_
    refine ze ?_
    refine ze ?_
    refine zc U ?_
    refine za (zd (v:=.pointer (some ⟨b7,o8,none⟩)) a18_1 ?_)
    refine za (zd (v:=.int .i64 x1) a18_2 ?_)
    refine za (zd (v:=.int .i64 x15) a18_0 ?_)
    refine za (zj U ?_)
    refine za (zf U fo_290_0 ?_)
    obtain⟨c30,H⟩:=H
    refine za (zQ U U ei_287 c30 ?_)
    obtain⟨c31,H⟩:=H
    refine za (zQ U U ei_286 c31 ?_)
    obtain⟨x32,c33,H⟩:=H
    refine za (zk U ag_285 c33 ?_)
    obtain⟨l34,n35,c37,H⟩:=H
    refine za (op_range_any un_285 U c37 ?_)
    intro h36 c38
    replace H:=H h36 c38
    refine zh ?_
    refine zK ?_
    obtain⟨I40,mu41,hI,H⟩:=H
    obtain⟨I42,mu42,hin42,hout42,hmu42⟩ : ∃ (J42:Fr→Heap→Prop) (m:Fr→Heap→Nat),(∀ f hz (x39:Int),f 6 = .int .u64 x39→f 0 = .pointer (some ⟨b7,o8,none⟩)→f 39 = .pointer (some ⟨h19.size,0,none⟩)→I40 x39 hz→J42 f hz)∧(∀ f hz,J42 f hz→∃ (x39:Int),f 6 = .int .u64 x39∧f 0 = .pointer (some ⟨b7,o8,none⟩)∧f 39 = .pointer (some ⟨h19.size,0,none⟩)∧I40 x39 hz)∧(∀ f hz (x39:Int),f 6 = .int .u64 x39→m f hz=mu41 x39 hz):=⟨fun f hz=>∃ (x39:Int),f 6 = .int .u64 x39∧f 0 = .pointer (some ⟨b7,o8,none⟩)∧f 39 = .pointer (some ⟨h19.size,0,none⟩)∧I40 x39 hz,fun f hz=>mu41 (dInt (f 6)) hz,fun _ _ x39 a0 a1 a2 z=>⟨x39,a0,a1,a2,z⟩,fun _ _ hz=>hz,fun f hz x39 a0=>by simp only [a0]; rfl⟩
    refine yb I42 mu42 (hin42 _ _ _ U a18_1 U hI) ?_
    clear hI
    intro f h43 hf
    obtain⟨x39,a42_0,a42_1,a42_2,hJ⟩:=hout42 _ _ hf
    replace H:=H x39 h43 hJ
    refine ze ?_
    refine zc U ?_
    obtain⟨l44,n45,sn46,c59,c60,H0,H1⟩:=H
    refine za (op_next_any a42_2 c59 c60 ?_ ?_)
    ·intro hd
     have H:=H0 hd
     refine za (zB U U ?_)
     refine zh ?_
     refine ze ?_
     refine zz false U (fun hq=>by cases hq) (fun _=>?_)
     refine ya ?_
     refine ze ?_
     refine zc U ?_
     refine za (zd (v:=.int .u64 x39) a42_0 ?_)
     refine za (zg (v:=.int .u64 x39) U ?_)
     refine za (zg (v:=.bool true) U ?_)
     refine zh ?_
     refine zx ?_
     exact zv (zq U (zq U zu)) H
    ·intro e47 hee47 hne h48 hnh
     have H:=H1 e47 hee47 hne h48 hnh
     refine za (zB U U ?_)
     refine zh ?_
     refine ze ?_
     refine zz true U (fun _=>?_) (fun hq=>by cases hq)
     refine zC ?_
     refine zK ?_
     refine ze ?_
     refine zc U ?_
     obtain⟨c50,H⟩:=H
     obtain⟨x49,c51,H⟩:=H
     refine za (op_entry_any a42_2 c50.1 hee47 c50.2 c51 ?_)
     refine za (zB U U ?_)
     refine za (zg (v:=.int .i64 e47.key) U ?_)
     refine zh ?_
     refine zc U ?_
     refine za (zd (v:=.int .u64 x39) a42_0 ?_)
     refine za (zd (v:=.pointer (some ⟨b7,o8,none⟩)) a42_1 ?_)
     refine za (zj U ?_)
     refine za (zf U fo_290_1 ?_)
     obtain⟨x52,c53,H⟩:=H
     refine za (zk U ag_288 c53 ?_)
     refine za (zd (v:=.int .i64 e47.key) U ?_)
     obtain⟨l54,n55,c56,H⟩:=H
     obtain⟨x57_0,x57_1,x57_2,c58,H⟩:=H
     refine za (yh (zZ .i64) mt_288 z_292 U U c56 c58 ?_)
     refine za (op_field1 U fp_292_0 U ?_)
     refine za (op_min U U ?_)
     refine za (zg (v:=.int .u64 (if x57_0<x39 then x57_0 else x39)) U ?_)
     refine zh ?_
     exact And.intro (hin42 _ _ _ rfl a42_1 a42_2 H.1) (yk (hmu42 _ _ _ rfl) (hmu42 _ _ _ a42_0) H.2)
  ·intro hb
   replace H:=H.2 (zn hb)
   refine ya ?_
   refine zc U ?_
   obtain⟨c61,H⟩:=H
   refine za (yf a18_3 U (zU c61) ?_)
   refine za (zd (v:=.int .i64 (x1+1)) U ?_)
   refine zh ?_
   exact And.intro (hin4 _ _ _ rfl a18_1 H.1) (yk (hmu4 _ _ _ rfl) (hmu4 _ _ _ a4_0) H.2)
 ·intro hb
  replace H:=H.2 (zn hb)
  refine ya ?_
  refine ze ?_
  refine zc U ?_
  refine za (zg (v:=.int .u64 0) U ?_)
  refine za (zg (v:=.bool false) U ?_)
  refine zh ?_
  refine zx ?_
  exact zv (zq U (zq U zu)) H
def Ghb:Cert:=⟨[[],[],[],[],[2,3],[0],[0,5],[0,1,5,6],[0,1,2,3,4,5,6,7],[0,1,2,3,4,5,6,7,8],[0,1,2,3,4,5,6,7,8,9],[0,1,2,3,4,5,6,7,8,9,10],[0,1,2,3,4,5,6,7,8,9,10,11],[]],[false,false,false,false,true,false,false,false,false,false,true,true,false,false]⟩
def Gfa (p0:Option Addr) (p1:Int) (K:Heap→Prop) (h:Heap):Prop:=
 ∃ (b1:Nat) (o2:Nat),p0=some ⟨b1,o2,none⟩∧∃ (x4:Int),cellH h b1 (o2+257)=some (.int .u64 x4)∧∃ (h7:Heap),stCells b1 h (o2+257) [.int .u64 p1]=some h7∧∃ (I9:Int→Heap→Prop) (mu10:Int→Heap→Nat),I9 15 h7∧∀ (x8:Int) (h12:Heap),I9 x8 h12→(0≤x8→∃ J14:Heap→Prop,(∀ (h16:Heap),J14 h16→(-9223372036854775808≤x8 - 1∧x8 - 1<9223372036854775808)∧(I9 (x8 - 1) h16∧mu10 (x8 - 1) h16<mu10 x8 h12))∧CallsH PR Go3 #[.int .u64 x4,.int .i64 x8] h12 (fun v h18=>∃ (x20:Int),v=(Value.int .i64 x20)∧CallsH PR Go3 #[.int .u64 p1,.int .i64 x8] h18 (fun v h21=>∃ (x23:Int),v=(Value.int .i64 x23)∧(x20=x23→J14 h21)∧((¬ (x20=x23))→(0≤x8∧x8<16)∧CallsH PR Go3 #[.int .u64 p1,.int .i64 x8] h21 (fun v h26=>∃ (x28:Int),v=(Value.int .i64 x28)∧(0≤x28∧x28<16)∧∃ (x30:Option Nat),cellH h26 b1 (o2+x8.toNat * 16+x28.toNat * 1)=some (.map x30)∧CallsH PR Gl0 #[.map x30] h26 (fun x34 h32=>CallsH PR Gn0 #[x34] h32 (fun v h35=>∃ (x37a:Option Addr) (x37n:Nat) (x37c:Nat),v=(Value.slice x37a x37n x37c)∧∃ (I39:Int→Heap→Prop) (mu40:Int→Heap→Nat),I39 0 h35∧∀ (x38:Int) (h42:Heap),I39 x38 h42→(x38<(x37n:Int)→∃ (b45:Nat) (o46:Nat),x37a=some ⟨b45,o46,none⟩∧(0≤x38∧x38<(x37n:Int))∧∃ (x48:Int),cellH h42 b45 (o46+x38.toNat * 1)=some (.int .i64 x48)∧∃ (x50:Option Nat),cellH h42 b1 (o2+256)=some (.map x50)∧∃ (l52:List (ME Int)) (n53:Nat),mapAt (Value.int .i64) h42 x50 l52 n53∧∃ (x55_0:Int) (x55_1:Int) (x55_2:Int),(mlook l52 x48).getD (Value.agg #[.int .u64 0,.int .i64 0,.int .i64 0])=(Value.agg #[.int .u64 x55_0,.int .i64 x55_1,.int .i64 x55_2])∧CallsH PR Gnz #[.pointer (some ⟨b1,o2,none⟩),.int .i64 x48] h42 (fun v h57=>v=(Value.tuple #[])∧CallsH PR Go2 #[.pointer (some ⟨b1,o2,none⟩),.int .i64 x48,.int .u64 x55_0] h57 (fun v h59=>v=(Value.tuple #[])∧(-9223372036854775808≤x38+1∧x38+1<9223372036854775808)∧(I39 (x38+1) h59∧mu40 (x38+1) h59<mu40 x38 h42))))∧((¬ (x38<(x37n:Int)))→J14 h42))))))))∧((¬ (0≤x8))→K h12)
theorem Gfb (p0:Option Addr) (p1:Int) (R:Value→Heap→Prop) (h:Heap) (H:Gfa p0 p1 (fun h'=>R (Value.tuple #[]) h') h):CallsH PR Go1 #[.pointer p0,.int .u64 p1] h R:=by
 refine zD (args:=[.pointer p0,.int .u64 p1]) Tryz.func183 U U ?_
 intro f hf
 have e0:=hf 0 _ rfl
 have e1:=hf 1 _ rfl
 clear hf
 unfold Gfa at H
 refine ze ?_
 refine zc U ?_
 refine za (zd (v:=.pointer p0) e0 ?_)
 obtain⟨b1,o2,rfl,H⟩:=H
 refine za (zj U ?_)
 refine za (zf U fo_290_2 ?_)
 obtain⟨x4,c5,H⟩:=H
 refine za (zk U ag_37 c5 ?_)
 refine za (zg (v:=.int .u64 x4) U ?_)
 refine zh ?_
 refine ze ?_
 refine zc U ?_
 refine za (zd (v:=.pointer (some ⟨b1,o2,none⟩)) e0 ?_)
 refine za (zd (v:=.int .u64 p1) e1 ?_)
 refine za (zj U ?_)
 refine za (zf U fo_290_2 ?_)
 obtain⟨h7,c6,H⟩:=H
 refine za (zI (v:=.int .u64 p1) U U sz_37 U c6 ?_)
 refine zh ?_
 refine ze ?_
 refine zc U ?_
 refine za (zg (v:=.int .i64 15) U ?_)
 refine zh ?_
 refine zK ?_
 obtain⟨I9,mu10,hI,H⟩:=H
 obtain⟨I11,mu11,hin11,hout11,hmu11⟩ : ∃ (J11:Fr→Heap→Prop) (m:Fr→Heap→Nat),(∀ f hz (x8:Int),f 5 = .int .i64 x8→f 0 = .pointer (some ⟨b1,o2,none⟩)→f 1 = .int .u64 p1→f 4 = .int .u64 x4→I9 x8 hz→J11 f hz)∧(∀ f hz,J11 f hz→∃ (x8:Int),f 5 = .int .i64 x8∧f 0 = .pointer (some ⟨b1,o2,none⟩)∧f 1 = .int .u64 p1∧f 4 = .int .u64 x4∧I9 x8 hz)∧(∀ f hz (x8:Int),f 5 = .int .i64 x8→m f hz=mu10 x8 hz):=⟨fun f hz=>∃ (x8:Int),f 5 = .int .i64 x8∧f 0 = .pointer (some ⟨b1,o2,none⟩)∧f 1 = .int .u64 p1∧f 4 = .int .u64 x4∧I9 x8 hz,fun f hz=>mu10 (dInt (f 5)) hz,fun _ _ x8 a0 a1 a2 a3 z=>⟨x8,a0,a1,a2,a3,z⟩,fun _ _ hz=>hz,fun f hz x8 a0=>by simp only [a0]; rfl⟩
 refine yb I11 mu11 (hin11 _ _ _ U e0 e1 U hI) ?_
 clear hI
 intro f h12 hf
 obtain⟨x8,a11_0,a11_1,a11_2,a11_3,hJ⟩:=hout11 _ _ hf
 replace H:=H x8 h12 hJ
 refine ze ?_
 refine ze ?_
 refine zc U ?_
 refine za (zd (v:=.int .i64 x8) a11_0 ?_)
 refine za (op_geq U U ?_)
 refine zh ?_
 refine zz (decide (0≤x8)) U ?_ ?_
 ·intro hb
  replace H:=H.1 (zo hb)
  refine zC ?_
  obtain⟨J14,HR,H⟩:=H
  obtain⟨J15,hin15,hout15⟩ : ∃ J15:Fr→Heap→Prop,(∀ f hz,f 0 = .pointer (some ⟨b1,o2,none⟩)→f 1 = .int .u64 p1→f 4 = .int .u64 x4→f 5 = .int .i64 x8→J14 hz→J15 f hz)∧(∀ f hz,J15 f hz→f 0 = .pointer (some ⟨b1,o2,none⟩)∧f 1 = .int .u64 p1∧f 4 = .int .u64 x4∧f 5 = .int .i64 x8∧J14 hz):=⟨fun f hz=>f 0 = .pointer (some ⟨b1,o2,none⟩)∧f 1 = .int .u64 p1∧f 4 = .int .u64 x4∧f 5 = .int .i64 x8∧J14 hz,fun _ _ a0 a1 a2 a3 z=>⟨a0,a1,a2,a3,z⟩,fun _ _ hz=>hz⟩
  refine ym J15 ?_ ?_
  ·skip
   refine zK ?_
   refine ze ?_
   refine ze ?_
   refine zc U ?_
   refine za (zd (v:=.int .u64 x4) a11_3 ?_)
   refine za (zd (v:=.int .i64 x8) a11_0 ?_)
   refine za (zG (vs:=[.int .u64 x4,.int .i64 x8]) en_188 (zm U (zm U zy)) (CallsH.mono H ?_))
   clear H
   rintro _ h18 ⟨x20,rfl,H⟩
   refine za (zd (v:=.int .u64 p1) a11_2 ?_)
   refine za (zd (v:=.int .i64 x8) a11_0 ?_)
   refine za (zG (vs:=[.int .u64 p1,.int .i64 x8]) en_188 (zm U (zm U zy)) (CallsH.mono H ?_))
   clear H
   rintro _ h21 ⟨x23,rfl,H⟩
   refine za (op_eql U U ?_)
   refine zh ?_
   refine zz (decide (x20=x23)) U ?_ ?_
   ·intro hb
    replace H:=H.1 (zo hb)
    refine ya ?_
    exact hin15 _ _ a11_1 a11_2 a11_3 a11_0 H
   ·intro hb
    replace H:=H.2 (zn hb)
    refine zC ?_
    refine ze ?_
    obtain⟨c25,H⟩:=H
    refine zO Ghb 3 [(Y (some ⟨b1,o2,none⟩)),(Z .i64 x8),(Z .u64 p1),(Z .i64 x8),undef,(Y (some ⟨b1,o2,none⟩)),(Y (some ⟨b1,o2,none⟩)),(Y (some ⟨b1,o2+x8.toNat * 16,none⟩)),undef,undef,undef,undef,undef,(Z .i64 0)] (by kernel_rfl) U mixed_PR ?_
    refine zA [4] (by decide) U (zw [0,1,2,3,5,6,7,13] U ⟨zb U U (zd (v:=.pointer (some ⟨b1,o2,none⟩)) a11_1 ⟨U,U⟩),zb U U (zd (v:=.int .i64 x8) a11_0 ⟨U,U⟩),zb U U (zd (v:=.int .u64 p1) a11_2 ⟨U,U⟩),zb U U (zd (v:=.int .i64 x8) a11_0 ⟨U,U⟩),zb U U (zj U ⟨U,U⟩),zb U U (zf U fo_290_0 ⟨U,U⟩),zb U U (zQ U U ei_287 c25 ⟨U,U⟩),zb U U (zd (v:=.int .i64 0) U ⟨U,U⟩),V⟩) U ⟨?_,V⟩
    refine zb U U (zG (vs:=[.int .u64 p1,.int .i64 x8]) en_188 (zm U (zm U zy)) (CallsH.mono H ?_))
    clear H
    rintro _ h26 ⟨x28,rfl,H⟩
    obtain⟨c29,H⟩:=H
    obtain⟨x30,c31,H⟩:=H
    refine⟨[(Value.pointer (some ⟨b1,o2,none⟩)),(Value.int .i64 x8),(Value.int .u64 p1),(Value.int .i64 x8),(Value.int .i64 x28),(Value.pointer (some ⟨b1,o2,none⟩)),(Value.pointer (some ⟨b1,o2,none⟩)),(Value.pointer (some ⟨b1,o2+x8.toNat * 16,none⟩)),(Value.pointer (some ⟨b1,o2+x8.toNat * 16+x28.toNat * 1,none⟩)),(Value.map x30),undef,undef,undef,(Value.int .i64 0)],rfl,(zH [0,1,2,3,5,6,7,13] rfl ⟨rfl,rfl,rfl,rfl,rfl,rfl,rfl,rfl,trivial⟩),?_⟩
    refine zA [10] (by decide) U (zw [0,1,5,6,7,8,9,13] U ⟨zb U U (zd (v:=.pointer (some ⟨b1,o2,none⟩)) a11_1 ⟨U,U⟩),zb U U (zd (v:=.int .i64 x8) a11_0 ⟨U,U⟩),zb U U (zj U ⟨U,U⟩),zb U U (zf U fo_290_0 ⟨U,U⟩),zb U U (zQ U U ei_287 c25 ⟨U,U⟩),zb U U (zQ U U ei_286 c29 ⟨U,U⟩),zb U U (zk U ag_285 c31 ⟨U,U⟩),zb U U (zd (v:=.int .i64 0) U ⟨U,U⟩),V⟩) U ⟨?_,V⟩
    refine zb U U (zG (vs:=[.map x30]) en_196 (zm U zy) (CallsH.mono H ?_))
    clear H
    intro x34 h32 H
    refine⟨[(Value.pointer (some ⟨b1,o2,none⟩)),(Value.int .i64 x8),(Value.int .u64 p1),(Value.int .i64 x8),(Value.int .i64 x28),(Value.pointer (some ⟨b1,o2,none⟩)),(Value.pointer (some ⟨b1,o2,none⟩)),(Value.pointer (some ⟨b1,o2+x8.toNat * 16,none⟩)),(Value.pointer (some ⟨b1,o2+x8.toNat * 16+x28.toNat * 1,none⟩)),(Value.map x30),x34,undef,undef,(Value.int .i64 0)],rfl,(zH [0,1,2,3,4,5,6,7,8,9,13] rfl ⟨rfl,rfl,rfl,rfl,rfl,rfl,rfl,rfl,rfl,rfl,rfl,trivial⟩),?_⟩
    refine zA [11] (by decide) U (zw [13] U ⟨zb U U (zd (v:=.int .i64 0) U ⟨U,U⟩),V⟩) U ⟨?_,V⟩
    refine zb U U (zG (vs:=[x34]) en_195 (zm U zy) (CallsH.mono H ?_))
    clear H
    rintro _ h35 ⟨x37a,x37n,x37c,rfl,H⟩
    refine⟨[(Value.pointer (some ⟨b1,o2,none⟩)),(Value.int .i64 x8),(Value.int .u64 p1),(Value.int .i64 x8),(Value.int .i64 x28),(Value.pointer (some ⟨b1,o2,none⟩)),(Value.pointer (some ⟨b1,o2,none⟩)),(Value.pointer (some ⟨b1,o2+x8.toNat * 16,none⟩)),(Value.pointer (some ⟨b1,o2+x8.toNat * 16+x28.toNat * 1,none⟩)),(Value.map x30),x34,(Value.slice x37a x37n x37c),(Value.int .i64 (x37n:Int)),(Value.int .i64 0)],rfl,(zH [0,1,2,3,4,5,6,7,8,9,10,13] rfl ⟨rfl,rfl,rfl,rfl,rfl,rfl,rfl,rfl,rfl,rfl,rfl,rfl,trivial⟩),?_⟩
    refine zJ U (zw [12,13] U ⟨zb U U (zN U un_34 ⟨U,U⟩),zb U U (zd (v:=.int .i64 0) U ⟨U,U⟩),V⟩) U ?_
    refine zK ?_
    obtain⟨I39,mu40,hI,H⟩:=H
    obtain⟨I41,mu41,hin41,hout41,hmu41⟩ : ∃ (J41:Fr→Heap→Prop) (m:Fr→Heap→Nat),(∀ f hz (x38:Int),f 41 = .int .i64 x38→f 0 = .pointer (some ⟨b1,o2,none⟩)→f 1 = .int .u64 p1→f 4 = .int .u64 x4→f 5 = .int .i64 x8→f 39 = .slice x37a x37n x37c→f 40 = .int .i64 (x37n:Int)→I39 x38 hz→J41 f hz)∧(∀ f hz,J41 f hz→∃ (x38:Int),f 41 = .int .i64 x38∧f 0 = .pointer (some ⟨b1,o2,none⟩)∧f 1 = .int .u64 p1∧f 4 = .int .u64 x4∧f 5 = .int .i64 x8∧f 39 = .slice x37a x37n x37c∧f 40 = .int .i64 (x37n:Int)∧I39 x38 hz)∧(∀ f hz (x38:Int),f 41 = .int .i64 x38→m f hz=mu40 x38 hz):=⟨fun f hz=>∃ (x38:Int),f 41 = .int .i64 x38∧f 0 = .pointer (some ⟨b1,o2,none⟩)∧f 1 = .int .u64 p1∧f 4 = .int .u64 x4∧f 5 = .int .i64 x8∧f 39 = .slice x37a x37n x37c∧f 40 = .int .i64 (x37n:Int)∧I39 x38 hz,fun f hz=>mu40 (dInt (f 41)) hz,fun _ _ x38 a0 a1 a2 a3 a4 a5 a6 z=>⟨x38,a0,a1,a2,a3,a4,a5,a6,z⟩,fun _ _ hz=>hz,fun f hz x38 a0=>by simp only [a0]; rfl⟩
    refine yb I41 mu41 (hin41 _ _ _ U a11_1 a11_2 a11_3 a11_0 U U hI) ?_
    clear hI
    intro f h42 hf
    obtain⟨x38,a41_0,a41_1,a41_2,a41_3,a41_4,a41_5,a41_6,hJ⟩:=hout41 _ _ hf
    replace H:=H x38 h42 hJ
    refine ze ?_
    refine zc U ?_
    refine za (zY a41_0 a41_6 ?_)
    refine zh ?_
    refine ze ?_
    refine zz (decide (x38<(x37n:Int))) U ?_ ?_
    ·intro hb
     replace H:=H.1 (zo hb)
     refine zC ?_
     refine ze ?_
     refine zK ?_
     refine ze ?_
     refine zc U ?_
     obtain⟨b45,o46,rfl,H⟩:=H
     obtain⟨c44,H⟩:=H
     refine za (zE a41_5 a41_0 ei_34 c44 ?_)
     obtain⟨x48,c49,H⟩:=H
     refine za (zk U ag_3 c49 ?_)
     refine za (zg (v:=.int .i64 x48) U ?_)
     refine zh ?_
     refine ze ?_
     refine zc U ?_
     refine za (zd (v:=.pointer (some ⟨b1,o2,none⟩)) a41_1 ?_)
     refine za (zj U ?_)
     refine za (zf U fo_290_1 ?_)
     obtain⟨x50,c51,H⟩:=H
     refine za (zk U ag_288 c51 ?_)
     refine za (zd (v:=.int .i64 x48) U ?_)
     obtain⟨l52,n53,c54,H⟩:=H
     obtain⟨x55_0,x55_1,x55_2,c56,H⟩:=H
     refine za (yh (zZ .i64) mt_288 z_292 U U c54 c56 ?_)
     refine za (op_field1 U fp_292_0 U ?_)
     refine za (zg (v:=.int .u64 x55_0) U ?_)
     refine zh ?_
     refine ze ?_
     refine zc U ?_
     refine za (zd (v:=.pointer (some ⟨b1,o2,none⟩)) a41_1 ?_)
     refine za (zd (v:=.int .i64 x48) U ?_)
     refine za (zG (vs:=[.pointer (some ⟨b1,o2,none⟩),.int .i64 x48]) en_163 (zm U (zm U zy)) (CallsH.mono H ?_))
     clear H
     rintro _ h57 ⟨rfl,H⟩
     refine zh ?_
     refine zc U ?_
     refine za (zd (v:=.pointer (some ⟨b1,o2,none⟩)) a41_1 ?_)
     refine za (zd (v:=.int .i64 x48) U ?_)
     refine za (zd (v:=.int .u64 x55_0) U ?_)
     refine za (zG (vs:=[.pointer (some ⟨b1,o2,none⟩),.int .i64 x48,.int .u64 x55_0]) en_164 (zm U (zm U (zm U zy))) (CallsH.mono H ?_))
     clear H
     rintro _ h59 ⟨rfl,H⟩
     refine zh ?_
     refine zc U ?_
     obtain⟨c61,H⟩:=H
     refine za (yf a41_0 U (zU c61) ?_)
     refine za (zd (v:=.int .i64 (x38+1)) U ?_)
     refine zh ?_
     exact And.intro (hin41 _ _ _ rfl a41_1 a41_2 a41_3 a41_4 a41_5 a41_6 H.1) (yk (hmu41 _ _ _ rfl) (hmu41 _ _ _ a41_0) H.2)
    ·intro hb
     replace H:=H.2 (zn hb)
     refine ya ?_
     exact hin15 _ _ a41_1 a41_2 a41_3 a41_4 H
  ·clear H
   intro f h16 hf
   obtain⟨a15_0,a15_1,a15_2,a15_3,hJ⟩:=hout15 _ _ hf
   have H:=HR h16 hJ
   refine zc U ?_
   refine za (zd (v:=.int .i64 x8) a15_3 ?_)
   obtain⟨c17,H⟩:=H
   refine za (op_sub U U (zU c17) ?_)
   refine za (zg (v:=.int .i64 (x8 - 1)) U ?_)
   refine zh ?_
   exact And.intro (hin11 _ _ _ rfl a15_0 a15_1 a15_2 H.1) (yk (hmu11 _ _ _ rfl) (hmu11 _ _ _ a11_0) H.2)
 ·intro hb
  replace H:=H.2 (zn hb)
  refine ya ?_
  exact end_leaf zu H
def Gf0 (p0:Option Addr) (p1:Int) (K:Option Addr→Nat→Nat→Int→Heap→Prop) (h:Heap):Prop:=
 CallsH PR Gnq #[.int .u64 p1] h (fun v h1=>∃ (x3:Bool),v=(Value.bool x3)∧(x3=false→K none 0 0 2 h1)∧(x3=true→∃ (b4:Nat) (o5:Nat),p0=some ⟨b4,o5,none⟩∧∃ (x7:Int),cellH h1 b4 (o5+257)=some (.int .u64 x7)∧(p1<x7→K none 0 0 1 h1)∧((¬ (p1<x7))→∃ (I11:Option Addr→Nat→Nat→Heap→Prop) (mu12:Option Addr→Nat→Nat→Heap→Nat),I11 none 0 0 h1∧∀ (x10a:Option Addr) (x10n:Nat) (x10c:Nat) (h14:Heap),I11 x10a x10n x10c h14→CallsH PR Go0 #[.pointer (some ⟨b4,o5,none⟩)] h14 (fun v h15=>∃ (x17:Int) (x18:Bool),v=(Value.tuple #[.int .u64 x17,.bool x18])∧(((!x18) || (decide (p1<x17)))=true→CallsH PR Go1 #[.pointer (some ⟨b4,o5,none⟩),.int .u64 p1] h15 (fun v h20=>v=(Value.tuple #[])∧K x10a x10n x10c 0 h20))∧(((!x18) || (decide (p1<x17)))=false→CallsH PR Go1 #[.pointer (some ⟨b4,o5,none⟩),.int .u64 x17] h15 (fun v h22=>v=(Value.tuple #[])∧∃ (x24:Option Nat),cellH h22 b4 (o5+256)=some (.map x24)∧∃ (l26:List (ME Int)) (n27:Nat),mapAt (Value.int .i64) h22 x24 l26 n27∧∀ (h28:Heap),((∀ x,x<h22.size→h28[x]? = h22[x]?)∧h28.size=h22.size+1∧iterAt (Value.int .i64) h28 h22.size l26 n27 #[])→∃ (I32:Option Addr→Nat→Nat→Heap→Prop) (mu33:Option Addr→Nat→Nat→Heap→Nat),I32 none 0 0 h28∧∀ (x31a:Option Addr) (x31n:Nat) (x31c:Nat) (h35:Heap),I32 x31a x31n x31c h35→∃ (l36:List (ME Int)) (n37:Nat) (sn38:Array Nat),iterAt (Value.int .i64) h35 h22.size l36 n37 sn38∧(∀ e∈l36,e.born<n37)∧((∀ e∈l36,e.born∈sn38)→CallsH PR Gn7 #[.slice x31a x31n x31c,(Value.func (.func Ghm) #[] #[])] h35 (fun v h41=>v=(Value.tuple #[])∧∃ (I44:Int→Heap→Prop) (mu45:Int→Heap→Nat),I44 0 h41∧∀ (x43:Int) (h47:Heap),I44 x43 h47→(x43<(x31n:Int)→∃ (b50:Nat) (o51:Nat),x31a=some ⟨b50,o51,none⟩∧(0≤x43∧x43<(x31n:Int))∧∃ (x53:Int),cellH h47 b50 (o51+x43.toNat * 1)=some (.int .i64 x53)∧CallsH PR Gnz #[.pointer (some ⟨b4,o5,none⟩),.int .i64 x53] h47 (fun v h55=>v=(Value.tuple #[])∧(-9223372036854775808≤x43+1∧x43+1<9223372036854775808)∧(I44 (x43+1) h55∧mu45 (x43+1) h55<mu45 x43 h47)))∧((¬ (x43<(x31n:Int)))→∃ (m58:Nat) (ns59:List Value),(lenH (Value.slice x31a x31n x31c)=some m58∧firstH h47 1 m58 (Value.slice x31a x31n x31c)=some ns59)∧appH 3 1 8 (Value.int .i64 0) x10a x10n x10c m58 ns59 h47 (fun a62 n63 q64 h65=>(I11 a62 n63 q64 h65∧mu12 a62 n63 q64 h65<mu12 x10a x10n x10c h14)))))∧(∀ e39∈l36,e39.born ∉ sn38→∀ h40:Heap,((∀ x,x≠h22.size→h40[x]? = h35[x]?)∧h40.size=h35.size∧iterAt (Value.int .i64) h40 h22.size l36 n37 (sn38.push e39.born))→(iterAt (Value.int .i64) h40 h22.size l36 n37 (sn38.push e39.born)∧(l36.map (·.born)).Nodup)∧∃ (x66_0:Int) (x66_1:Int) (x66_2:Int),e39.val=(Value.agg #[.int .u64 x66_0,.int .i64 x66_1,.int .i64 x66_2])∧∀ (h69:Heap),h69=h40.push (.cells #[.int .u64 0,.int .i64 0,.int .i64 0] 292 (0,0))→∃ (h72:Heap),stCells h40.size h69 0 [.int .u64 x66_0,.int .i64 x66_1,.int .i64 x66_2]=some h72∧∃ (x73:Int),cellH h72 h40.size 0=some (.int .u64 x73)∧(x73=x17→∀ (h76:Heap),h76=h72.push (.cells #[.int .i64 e39.key] 3 (0,0))→appH 3 1 8 (Value.int .i64 0) x31a x31n x31c 1 ([.int .i64 e39.key]) h76 (fun a82 n83 q84 h85=>(I32 a82 n83 q84 h85∧mu33 a82 n83 q84 h85<mu33 x31a x31n x31c h35)))∧((¬ (x73=x17))→(I32 x31a x31n x31c h72∧mu33 x31a x31n x31c h72<mu33 x31a x31n x31c h35)))))))))
theorem Gf1 (p0:Option Addr) (p1:Int) (R:Value→Heap→Prop) (h:Heap) (H:Gf0 p0 p1 (fun r0a r0n r0c r1 h'=>R (Value.tuple #[.slice r0a r0n r0c,.int .i64 r1]) h') h):CallsH PR Gnv #[.pointer p0,.int .u64 p1] h R:=by
 refine zD (args:=[.pointer p0,.int .u64 p1]) Tryz.func148 U U ?_
 intro f hf
 have e0:=hf 0 _ rfl
 have e1:=hf 1 _ rfl
 clear hf
 unfold Gf0 at H
 refine ze ?_
 refine zc U ?_
 refine za (zg (v:=.slice none 0 0) U ?_)
 refine za (zg (v:=.int .i64 0) U ?_)
 refine zh ?_
 refine ze ?_
 refine zK ?_
 refine ze ?_
 refine zc U ?_
 refine za (zd (v:=.int .u64 p1) e1 ?_)
 refine za (zG (vs:=[.int .u64 p1]) en_117 (zm U zy) (CallsH.mono H ?_))
 clear H
 rintro _ h1 ⟨x3,rfl,H⟩
 refine za (yi U ?_)
 refine za (zg (v:=.bool (!x3)) U ?_)
 refine zh ?_
 refine zz (!x3) U ?_ ?_
 ·intro hb
  replace H:=H.1 (zt hb)
  refine ze ?_
  refine zc U ?_
  refine za (zg (v:=.slice none 0 0) U ?_)
  refine za (zg (v:=.int .i64 2) U ?_)
  refine zh ?_
  refine zx ?_
  exact zv (zq U (zq U zu)) H
 ·intro hb
  replace H:=H.2 (zL hb)
  refine ze ?_
  refine zc U ?_
  refine za (zd (v:=.int .u64 p1) e1 ?_)
  refine za (zd (v:=.pointer p0) e0 ?_)
  obtain⟨b4,o5,rfl,H⟩:=H
  refine za (zj U ?_)
  refine za (zf U fo_290_2 ?_)
  obtain⟨x7,c8,H⟩:=H
  refine za (zk U ag_37 c8 ?_)
  refine za (zY U U ?_)
  refine za (zg (v:=.bool (decide (p1<x7))) U ?_)
  refine zh ?_
  refine zz (decide (p1<x7)) U ?_ ?_
  ·intro hb
   replace H:=H.1 (zo hb)
   refine ze ?_
   refine zc U ?_
   refine za (zg (v:=.slice none 0 0) U ?_)
   refine za (zg (v:=.int .i64 1) U ?_)
   refine zh ?_
   refine zx ?_
   exact zv (zq U (zq U zu)) H
  ·intro hb
   replace H:=H.2 (zn hb)
   refine zC ?_
   refine ze ?_
   refine zc U ?_
   refine za (zg (v:=.slice none 0 0) U ?_)
   refine zh ?_
   refine zK ?_
   obtain⟨I11,mu12,hI,H⟩:=H
   obtain⟨I13,mu13,hin13,hout13,hmu13⟩ : ∃ (J13:Fr→Heap→Prop) (m:Fr→Heap→Nat),(∀ f hz (x10a:Option Addr) (x10n:Nat) (x10c:Nat),f 6 = .slice x10a x10n x10c→f 0 = .pointer (some ⟨b4,o5,none⟩)→f 1 = .int .u64 p1→I11 x10a x10n x10c hz→J13 f hz)∧(∀ f hz,J13 f hz→∃ (x10a:Option Addr) (x10n:Nat) (x10c:Nat),f 6 = .slice x10a x10n x10c∧f 0 = .pointer (some ⟨b4,o5,none⟩)∧f 1 = .int .u64 p1∧I11 x10a x10n x10c hz)∧(∀ f hz (x10a:Option Addr) (x10n:Nat) (x10c:Nat),f 6 = .slice x10a x10n x10c→m f hz=mu12 x10a x10n x10c hz):=⟨fun f hz=>∃ (x10a:Option Addr) (x10n:Nat) (x10c:Nat),f 6 = .slice x10a x10n x10c∧f 0 = .pointer (some ⟨b4,o5,none⟩)∧f 1 = .int .u64 p1∧I11 x10a x10n x10c hz,fun f hz=>mu12 (dSlA (f 6)) (dSlN (f 6)) (dSlC (f 6)) hz,fun _ _ x10a x10n x10c a0 a1 a2 z=>⟨x10a,x10n,x10c,a0,a1,a2,z⟩,fun _ _ hz=>hz,fun f hz x10a x10n x10c a0=>by simp only [a0]; rfl⟩
   refine yb I13 mu13 (hin13 _ _ _ _ _ U e0 e1 hI) ?_
   clear hI
   intro f h14 hf
   obtain⟨x10a,x10n,x10c,a13_0,a13_1,a13_2,hJ⟩:=hout13 _ _ hf
   replace H:=H x10a x10n x10c h14 hJ
   refine zK ?_
   refine ze ?_
   refine zc U ?_
   refine za (zd (v:=.pointer (some ⟨b4,o5,none⟩)) a13_1 ?_)
   refine za (zG (vs:=[.pointer (some ⟨b4,o5,none⟩)]) en_182 (zm U zy) (CallsH.mono H ?_))
   clear H
   rintro _ h15 ⟨x17,x18,rfl,H⟩
   refine za (zd (v:=.tuple #[.int .u64 x17,.bool x18]) U ?_)
   refine za (zB U U ?_)
   refine za (zB U U ?_)
   refine za (zg (v:=.int .u64 x17) U ?_)
   refine za (zg (v:=.bool x18) U ?_)
   refine zh ?_
   refine ze ?_
   refine ze ?_
   refine zc U ?_
   refine za (zd (v:=.bool x18) U ?_)
   refine za (yi U ?_)
   refine za (zd (v:=.bool (!x18)) U ?_)
   refine zF (b:=!(!x18)) (zi U U) (Z .u64 x17) (fun hb N hN=>zd (v:=.int .u64 x17) U hN) ?_
   refine zF (b:=!(!x18)) (zi U U) (Z .u64 p1) (fun hb N hN=>zd (v:=.int .u64 p1) a13_2 hN) ?_
   refine zF (b:=!(!x18)) (zi U U) (W (decide (p1<x17))) (fun hb N hN=>yj (gv hb) (gv hb) hN) ?_
   refine za (zR U U (fun hq=>(gv (zP hq))) ?_)
   refine zh ?_
   refine zz ((!x18) || (decide (p1<x17))) U ?_ ?_
   ·intro hb
    replace H:=H.1 hb
    refine ze ?_
    refine zc U ?_
    refine za (zd (v:=.pointer (some ⟨b4,o5,none⟩)) a13_1 ?_)
    refine za (zd (v:=.int .u64 p1) a13_2 ?_)
    refine za (zG (vs:=[.pointer (some ⟨b4,o5,none⟩),.int .u64 p1]) en_183 (zm U (zm U zy)) (CallsH.mono H ?_))
    clear H
    rintro _ h20 ⟨rfl,H⟩
    refine zh ?_
    refine ze ?_
    refine zc U ?_
    refine za (zd (v:=.slice x10a x10n x10c) a13_0 ?_)
    refine za (zg (v:=.slice x10a x10n x10c) U ?_)
    refine za (zg (v:=.int .i64 0) U ?_)
    refine zh ?_
    refine zx ?_
    exact zv (zq U (zq U zu)) H
   ·intro hb
    replace H:=H.2 hb
    refine zC ?_
    refine ze ?_
    refine zc U ?_
    refine za (zd (v:=.pointer (some ⟨b4,o5,none⟩)) a13_1 ?_)
    refine za (zd (v:=.int .u64 x17) U ?_)
    refine za (zG (vs:=[.pointer (some ⟨b4,o5,none⟩),.int .u64 x17]) en_183 (zm U (zm U zy)) (CallsH.mono H ?_))
    clear H
    rintro _ h22 ⟨rfl,H⟩
    refine zh ?_
    refine ze ?_
    refine zc U ?_
    refine za (zg (v:=.slice none 0 0) U ?_)
    refine zh ?_
    refine ze ?_
    refine ze ?_
    refine zc U ?_
    refine za (zd (v:=.pointer (some ⟨b4,o5,none⟩)) a13_1 ?_)
    refine za (zj U ?_)
    refine za (zf U fo_290_1 ?_)
    obtain⟨x24,c25,H⟩:=H
    refine za (zk U ag_288 c25 ?_)
    obtain⟨l26,n27,c29,H⟩:=H
    refine za (op_range_any un_288 U c29 ?_)
    intro h28 c30
    replace H:=H h28 c30
    refine zh ?_
    refine zK ?_
    obtain⟨I32,mu33,hI,H⟩:=H
    obtain⟨I34,mu34,hin34,hout34,hmu34⟩ : ∃ (J34:Fr→Heap→Prop) (m:Fr→Heap→Nat),(∀ f hz (x31a:Option Addr) (x31n:Nat) (x31c:Nat),f 9 = .slice x31a x31n x31c→f 0 = .pointer (some ⟨b4,o5,none⟩)→f 1 = .int .u64 p1→f 6 = .slice x10a x10n x10c→f 7 = .int .u64 x17→f 48 = .pointer (some ⟨h22.size,0,none⟩)→I32 x31a x31n x31c hz→J34 f hz)∧(∀ f hz,J34 f hz→∃ (x31a:Option Addr) (x31n:Nat) (x31c:Nat),f 9 = .slice x31a x31n x31c∧f 0 = .pointer (some ⟨b4,o5,none⟩)∧f 1 = .int .u64 p1∧f 6 = .slice x10a x10n x10c∧f 7 = .int .u64 x17∧f 48 = .pointer (some ⟨h22.size,0,none⟩)∧I32 x31a x31n x31c hz)∧(∀ f hz (x31a:Option Addr) (x31n:Nat) (x31c:Nat),f 9 = .slice x31a x31n x31c→m f hz=mu33 x31a x31n x31c hz):=⟨fun f hz=>∃ (x31a:Option Addr) (x31n:Nat) (x31c:Nat),f 9 = .slice x31a x31n x31c∧f 0 = .pointer (some ⟨b4,o5,none⟩)∧f 1 = .int .u64 p1∧f 6 = .slice x10a x10n x10c∧f 7 = .int .u64 x17∧f 48 = .pointer (some ⟨h22.size,0,none⟩)∧I32 x31a x31n x31c hz,fun f hz=>mu33 (dSlA (f 9)) (dSlN (f 9)) (dSlC (f 9)) hz,fun _ _ x31a x31n x31c a0 a1 a2 a3 a4 a5 z=>⟨x31a,x31n,x31c,a0,a1,a2,a3,a4,a5,z⟩,fun _ _ hz=>hz,fun f hz x31a x31n x31c a0=>by simp only [a0]; rfl⟩
    refine yb I34 mu34 (hin34 _ _ _ _ _ U a13_1 a13_2 a13_0 U U hI) ?_
    clear hI
    intro f h35 hf
    obtain⟨x31a,x31n,x31c,a34_0,a34_1,a34_2,a34_3,a34_4,a34_5,hJ⟩:=hout34 _ _ hf
    replace H:=H x31a x31n x31c h35 hJ
    refine ze ?_
    refine zc U ?_
    obtain⟨l36,n37,sn38,c86,c87,H0,H1⟩:=H
    refine za (op_next_any a34_5 c86 c87 ?_ ?_)
    ·intro hd
     have H:=H0 hd
     refine za (zB U U ?_)
     refine zh ?_
     refine ze ?_
     refine zz false U (fun hq=>by cases hq) (fun _=>?_)
     refine ya ?_
     refine ze ?_
     refine zc U ?_
     refine za (zd (v:=.slice x31a x31n x31c) a34_0 ?_)
     refine za (zG (vs:=[.slice x31a x31n x31c,(Value.func (.func Ghm) #[] #[])]) en_184 (zm U (zm U zy)) (CallsH.mono H ?_))
     clear H
     rintro _ h41 ⟨rfl,H⟩
     refine zh ?_
     refine ze ?_
     refine ze ?_
     refine zc U ?_
     refine za (zd (v:=.slice x31a x31n x31c) a34_0 ?_)
     refine za (zN U un_34 ?_)
     refine za (zd (v:=.int .i64 0) U ?_)
     refine zh ?_
     refine zK ?_
     obtain⟨I44,mu45,hI,H⟩:=H
     obtain⟨I46,mu46,hin46,hout46,hmu46⟩ : ∃ (J46:Fr→Heap→Prop) (m:Fr→Heap→Nat),(∀ f hz (x43:Int),f 66 = .int .i64 x43→f 0 = .pointer (some ⟨b4,o5,none⟩)→f 1 = .int .u64 p1→f 6 = .slice x10a x10n x10c→f 9 = .slice x31a x31n x31c→f 64 = .slice x31a x31n x31c→f 65 = .int .i64 (x31n:Int)→I44 x43 hz→J46 f hz)∧(∀ f hz,J46 f hz→∃ (x43:Int),f 66 = .int .i64 x43∧f 0 = .pointer (some ⟨b4,o5,none⟩)∧f 1 = .int .u64 p1∧f 6 = .slice x10a x10n x10c∧f 9 = .slice x31a x31n x31c∧f 64 = .slice x31a x31n x31c∧f 65 = .int .i64 (x31n:Int)∧I44 x43 hz)∧(∀ f hz (x43:Int),f 66 = .int .i64 x43→m f hz=mu45 x43 hz):=⟨fun f hz=>∃ (x43:Int),f 66 = .int .i64 x43∧f 0 = .pointer (some ⟨b4,o5,none⟩)∧f 1 = .int .u64 p1∧f 6 = .slice x10a x10n x10c∧f 9 = .slice x31a x31n x31c∧f 64 = .slice x31a x31n x31c∧f 65 = .int .i64 (x31n:Int)∧I44 x43 hz,fun f hz=>mu45 (dInt (f 66)) hz,fun _ _ x43 a0 a1 a2 a3 a4 a5 a6 z=>⟨x43,a0,a1,a2,a3,a4,a5,a6,z⟩,fun _ _ hz=>hz,fun f hz x43 a0=>by simp only [a0]; rfl⟩
     refine yb I46 mu46 (hin46 _ _ _ U a34_1 a34_2 a34_3 a34_0 U U hI) ?_
     clear hI
     intro f h47 hf
     obtain⟨x43,a46_0,a46_1,a46_2,a46_3,a46_4,a46_5,a46_6,hJ⟩:=hout46 _ _ hf
     replace H:=H x43 h47 hJ
     refine ze ?_
     refine zc U ?_
     refine za (zY a46_0 a46_6 ?_)
     refine zh ?_
     refine ze ?_
     refine zz (decide (x43<(x31n:Int))) U ?_ ?_
     ·intro hb
      replace H:=H.1 (zo hb)
      refine zC ?_
      refine ze ?_
      refine zK ?_
      refine ze ?_
      refine zc U ?_
      obtain⟨b50,o51,rfl,H⟩:=H
      obtain⟨c49,H⟩:=H
      refine za (zE a46_5 a46_0 ei_34 c49 ?_)
      obtain⟨x53,c54,H⟩:=H
      refine za (zk U ag_3 c54 ?_)
      refine za (zg (v:=.int .i64 x53) U ?_)
      refine zh ?_
      refine zc U ?_
      refine za (zd (v:=.pointer (some ⟨b4,o5,none⟩)) a46_1 ?_)
      refine za (zd (v:=.int .i64 x53) U ?_)
      refine za (zG (vs:=[.pointer (some ⟨b4,o5,none⟩),.int .i64 x53]) en_163 (zm U (zm U zy)) (CallsH.mono H ?_))
      clear H
      rintro _ h55 ⟨rfl,H⟩
      refine zh ?_
      refine zc U ?_
      obtain⟨c57,H⟩:=H
      refine za (yf a46_0 U (zU c57) ?_)
      refine za (zd (v:=.int .i64 (x43+1)) U ?_)
      refine zh ?_
      exact And.intro (hin46 _ _ _ rfl a46_1 a46_2 a46_3 a46_4 a46_5 a46_6 H.1) (yk (hmu46 _ _ _ rfl) (hmu46 _ _ _ a46_0) H.2)
     ·intro hb
      replace H:=H.2 (zn hb)
      refine ya ?_
      refine zc U ?_
      refine za (zd (v:=.slice x10a x10n x10c) a46_3 ?_)
      refine za (zd (v:=.slice x31a x31n x31c) a46_4 ?_)
      obtain⟨m58,ns59,c60,H⟩:=H
      refine za (op_append' (src:=(T x31a x31n x31c)) (news:=ns59) ri_34 (.inl ⟨_,un_34⟩) U U c60.1 c60.2 (appH.mono H ?_))
      clear H
      intro a62 n63 q64 h65 H
      refine za (zg (v:=.slice a62 n63 q64) U ?_)
      refine zh ?_
      exact And.intro (hin13 _ _ _ _ _ rfl a46_1 a46_2 H.1) (yk (hmu13 _ _ _ _ _ rfl) (hmu13 _ _ _ _ _ a13_0) H.2)
    ·intro e39 hee39 hne h40 hnh
     have H:=H1 e39 hee39 hne h40 hnh
     refine za (zB U U ?_)
     refine zh ?_
     refine ze ?_
     refine zz true U (fun _=>?_) (fun hq=>by cases hq)
     refine zC ?_
     refine zK ?_
     refine ze ?_
     refine zc U ?_
     obtain⟨c67,H⟩:=H
     obtain⟨x66_0,x66_1,x66_2,c68,H⟩:=H
     refine za (op_entry_any a34_5 c67.1 hee39 c67.2 c68 ?_)
     refine za (zB U U ?_)
     refine za (zB U U ?_)
     obtain⟨h69,c70⟩ : ∃ h69,h69=h40.push (.cells #[.int .u64 0,.int .i64 0,.int .i64 0] 292 (0,0)):=⟨_,rfl⟩
     replace H:=H h69 c70
     refine za (zW z_292 c70 ?_)
     refine za (zg (v:=.int .i64 e39.key) U ?_)
     obtain⟨h72,c71,H⟩:=H
     refine za (zI (v:=.agg #[.int .u64 x66_0,.int .i64 x66_1,.int .i64 x66_2]) U U sz_292 U c71 ?_)
     refine zh ?_
     refine ze ?_
     refine zc U ?_
     refine za (zf U fo_292_0 ?_)
     obtain⟨x73,c74,H⟩:=H
     refine za (zk U ag_37 c74 ?_)
     refine za (zd (v:=.int .u64 x17) a34_4 ?_)
     refine za (op_eql U U ?_)
     refine zh ?_
     refine zz (decide (x73=x17)) U ?_ ?_
     ·intro hb
      replace H:=H.1 (zo hb)
      refine zc U ?_
      refine za (zd (v:=.slice x31a x31n x31c) a34_0 ?_)
      refine za (zd (v:=.int .i64 e39.key) U ?_)
      obtain⟨h76,c77⟩ : ∃ h76,h76=h72.push (.cells #[.int .i64 e39.key] 3 (0,0)):=⟨_,rfl⟩
      replace H:=H h76 c77
      refine za (yg (cs:=#[.int .i64 e39.key]) (vs:=[(0,.int .i64 e39.key)]) (zl:=[.int .i64 0]) ri_34 (by decide) U U (zM U zT) U c77 ?_)
      refine za (op_append' (src:=(T (some ⟨h72.size,0,none⟩) 1 1)) (news:=[.int .i64 e39.key]) ri_34 (.inl ⟨_,un_34⟩) U U U (first_fresh c77 U U U) (appH.mono H ?_))
      clear H
      intro a82 n83 q84 h85 H
      refine za (zg (v:=.slice a82 n83 q84) U ?_)
      refine zh ?_
      exact And.intro (hin34 _ _ _ _ _ rfl a34_1 a34_2 a34_3 a34_4 a34_5 H.1) (yk (hmu34 _ _ _ _ _ rfl) (hmu34 _ _ _ _ _ a34_0) H.2)
     ·intro hb
      replace H:=H.2 (zn hb)
      refine zC ?_
      exact And.intro (hin34 _ _ _ _ _ a34_0 a34_1 a34_2 a34_3 a34_4 a34_5 H.1) (yk (hmu34 _ _ _ _ _ a34_0) (hmu34 _ _ _ _ _ a34_0) H.2)
def Geu (p0:Int) (K:Bool→Heap→Prop) (h:Heap):Prop:=
 K (decide (p0<4611686018427387904)) h
theorem Gev (p0:Int) (R:Value→Heap→Prop) (h:Heap) (H:Geu p0 (fun r0 h'=>R (Value.bool r0) h') h):CallsH PR Gnq #[.int .u64 p0] h R:=by
 refine zD (args:=[.int .u64 p0]) Tryz.func117 U U ?_
 intro f hf
 have e0:=hf 0 _ rfl
 clear hf
 unfold Geu at H
 refine ze ?_
 refine zc U ?_
 refine za (zg (v:=.bool false) U ?_)
 refine zh ?_
 refine ze ?_
 refine zc U ?_
 refine za (zd (v:=.int .u64 p0) e0 ?_)
 refine za (zY U U ?_)
 refine za (zg (v:=.bool (decide (p0<4611686018427387904))) U ?_)
 refine zh ?_
 refine zx ?_
 exact zv (zq U zu) H
def Ga2 (p0:Int) (p1:Int) (K:Int→Heap→Prop) (h:Heap):Prop:=
 CallsH PR Ghp #[.int .i64 p0] h (fun v h1=>∃ (x3:Bool),v=(Value.bool x3)∧CallsH PR Ghp #[.int .i64 p1] h1 (fun v h4=>∃ (x6:Bool),v=(Value.bool x6)∧(x3=true→(x6=true→K 0 h4)∧(x6=false→K (-1) h4))∧(x3=false→(x6=true→K 1 h4)∧(x6=false→(p0<p1→K (-1) h4)∧((¬ (p0<p1))→(p1<p0→K 1 h4)∧((¬ (p1<p0))→K 0 h4))))))
theorem Ga3 (p0:Int) (p1:Int) (R:Value→Heap→Prop) (h:Heap) (H:Ga2 p0 p1 (fun r0 h'=>R (Value.int .i64 r0) h') h):CallsH PR Ghm #[.int .i64 p0,.int .i64 p1] h R:=by
 refine zD (args:=[.int .i64 p0,.int .i64 p1]) Tryz.func169 U U ?_
 intro f hf
 have e0:=hf 0 _ rfl
 have e1:=hf 1 _ rfl
 clear hf
 unfold Ga2 at H
 refine ze ?_
 refine zc U ?_
 refine za (zg (v:=.int .i64 0) U ?_)
 refine zh ?_
 refine ze ?_
 refine zc U ?_
 refine za (zd (v:=.int .i64 p0) e0 ?_)
 refine za (zG (vs:=[.int .i64 p0]) en_190 (zm U zy) (CallsH.mono H ?_))
 clear H
 rintro _ h1 ⟨x3,rfl,H⟩
 refine za (zg (v:=.bool x3) U ?_)
 refine zh ?_
 refine ze ?_
 refine zc U ?_
 refine za (zd (v:=.int .i64 p1) e1 ?_)
 refine za (zG (vs:=[.int .i64 p1]) en_190 (zm U zy) (CallsH.mono H ?_))
 clear H
 rintro _ h4 ⟨x6,rfl,H⟩
 refine za (zg (v:=.bool x6) U ?_)
 refine zh ?_
 refine ze ?_
 refine ze ?_
 refine zc U ?_
 refine za (zd (v:=.bool x3) U ?_)
 refine zh ?_
 refine zz (x3) U ?_ ?_
 ·intro hb
  replace H:=H.1 hb
  refine ze ?_
  refine ze ?_
  refine zc U ?_
  refine za (zd (v:=.bool x6) U ?_)
  refine zh ?_
  refine zz (x6) U ?_ ?_
  ·intro hb
   replace H:=H.1 hb
   refine ze ?_
   refine zc U ?_
   refine za (zg (v:=.int .i64 0) U ?_)
   refine zh ?_
   refine zx ?_
   exact zv (zq U zu) H
  ·intro hb
   replace H:=H.2 hb
   refine zC ?_
   refine ze ?_
   refine zc U ?_
   refine za (zg (v:=.int .i64 (-1)) U ?_)
   refine zh ?_
   refine zx ?_
   exact zv (zq U zu) H
 ·intro hb
  replace H:=H.2 hb
  refine zC ?_
  refine ze ?_
  refine ze ?_
  refine zc U ?_
  refine za (zd (v:=.bool x6) U ?_)
  refine zh ?_
  refine zz (x6) U ?_ ?_
  ·intro hb
   replace H:=H.1 hb
   refine ze ?_
   refine zc U ?_
   refine za (zg (v:=.int .i64 1) U ?_)
   refine zh ?_
   refine zx ?_
   exact zv (zq U zu) H
  ·intro hb
   replace H:=H.2 hb
   refine zC ?_
   refine ze ?_
   refine ze ?_
   refine zc U ?_
   refine za (zd (v:=.int .i64 p0) e0 ?_)
   refine za (zd (v:=.int .i64 p1) e1 ?_)
   refine za (zY U U ?_)
   refine zh ?_
   refine zz (decide (p0<p1)) U ?_ ?_
   ·intro hb
    replace H:=H.1 (zo hb)
    refine ze ?_
    refine zc U ?_
    refine za (zg (v:=.int .i64 (-1)) U ?_)
    refine zh ?_
    refine zx ?_
    exact zv (zq U zu) H
   ·intro hb
    replace H:=H.2 (zn hb)
    refine zC ?_
    refine ze ?_
    refine ze ?_
    refine zc U ?_
    refine za (zd (v:=.int .i64 p0) e0 ?_)
    refine za (zd (v:=.int .i64 p1) e1 ?_)
    refine za (yj U U ?_)
    refine zh ?_
    refine zz (decide (p1<p0)) U ?_ ?_
    ·intro hb
     replace H:=H.1 (zo hb)
     refine ze ?_
     refine zc U ?_
     refine za (zg (v:=.int .i64 1) U ?_)
     refine zh ?_
     refine zx ?_
     exact zv (zq U zu) H
    ·intro hb
     replace H:=H.2 (zn hb)
     refine zC ?_
     refine ze ?_
     refine zc U ?_
     refine za (zg (v:=.int .i64 0) U ?_)
     refine zh ?_
     refine zx ?_
     exact zv (zq U zu) H
def Ga8 (p0:Int) (K:Bool→Heap→Prop) (h:Heap):Prop:=
 K (!decide (p0=p0)) h
theorem Ga9 (p0:Int) (R:Value→Heap→Prop) (h:Heap) (H:Ga8 p0 (fun r0 h'=>R (Value.bool r0) h') h):CallsH PR Ghp #[.int .i64 p0] h R:=by
 refine zD (args:=[.int .i64 p0]) Tryz.func190 U U ?_
 intro f hf
 have e0:=hf 0 _ rfl
 clear hf
 unfold Ga8 at H
 refine ze ?_
 refine zc U ?_
 refine za (zg (v:=.bool false) U ?_)
 refine zh ?_
 refine ze ?_
 refine zc U ?_
 refine za (zd (v:=.int .i64 p0) e0 ?_)
 refine za (zd (v:=.int .i64 p0) e0 ?_)
 refine za (op_neq U U ?_)
 refine za (zg (v:=.bool (!decide (p0=p0))) U ?_)
 refine zh ?_
 refine zx ?_
 exact zv (zq U zu) H
def Gc2 (p0:Option Nat) (K:Value→Heap→Prop) (h:Heap):Prop:=
 ∀ (h1:Heap),h1=h.push (.cells #[.map p0] 285 (0,0))→K (Value.func (.func Gl1) #[] #[.pointer (some ⟨h.size,0,none⟩)]) h1
theorem Gc3 (p0:Option Nat) (R:Value→Heap→Prop) (h:Heap) (H:Gc2 p0 (fun r0 h'=>R r0 h') h):CallsH PR Gl0 #[.map p0] h R:=by
 refine zD (args:=[.map p0]) Tryz.func196 U U ?_
 intro f hf
 have e0:=hf 0 _ rfl
 clear hf
 unfold Gc2 at H
 refine ze ?_
 refine zc U ?_
 obtain⟨h1,c2⟩ : ∃ h1,h1=h.push (.cells #[.map p0] 285 (0,0)):=⟨_,rfl⟩
 replace H:=H h1 c2
 refine za (yd (v:=.map p0) e0 c2 ?_)
 refine za (zg (v:=Value.nilFunc) U ?_)
 refine zh ?_
 refine ze ?_
 refine zc U ?_
 refine za (yl (cs:=[.pointer (some ⟨h.size,0,none⟩)]) (zm U zy) ?_)
 refine za (zg (v:=(Value.func (.func Gl1) #[] #[.pointer (some ⟨h.size,0,none⟩)])) U ?_)
 refine zh ?_
 refine zx ?_
 exact zv (zq U zu) H
end Go.Proofs.Vf
