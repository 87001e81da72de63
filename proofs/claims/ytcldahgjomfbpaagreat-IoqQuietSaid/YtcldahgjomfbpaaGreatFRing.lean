/- Printed by a program of this claim: for each Go function named below a formula over the heap, and the proof that it gives the call of that function. No conditions. -/
import Derived.Test.YtcldahgjomfbpaaGreatBase
namespace Go.Proofs.Vf
open Go Go.Proofs Go.VC
set_option maxRecDepth 100000
set_option maxHeartbeats 4000000
set_option linter.unusedVariables false
def Ge0 (p0:Int) (K:Option Addr→Int→Heap→Prop) (h:Heap):Prop:=
 (((decide (p0<1)) || (decide (64<p0)))=true→K none 1 h)∧(((decide (p0<1)) || (decide (64<p0)))=false→∃ (n5:Nat),p0=(n5:Int)∧(n5≤n5∧16 * n5≤281474976710656∧n5≤9223372036854775807)∧∀ (h3:Heap),h3=h.push (.cells (madeCells (Value.nilIface).cells (n5 * 1)) 20 (0,0))→∀ (h8:Heap),h8=h3.push (.cells #[.slice (some ⟨h.size,0,none⟩) n5 n5,.int .i64 0,.int .i64 0,.int .i64 0] 257 (0,0))→K (some ⟨h3.size,0,none⟩) 0 h8)
theorem Ge1 (p0:Int) (R:Value→Heap→Prop) (h:Heap) (H:Ge0 p0 (fun r0 r1 h'=>R (Value.tuple #[.pointer r0,.int .i64 r1]) h') h):CallsH PR Gm5 #[.int .i64 p0] h R:=by
 refine zD (args:=[.int .i64 p0]) Tryz.func87 U U ?_
 intro f hf
 have e0:=hf 0 _ rfl
 clear hf
 unfold Ge0 at H
 refine ze ?_
 refine zc U ?_
 refine za (zg (v:=.pointer none) U ?_)
 refine za (zg (v:=.int .i64 0) U ?_)
 refine zh ?_
 refine ze ?_
 refine ze ?_
 refine zc U ?_
 refine za (zd (v:=.int .i64 p0) e0 ?_)
 refine za (zY U U ?_)
 refine za (zd (v:=.bool (decide (p0<1))) U ?_)
 refine zF (b:=!(decide (p0<1))) (zi U U) (Z .i64 p0) (fun hb N hN=>zd (v:=.int .i64 p0) e0 hN) ?_
 refine zF (b:=!(decide (p0<1))) (zi U U) (W (decide (64<p0))) (fun hb N hN=>yj (gv hb) U hN) ?_
 refine za (zR U U (fun hq=>(gv (zP hq))) ?_)
 refine zh ?_
 refine zz ((decide (p0<1)) || (decide (64<p0))) U ?_ ?_
 ·intro hb
  replace H:=H.1 hb
  refine ze ?_
  refine zc U ?_
  refine za (zg (v:=.pointer none) U ?_)
  refine za (zg (v:=.int .i64 1) U ?_)
  refine zh ?_
  refine zx ?_
  exact zv (zq U (zq U zu)) H
 ·intro hb
  replace H:=H.2 hb
  refine zC ?_
  refine ze ?_
  refine zc U ?_
  refine za (zd (v:=.int .i64 p0) e0 ?_)
  obtain⟨n5,c6,H⟩:=H
  obtain⟨c7,H⟩:=H
  obtain⟨h3,c4⟩ : ∃ h3,h3=h.push (.cells (madeCells (Value.nilIface).cells (n5 * 1)) 20 (0,0)):=⟨_,rfl⟩
  replace H:=H h3 c4
  refine za (op_makeSlice ri_255 (Eq.trans U (congrArg (Z .i64) c6)) (Eq.trans U (congrArg (Z .i64) c6)) c7.1 c7.2.1 c7.2.2 c4 ?_)
  refine za (zX (vs:=[(0,.slice (some ⟨h.size,0,none⟩) n5 n5)]) (cs:=#[.slice (some ⟨h.size,0,none⟩) n5 n5,.int .i64 0,.int .i64 0,.int .i64 0]) z_257 fs_257 (zM U zT) U ?_)
  obtain⟨h8,c9⟩ : ∃ h8,h8=h3.push (.cells #[.slice (some ⟨h.size,0,none⟩) n5 n5,.int .i64 0,.int .i64 0,.int .i64 0] 257 (0,0)):=⟨_,rfl⟩
  replace H:=H h8 c9
  refine za (yd (v:=.agg #[.slice (some ⟨h.size,0,none⟩) n5 n5,.int .i64 0,.int .i64 0,.int .i64 0]) U c9 ?_)
  refine za (zg (v:=.pointer (some ⟨h3.size,0,none⟩)) U ?_)
  refine za (zg (v:=.int .i64 0) U ?_)
  refine zh ?_
  refine zx ?_
  exact zv (zq U (zq U zu)) H
def Ggy:Cert:=⟨[[],[0],[0,1],[0,1,2],[],[4],[4,5],[4,5,6],[0,1,2,3,4,5,6,7],[],[9],[9,10],[9,10,11],[9,10,11,12],[0,1,2,3,4,5,6,7,8,9,10,11,12,13],[0,1,2,3,4,5,6,7,8,9,10,11,12,13,14]],[false,false,false,false,false,false,false,false,false,false,false,false,false,false,false,false]⟩
def Gh0:Cert:=⟨[[],[0],[0,1],[0,1,2],[],[],[4,5],[],[7],[0,1,2,3,4,5,6,7,8],[0,1,2,3,4,5,6,7,8,9]],[false,false,false,false,false,false,true,false,false,false,true]⟩
def Ge6 (p0:Option Addr) (p1_0:Int) (p1_1:Int) (p1_2:Int) (p1_3:Int) (p1_4:Int) (p1_5:Int) (p1_6:Bool) (p1_7:Bool) (p1_8:Int) (K:Int→Int→Heap→Prop) (h:Heap):Prop:=
 ∀ (h1:Heap),h1=h.push (.cells #[.int .i64 p1_0,.int .i64 p1_1,.int .i64 p1_2,.int .u64 p1_3,.int .i64 p1_4,.int .i64 p1_5,.bool p1_6,.bool p1_7,.int .i64 p1_8] 63 (0,0))→∃ (h4:Heap),stCells h.size h1 6 [.bool true]=some h4∧∃ (h6:Heap),stCells h.size h4 7 [.bool false]=some h6∧∃ (h8:Heap),stCells h.size h6 8 [.int .i64 0]=some h8∧∃ (x9_0:Int) (x9_1:Int) (x9_2:Int) (x9_3:Int) (x9_4:Int) (x9_5:Int) (x9_6:Bool) (x9_7:Bool) (x9_8:Int),ldCells h8 h.size 0 9=some [.int .i64 x9_0,.int .i64 x9_1,.int .i64 x9_2,.int .u64 x9_3,.int .i64 x9_4,.int .i64 x9_5,.bool x9_6,.bool x9_7,.int .i64 x9_8]∧CallsH PR Ghr #[.agg #[.int .i64 x9_0,.int .i64 x9_1,.int .i64 x9_2,.int .u64 x9_3,.int .i64 x9_4,.int .i64 x9_5,.bool x9_6,.bool x9_7,.int .i64 x9_8]] h8 (fun v h11=>∃ (x13:Bool),v=(Value.bool x13)∧(x13=false→K 0 1 h11)∧(x13=true→∃ (b14:Nat) (o15:Nat),p0=some ⟨b14,o15,none⟩∧∃ (x17:Int),cellH h11 b14 (o15+1)=some (.int .i64 x17)∧∃ (x19:Int),cellH h11 b14 (o15+3)=some (.int .i64 x19)∧(-9223372036854775808≤x17 - x19∧x17 - x19<9223372036854775808)∧∃ (x22a:Option Addr) (x22n:Nat) (x22c:Nat),cellH h11 b14 o15=some (.slice x22a x22n x22c)∧((x17 - x19)=(x22n:Int)→K 0 4 h11)∧((¬ ((x17 - x19)=(x22n:Int)))→∃ (x25:Int),cellH h11 b14 (o15+1)=some (.int .i64 x25)∧∃ (x27a:Option Addr) (x27n:Nat) (x27c:Nat),cellH h11 b14 o15=some (.slice x27a x27n x27c)∧∃ (x29_0:Int) (x29_1:Int) (x29_2:Int) (x29_3:Int) (x29_4:Int) (x29_5:Int) (x29_6:Bool) (x29_7:Bool) (x29_8:Int),ldCells h11 h.size 0 9=some [.int .i64 x29_0,.int .i64 x29_1,.int .i64 x29_2,.int .u64 x29_3,.int .i64 x29_4,.int .i64 x29_5,.bool x29_6,.bool x29_7,.int .i64 x29_8]∧CallsH PR Gmb #[.pointer (some ⟨b14,o15,none⟩),.int .i64 x25] h11 (fun v h31=>∃ (x33:Int),v=(Value.int .i64 x33)∧cellH h31 b14 o15=some (Value.slice x27a x27n x27c)∧ldCells h31 h.size 0 9=some [.int .i64 x29_0,.int .i64 x29_1,.int .i64 x29_2,.int .u64 x29_3,.int .i64 x29_4,.int .i64 x29_5,.bool x29_6,.bool x29_7,.int .i64 x29_8]∧∃ (b37:Nat) (o38:Nat),x27a=some ⟨b37,o38,none⟩∧(0≤x33∧x33<(x27n:Int))∧∃ (h41:Heap),stCells b37 h31 (o38+x33.toNat * 1) [(Value.iface 63 (Value.agg #[.int .i64 x29_0,.int .i64 x29_1,.int .i64 x29_2,.int .u64 x29_3,.int .i64 x29_4,.int .i64 x29_5,.bool x29_6,.bool x29_7,.int .i64 x29_8]))]=some h41∧∃ (x42:Int),cellH h41 b14 (o15+1)=some (.int .i64 x42)∧(-9223372036854775808≤x42+1∧x42+1<9223372036854775808)∧∃ (h46:Heap),stCells b14 h41 (o15+1) [.int .i64 (x42+1)]=some h46∧K x25 0 h46))))
theorem Ge7 (p0:Option Addr) (p1_0:Int) (p1_1:Int) (p1_2:Int) (p1_3:Int) (p1_4:Int) (p1_5:Int) (p1_6:Bool) (p1_7:Bool) (p1_8:Int) (R:Value→Heap→Prop) (h:Heap) (H:Ge6 p0 p1_0 p1_1 p1_2 p1_3 p1_4 p1_5 p1_6 p1_7 p1_8 (fun r0 r1 h'=>R (Value.tuple #[.int .i64 r0,.int .i64 r1]) h') h):CallsH PR Gm8 #[.pointer p0,.agg #[.int .i64 p1_0,.int .i64 p1_1,.int .i64 p1_2,.int .u64 p1_3,.int .i64 p1_4,.int .i64 p1_5,.bool p1_6,.bool p1_7,.int .i64 p1_8]] h R:=by
 refine zD (args:=[.pointer p0,.agg #[.int .i64 p1_0,.int .i64 p1_1,.int .i64 p1_2,.int .u64 p1_3,.int .i64 p1_4,.int .i64 p1_5,.bool p1_6,.bool p1_7,.int .i64 p1_8]]) Tryz.func72 U U ?_
 intro f hf
 have e0:=hf 0 _ rfl
 have e1:=hf 1 _ rfl
 clear hf
 unfold Ge6 at H
 refine ze ?_
 refine zc U ?_
 obtain⟨h1,c2⟩ : ∃ h1,h1=h.push (.cells #[.int .i64 p1_0,.int .i64 p1_1,.int .i64 p1_2,.int .u64 p1_3,.int .i64 p1_4,.int .i64 p1_5,.bool p1_6,.bool p1_7,.int .i64 p1_8] 63 (0,0)):=⟨_,rfl⟩
 replace H:=H h1 c2
 refine za (yd (v:=.agg #[.int .i64 p1_0,.int .i64 p1_1,.int .i64 p1_2,.int .u64 p1_3,.int .i64 p1_4,.int .i64 p1_5,.bool p1_6,.bool p1_7,.int .i64 p1_8]) e1 c2 ?_)
 refine za (zg (v:=.int .i64 0) U ?_)
 refine za (zg (v:=.int .i64 0) U ?_)
 refine zh ?_
 refine ze ?_
 refine zc U ?_
 refine za (zf U fo_63_5 ?_)
 obtain⟨h4,c3,H⟩:=H
 refine za (zI (v:=.bool true) U U sz_4 U c3 ?_)
 refine za (zf U fo_63_6 ?_)
 obtain⟨h6,c5,H⟩:=H
 refine za (zI (v:=.bool false) U U sz_4 U c5 ?_)
 refine za (zf U fo_63_7 ?_)
 obtain⟨h8,c7,H⟩:=H
 refine za (zI (v:=.int .i64 0) U U sz_3 U c7 ?_)
 refine zh ?_
 refine ze ?_
 refine zK ?_
 refine ze ?_
 refine zc U ?_
 obtain⟨x9_0,x9_1,x9_2,x9_3,x9_4,x9_5,x9_6,x9_7,x9_8,c10,H⟩:=H
 refine za (zS U ag_63 c10 ?_)
 refine za (zG (vs:=[.agg #[.int .i64 x9_0,.int .i64 x9_1,.int .i64 x9_2,.int .u64 x9_3,.int .i64 x9_4,.int .i64 x9_5,.bool x9_6,.bool x9_7,.int .i64 x9_8]]) en_135 (zm U zy) (CallsH.mono H ?_))
 clear H
 rintro _ h11 ⟨x13,rfl,H⟩
 refine za (yi U ?_)
 refine za (zg (v:=.bool (!x13)) U ?_)
 refine zh ?_
 refine zz (!x13) U ?_ ?_
 ·intro hb
  replace H:=H.1 (zt hb)
  refine ze ?_
  refine zc U ?_
  refine za (zg (v:=.int .i64 0) U ?_)
  refine za (zg (v:=.int .i64 1) U ?_)
  refine zh ?_
  refine zx ?_
  exact zv (zq U (zq U zu)) H
 ·intro hb
  replace H:=H.2 (zL hb)
  refine ze ?_
  obtain⟨b14,o15,rfl,H⟩:=H
  obtain⟨x17,c18,H⟩:=H
  obtain⟨x19,c20,H⟩:=H
  obtain⟨c21,H⟩:=H
  obtain⟨x22a,x22n,x22c,c23,H⟩:=H
  refine zO Ggy 0 [(Y (some ⟨b14,o15,none⟩)),(Y (some ⟨b14,o15,none⟩)),(Y (some ⟨b14,o15+1,none⟩)),(Z .i64 x17),(Y (some ⟨b14,o15,none⟩)),(Y (some ⟨b14,o15,none⟩)),(Y (some ⟨b14,o15+3,none⟩)),(Z .i64 x19),(Z .i64 (x17 - x19)),(Y (some ⟨b14,o15,none⟩)),(Y (some ⟨b14,o15,none⟩)),(Y (some ⟨b14,o15,none⟩)),(T x22a x22n x22c),(Z .i64 (x22n:Int)),(W (decide ((x17 - x19)=(x22n:Int)))),(W (decide ((x17 - x19)=(x22n:Int))))] (by kernel_rfl) U mixed_PR ?_
  refine zJ U (zw [0,1,2,3,4,5,6,7,8,9,10,11,12,13,14,15] U ⟨zb U U (zd (v:=.pointer (some ⟨b14,o15,none⟩)) e0 ⟨U,U⟩),zb U U (zj U ⟨U,U⟩),zb U U (zf U fo_257_1 ⟨U,U⟩),zb U U (zk U ag_3 c18 ⟨U,U⟩),zb U U (zd (v:=.pointer (some ⟨b14,o15,none⟩)) e0 ⟨U,U⟩),zb U U (zj U ⟨U,U⟩),zb U U (zf U fo_257_3 ⟨U,U⟩),zb U U (zk U ag_3 c20 ⟨U,U⟩),zb U U (op_sub U U (zU c21) ⟨U,U⟩),zb U U (zd (v:=.pointer (some ⟨b14,o15,none⟩)) e0 ⟨U,U⟩),zb U U (zj U ⟨U,U⟩),zb U U (zf U fo_257_0 ⟨U,U⟩),zb U U (zk U ag_255 c23 ⟨U,U⟩),zb U U (zN U un_255 ⟨U,U⟩),zb U U (op_eql U U ⟨U,U⟩),zb U U (zg (v:=.bool (decide ((x17 - x19)=(x22n:Int)))) U ⟨U,U⟩),V⟩) U ?_
  refine zz (decide ((x17 - x19)=(x22n:Int))) U ?_ ?_
  ·intro hb
   replace H:=H.1 (zo hb)
   refine ze ?_
   refine zc U ?_
   refine za (zg (v:=.int .i64 0) U ?_)
   refine za (zg (v:=.int .i64 4) U ?_)
   refine zh ?_
   refine zx ?_
   exact zv (zq U (zq U zu)) H
  ·intro hb
   replace H:=H.2 (zn hb)
   refine zC ?_
   refine ze ?_
   refine zc U ?_
   refine za (zd (v:=.pointer (some ⟨b14,o15,none⟩)) e0 ?_)
   refine za (zj U ?_)
   refine za (zf U fo_257_1 ?_)
   obtain⟨x25,c26,H⟩:=H
   refine za (zk U ag_3 c26 ?_)
   refine za (zg (v:=.int .i64 x25) U ?_)
   refine zh ?_
   refine ze ?_
   obtain⟨x27a,x27n,x27c,c28,H⟩:=H
   obtain⟨x29_0,x29_1,x29_2,x29_3,x29_4,x29_5,x29_6,x29_7,x29_8,c30,H⟩:=H
   refine zO Gh0 2 [(Y (some ⟨b14,o15,none⟩)),(Y (some ⟨b14,o15,none⟩)),(Y (some ⟨b14,o15,none⟩)),(T x27a x27n x27c),(Y (some ⟨b14,o15,none⟩)),(Z .i64 x25),undef,(X #[.int .i64 x29_0,.int .i64 x29_1,.int .i64 x29_2,.int .u64 x29_3,.int .i64 x29_4,.int .i64 x29_5,.bool x29_6,.bool x29_7,.int .i64 x29_8]),(Value.iface 63 (X #[.int .i64 x29_0,.int .i64 x29_1,.int .i64 x29_2,.int .u64 x29_3,.int .i64 x29_4,.int .i64 x29_5,.bool x29_6,.bool x29_7,.int .i64 x29_8])),undef,undef] (by kernel_rfl) U mixed_PR ?_
   refine zA [6] (by decide) U (zw [0,1,2,3,4,5,7,8] U ⟨zb U U (zd (v:=.pointer (some ⟨b14,o15,none⟩)) e0 ⟨U,U⟩),zb U U (zj U ⟨U,U⟩),zb U U (zf U fo_257_0 ⟨U,U⟩),zb U U (zk U ag_255 c28 ⟨U,U⟩),zb U U (zd (v:=.pointer (some ⟨b14,o15,none⟩)) e0 ⟨U,U⟩),zb U U (zd (v:=.int .i64 x25) U ⟨U,U⟩),zb U U (zS U ag_63 c30 ⟨U,U⟩),zb U U (op_makeInterface' (v:=.agg #[.int .i64 x29_0,.int .i64 x29_1,.int .i64 x29_2,.int .u64 x29_3,.int .i64 x29_4,.int .i64 x29_5,.bool x29_6,.bool x29_7,.int .i64 x29_8]) cn_63 U ⟨U,U⟩),V⟩) U ⟨?_,V⟩
   refine zb U U (zG (vs:=[.pointer (some ⟨b14,o15,none⟩),.int .i64 x25]) en_136 (zm U (zm U zy)) (CallsH.mono H ?_))
   clear H
   rintro _ h31 ⟨x33,rfl,H⟩
   obtain⟨c34,H⟩:=H
   obtain⟨c35,H⟩:=H
   obtain⟨b37,o38,rfl,H⟩:=H
   obtain⟨c36,H⟩:=H
   refine⟨[(Value.pointer (some ⟨b14,o15,none⟩)),(Value.pointer (some ⟨b14,o15,none⟩)),(Value.pointer (some ⟨b14,o15,none⟩)),(Value.slice (some ⟨b37,o38,none⟩) x27n x27c),(Value.pointer (some ⟨b14,o15,none⟩)),(Value.int .i64 x25),(Value.int .i64 x33),(Value.agg #[.int .i64 x29_0,.int .i64 x29_1,.int .i64 x29_2,.int .u64 x29_3,.int .i64 x29_4,.int .i64 x29_5,.bool x29_6,.bool x29_7,.int .i64 x29_8]),(Value.iface 63 (Value.agg #[.int .i64 x29_0,.int .i64 x29_1,.int .i64 x29_2,.int .u64 x29_3,.int .i64 x29_4,.int .i64 x29_5,.bool x29_6,.bool x29_7,.int .i64 x29_8])),(Value.pointer (some ⟨b37,o38+x33.toNat * 1,none⟩)),undef],rfl,(zH [0,1,2,3,4,5,7,8] rfl ⟨rfl,rfl,rfl,rfl,rfl,rfl,rfl,rfl,trivial⟩),?_⟩
   refine zA [10] (by decide) U (zw [0,1,2,3,7,8,9] U ⟨zb U U (zd (v:=.pointer (some ⟨b14,o15,none⟩)) e0 ⟨U,U⟩),zb U U (zj U ⟨U,U⟩),zb U U (zf U fo_257_0 ⟨U,U⟩),zb U U (zk U ag_255 c34 ⟨U,U⟩),zb U U (zS U ag_63 c35 ⟨U,U⟩),zb U U (op_makeInterface' (v:=.agg #[.int .i64 x29_0,.int .i64 x29_1,.int .i64 x29_2,.int .u64 x29_3,.int .i64 x29_4,.int .i64 x29_5,.bool x29_6,.bool x29_7,.int .i64 x29_8]) cn_63 U ⟨U,U⟩),zb U U (zE U U ei_255 c36 ⟨U,U⟩),V⟩) U ⟨?_,V⟩
   obtain⟨h41,c40,H⟩:=H
   refine zb U U (zI (v:=(Value.iface 63 (X #[.int .i64 x29_0,.int .i64 x29_1,.int .i64 x29_2,.int .u64 x29_3,.int .i64 x29_4,.int .i64 x29_5,.bool x29_6,.bool x29_7,.int .i64 x29_8]))) U U sz_20 U c40 ?_)
   refine⟨[(Value.pointer (some ⟨b14,o15,none⟩)),(Value.pointer (some ⟨b14,o15,none⟩)),(Value.pointer (some ⟨b14,o15,none⟩)),(Value.slice (some ⟨b37,o38,none⟩) x27n x27c),(Value.pointer (some ⟨b14,o15,none⟩)),(Value.int .i64 x25),(Value.int .i64 x33),(Value.agg #[.int .i64 x29_0,.int .i64 x29_1,.int .i64 x29_2,.int .u64 x29_3,.int .i64 x29_4,.int .i64 x29_5,.bool x29_6,.bool x29_7,.int .i64 x29_8]),(Value.iface 63 (Value.agg #[.int .i64 x29_0,.int .i64 x29_1,.int .i64 x29_2,.int .u64 x29_3,.int .i64 x29_4,.int .i64 x29_5,.bool x29_6,.bool x29_7,.int .i64 x29_8])),(Value.pointer (some ⟨b37,o38+x33.toNat * 1,none⟩)),undef],rfl,(zH [0,1,2,3,4,5,6,7,8,9] rfl ⟨rfl,rfl,rfl,rfl,rfl,rfl,rfl,rfl,rfl,rfl,trivial⟩),?_⟩
   refine zJ U (zw [] U V) U ?_
   refine ze ?_
   refine zc U ?_
   refine za (zd (v:=.pointer (some ⟨b14,o15,none⟩)) e0 ?_)
   refine za (zj U ?_)
   refine za (zf U fo_257_1 ?_)
   obtain⟨x42,c43,H⟩:=H
   refine za (zk U ag_3 c43 ?_)
   obtain⟨c44,H⟩:=H
   refine za (yf U U (zU c44) ?_)
   refine za (zj U ?_)
   refine za (zf U fo_257_1 ?_)
   obtain⟨h46,c45,H⟩:=H
   refine za (zI (v:=.int .i64 (x42+1)) U U sz_3 U c45 ?_)
   refine zh ?_
   refine ze ?_
   refine zc U ?_
   refine za (zd (v:=.int .i64 x25) U ?_)
   refine za (zg (v:=.int .i64 x25) U ?_)
   refine za (zg (v:=.int .i64 0) U ?_)
   refine zh ?_
   refine zx ?_
   exact zv (zq U (zq U zu)) H
def Gh3:Cert:=⟨[[],[0],[0,1],[0,1,2],[],[4],[4,5],[4,5,6],[0,1,2,3,4,5,6,7]],[false,false,false,false,false,false,false,false,false]⟩
def Gh4:Cert:=⟨[[],[],[1],[1,2],[1,2,3],[],[],[5,6],[1,2,3,4,5,6,7],[1,2,3,4,5,6,7,8],[1,2,3,4,5,6,7,8,9],[0,5,6,7],[0,1,2,3,4,5,6,7,8,9,10,11],[0,1,2,3,4,5,6,7,8,9,10,11,12]],[false,false,false,false,false,false,false,true,false,false,false,false,true,false]⟩
def Gea (p0:Option Addr) (K:Int→Int→Int→Int→Int→Int→Int→Bool→Bool→Int→Int→Heap→Prop) (h:Heap):Prop:=
 ∀ (h1:Heap),h1=h.push (.cells #[.int .i64 0,.int .i64 0,.int .i64 0,.int .u64 0,.int .i64 0,.int .i64 0,.bool false,.bool false,.int .i64 0] 63 (0,0))→∃ (b3:Nat) (o4:Nat),p0=some ⟨b3,o4,none⟩∧∃ (x6:Int),cellH h1 b3 (o4+2)=some (.int .i64 x6)∧∃ (x8:Int),cellH h1 b3 (o4+1)=some (.int .i64 x8)∧(x6=x8→∃ (h12:Heap),stCells h.size h1 0 [.int .i64 0,.int .i64 0,.int .i64 0,.int .u64 0,.int .i64 0,.int .i64 0,.bool false,.bool false,.int .i64 0]=some h12∧∃ (x13_0:Int) (x13_1:Int) (x13_2:Int) (x13_3:Int) (x13_4:Int) (x13_5:Int) (x13_6:Bool) (x13_7:Bool) (x13_8:Int),ldCells h12 h.size 0 9=some [.int .i64 x13_0,.int .i64 x13_1,.int .i64 x13_2,.int .u64 x13_3,.int .i64 x13_4,.int .i64 x13_5,.bool x13_6,.bool x13_7,.int .i64 x13_8]∧K 0 x13_0 x13_1 x13_2 x13_3 x13_4 x13_5 x13_6 x13_7 x13_8 5 h12)∧((¬ (x6=x8))→∃ (x15:Int),cellH h1 b3 (o4+2)=some (.int .i64 x15)∧∃ (x17:Int),cellH h1 b3 (o4+2)=some (.int .i64 x17)∧(-9223372036854775808≤x17+1∧x17+1<9223372036854775808)∧∃ (h21:Heap),stCells b3 h1 (o4+2) [.int .i64 (x17+1)]=some h21∧∃ (x22a:Option Addr) (x22n:Nat) (x22c:Nat),cellH h21 b3 o4=some (.slice x22a x22n x22c)∧CallsH PR Gmb #[.pointer (some ⟨b3,o4,none⟩),.int .i64 x15] h21 (fun v h24=>∃ (x26:Int),v=(Value.int .i64 x26)∧cellH h24 b3 o4=some (Value.slice x22a x22n x22c)∧∃ (b29:Nat) (o30:Nat),x22a=some ⟨b29,o30,none⟩∧(0≤x26∧x26<(x22n:Int))∧∃ (x32:Value),cellH h24 b29 (o30+x26.toNat * 1)=some x32∧∃ (x34_0:Int) (x34_1:Int) (x34_2:Int) (x34_3:Int) (x34_4:Int) (x34_5:Int) (x34_6:Bool) (x34_7:Bool) (x34_8:Int),x32=Value.iface 63 (Value.agg #[.int .i64 x34_0,.int .i64 x34_1,.int .i64 x34_2,.int .u64 x34_3,.int .i64 x34_4,.int .i64 x34_5,.bool x34_6,.bool x34_7,.int .i64 x34_8])∧∃ (h37:Heap),stCells h.size h24 0 [.int .i64 x34_0,.int .i64 x34_1,.int .i64 x34_2,.int .u64 x34_3,.int .i64 x34_4,.int .i64 x34_5,.bool x34_6,.bool x34_7,.int .i64 x34_8]=some h37∧∃ (x38_0:Int) (x38_1:Int) (x38_2:Int) (x38_3:Int) (x38_4:Int) (x38_5:Int) (x38_6:Bool) (x38_7:Bool) (x38_8:Int),ldCells h37 h.size 0 9=some [.int .i64 x38_0,.int .i64 x38_1,.int .i64 x38_2,.int .u64 x38_3,.int .i64 x38_4,.int .i64 x38_5,.bool x38_6,.bool x38_7,.int .i64 x38_8]∧K x15 x38_0 x38_1 x38_2 x38_3 x38_4 x38_5 x38_6 x38_7 x38_8 0 h37))
theorem Geb (p0:Option Addr) (R:Value→Heap→Prop) (h:Heap) (H:Gea p0 (fun r0 r1_0 r1_1 r1_2 r1_3 r1_4 r1_5 r1_6 r1_7 r1_8 r2 h'=>R (Value.tuple #[.int .i64 r0,.agg #[.int .i64 r1_0,.int .i64 r1_1,.int .i64 r1_2,.int .u64 r1_3,.int .i64 r1_4,.int .i64 r1_5,.bool r1_6,.bool r1_7,.int .i64 r1_8],.int .i64 r2]) h') h):CallsH PR Gma #[.pointer p0] h R:=by
 refine zD (args:=[.pointer p0]) Tryz.func90 U U ?_
 intro f hf
 have e0:=hf 0 _ rfl
 clear hf
 unfold Gea at H
 refine ze ?_
 refine zc U ?_
 refine za (zg (v:=.int .i64 0) U ?_)
 obtain⟨h1,c2⟩ : ∃ h1,h1=h.push (.cells #[.int .i64 0,.int .i64 0,.int .i64 0,.int .u64 0,.int .i64 0,.int .i64 0,.bool false,.bool false,.int .i64 0] 63 (0,0)):=⟨_,rfl⟩
 replace H:=H h1 c2
 refine za (zW z_63 c2 ?_)
 refine za (zg (v:=.int .i64 0) U ?_)
 refine zh ?_
 refine ze ?_
 refine ze ?_
 obtain⟨b3,o4,rfl,H⟩:=H
 obtain⟨x6,c7,H⟩:=H
 obtain⟨x8,c9,H⟩:=H
 refine zO Gh3 0 [(Y (some ⟨b3,o4,none⟩)),(Y (some ⟨b3,o4,none⟩)),(Y (some ⟨b3,o4+2,none⟩)),(Z .i64 x6),(Y (some ⟨b3,o4,none⟩)),(Y (some ⟨b3,o4,none⟩)),(Y (some ⟨b3,o4+1,none⟩)),(Z .i64 x8),(W (decide (x6=x8)))] (by kernel_rfl) U mixed_PR ?_
 refine zJ U (zw [0,1,2,3,4,5,6,7,8] U ⟨zb U U (zd (v:=.pointer (some ⟨b3,o4,none⟩)) e0 ⟨U,U⟩),zb U U (zj U ⟨U,U⟩),zb U U (zf U fo_257_2 ⟨U,U⟩),zb U U (zk U ag_3 c7 ⟨U,U⟩),zb U U (zd (v:=.pointer (some ⟨b3,o4,none⟩)) e0 ⟨U,U⟩),zb U U (zj U ⟨U,U⟩),zb U U (zf U fo_257_1 ⟨U,U⟩),zb U U (zk U ag_3 c9 ⟨U,U⟩),zb U U (op_eql U U ⟨U,U⟩),V⟩) U ?_
 refine zz (decide (x6=x8)) U ?_ ?_
 ·intro hb
  replace H:=H.1 (zo hb)
  refine ze ?_
  refine zc U ?_
  refine za (zX (vs:=[]) (cs:=#[.int .i64 0,.int .i64 0,.int .i64 0,.int .u64 0,.int .i64 0,.int .i64 0,.bool false,.bool false,.int .i64 0]) z_63 fs_63 zT U ?_)
  refine za (zg (v:=.int .i64 0) U ?_)
  obtain⟨h12,c11,H⟩:=H
  refine za (zI (v:=.agg #[.int .i64 0,.int .i64 0,.int .i64 0,.int .u64 0,.int .i64 0,.int .i64 0,.bool false,.bool false,.int .i64 0]) U U sz_63 U c11 ?_)
  refine za (zg (v:=.int .i64 5) U ?_)
  refine zh ?_
  refine zx ?_
  obtain⟨x13_0,x13_1,x13_2,x13_3,x13_4,x13_5,x13_6,x13_7,x13_8,c14,H⟩:=H
  exact zv (zq U (ye U ag_63 c14 (zq U zu))) H
 ·intro hb
  replace H:=H.2 (zn hb)
  refine zC ?_
  refine ze ?_
  refine zc U ?_
  refine za (zd (v:=.pointer (some ⟨b3,o4,none⟩)) e0 ?_)
  refine za (zj U ?_)
  refine za (zf U fo_257_2 ?_)
  obtain⟨x15,c16,H⟩:=H
  refine za (zk U ag_3 c16 ?_)
  refine za (zg (v:=.int .i64 x15) U ?_)
  refine zh ?_
  refine ze ?_
  refine zc U ?_
  refine za (zd (v:=.pointer (some ⟨b3,o4,none⟩)) e0 ?_)
  refine za (zj U ?_)
  refine za (zf U fo_257_2 ?_)
  obtain⟨x17,c18,H⟩:=H
  refine za (zk U ag_3 c18 ?_)
  obtain⟨c19,H⟩:=H
  refine za (yf U U (zU c19) ?_)
  refine za (zj U ?_)
  refine za (zf U fo_257_2 ?_)
  obtain⟨h21,c20,H⟩:=H
  refine za (zI (v:=.int .i64 (x17+1)) U U sz_3 U c20 ?_)
  refine zh ?_
  refine ze ?_
  obtain⟨x22a,x22n,x22c,c23,H⟩:=H
  refine zO Gh4 2 [(Z .i64 x15),(Y (some ⟨b3,o4,none⟩)),(Y (some ⟨b3,o4,none⟩)),(Y (some ⟨b3,o4,none⟩)),(T x22a x22n x22c),(Y (some ⟨b3,o4,none⟩)),(Z .i64 x15),undef,undef,undef,undef,undef,undef,undef] (by kernel_rfl) U mixed_PR ?_
  refine zA [7] (by decide) U (zw [0,1,2,3,4,5,6] U ⟨zb U U (zd (v:=.int .i64 x15) U ⟨U,U⟩),zb U U (zd (v:=.pointer (some ⟨b3,o4,none⟩)) e0 ⟨U,U⟩),zb U U (zj U ⟨U,U⟩),zb U U (zf U fo_257_0 ⟨U,U⟩),zb U U (zk U ag_255 c23 ⟨U,U⟩),zb U U (zd (v:=.pointer (some ⟨b3,o4,none⟩)) e0 ⟨U,U⟩),zb U U (zd (v:=.int .i64 x15) U ⟨U,U⟩),V⟩) U ⟨?_,V⟩
  refine zb U U (zG (vs:=[.pointer (some ⟨b3,o4,none⟩),.int .i64 x15]) en_136 (zm U (zm U zy)) (CallsH.mono H ?_))
  clear H
  rintro _ h24 ⟨x26,rfl,H⟩
  obtain⟨c27,H⟩:=H
  obtain⟨b29,o30,rfl,H⟩:=H
  obtain⟨c28,H⟩:=H
  obtain⟨x32,c33,H⟩:=H
  obtain⟨x34_0,x34_1,x34_2,x34_3,x34_4,x34_5,x34_6,x34_7,x34_8,c35,H⟩:=H
  refine⟨[(Value.int .i64 x15),(Value.pointer (some ⟨b3,o4,none⟩)),(Value.pointer (some ⟨b3,o4,none⟩)),(Value.pointer (some ⟨b3,o4,none⟩)),(Value.slice (some ⟨b29,o30,none⟩) x22n x22c),(Value.pointer (some ⟨b3,o4,none⟩)),(Value.int .i64 x15),(Value.int .i64 x26),(Value.pointer (some ⟨b29,o30+x26.toNat * 1,none⟩)),x32,(Value.agg #[.int .i64 x34_0,.int .i64 x34_1,.int .i64 x34_2,.int .u64 x34_3,.int .i64 x34_4,.int .i64 x34_5,.bool x34_6,.bool x34_7,.int .i64 x34_8]),(Value.int .i64 x15),undef,undef],rfl,(zH [0,1,2,3,4,5,6] rfl ⟨rfl,rfl,rfl,rfl,rfl,rfl,rfl,trivial⟩),?_⟩
  refine zA [12] (by decide) U (zw [0,1,2,3,4,8,9,10,11] U ⟨zb U U (zd (v:=.int .i64 x15) U ⟨U,U⟩),zb U U (zd (v:=.pointer (some ⟨b3,o4,none⟩)) e0 ⟨U,U⟩),zb U U (zj U ⟨U,U⟩),zb U U (zf U fo_257_0 ⟨U,U⟩),zb U U (zk U ag_255 c27 ⟨U,U⟩),zb U U (zE U U ei_255 c28 ⟨U,U⟩),zb U U (zk U ag_20 c33 ⟨U,U⟩),zb U U (op_typeAssert is_63 (Eq.trans U c35) ⟨U,U⟩),zb U U (zg (v:=.int .i64 x15) U ⟨U,U⟩),V⟩) U ⟨?_,V⟩
  obtain⟨h37,c36,H⟩:=H
  refine zb U U (zI (v:=.agg #[.int .i64 x34_0,.int .i64 x34_1,.int .i64 x34_2,.int .u64 x34_3,.int .i64 x34_4,.int .i64 x34_5,.bool x34_6,.bool x34_7,.int .i64 x34_8]) U U sz_63 U c36 ?_)
  refine⟨[(Value.int .i64 x15),(Value.pointer (some ⟨b3,o4,none⟩)),(Value.pointer (some ⟨b3,o4,none⟩)),(Value.pointer (some ⟨b3,o4,none⟩)),(Value.slice (some ⟨b29,o30,none⟩) x22n x22c),(Value.pointer (some ⟨b3,o4,none⟩)),(Value.int .i64 x15),(Value.int .i64 x26),(Value.pointer (some ⟨b29,o30+x26.toNat * 1,none⟩)),x32,(Value.agg #[.int .i64 x34_0,.int .i64 x34_1,.int .i64 x34_2,.int .u64 x34_3,.int .i64 x34_4,.int .i64 x34_5,.bool x34_6,.bool x34_7,.int .i64 x34_8]),(Value.int .i64 x15),undef,(Value.int .i64 0)],rfl,(zH [0,1,2,3,4,5,6,7,8,9,10,11] rfl ⟨rfl,rfl,rfl,rfl,rfl,rfl,rfl,rfl,rfl,rfl,rfl,rfl,trivial⟩),?_⟩
  refine zJ U (zw [13] U ⟨zb U U (zg (v:=.int .i64 0) U ⟨U,U⟩),V⟩) U ?_
  refine zx ?_
  obtain⟨x38_0,x38_1,x38_2,x38_3,x38_4,x38_5,x38_6,x38_7,x38_8,c39,H⟩:=H
  exact zv (zq U (ye U ag_63 c39 (zq U zu))) H
def Ggw:Cert:=⟨[[],[0],[0,1],[0,1,2],[],[],[4,5],[0,1,2,3,4,5,6],[0,1,2,3,4,5,6,7],[0,1,2,3,4,5,6,7,8],[],[0,1,2,3,4,5,6,7,8,9,10]],[false,false,false,false,false,false,true,false,false,false,true,true]⟩
def Ggx:Cert:=⟨[[],[0],[0,1],[0,1,2],[],[],[4,5],[],[7],[0,1,2,3,4,5,6,7,8],[0,1,2,3,4,5,6,7,8,9]],[false,false,false,false,false,false,true,false,false,false,true]⟩
def Ge4 (p0:Option Addr) (p1:Int) (p2:Int) (K:Int→Heap→Prop) (h:Heap):Prop:=
 (((decide (p2<0)) || (decide (255<p2)))=true→K 1 h)∧(((decide (p2<0)) || (decide (255<p2)))=false→∃ (b3:Nat) (o4:Nat),p0=some ⟨b3,o4,none⟩∧∃ (x6:Int),cellH h b3 (o4+3)=some (.int .i64 x6)∧∃ (x9:Int),((¬ (p1<x6))→cellH h b3 (o4+2)=some (.int .i64 x9))∧(((decide (p1<x6)) || (decide (x9≤p1)))=true→K 12 h)∧(((decide (p1<x6)) || (decide (x9≤p1)))=false→∃ J13:Option Addr→Heap→Prop,(∀ (x12:Option Addr) (h15:Heap),J13 x12 h15→∃ (b16:Nat) (o17:Nat),x12=some ⟨b16,o17,none⟩∧∃ (x19:Bool),cellH h15 b16 (o17+7)=some (.bool x19)∧(x19=true→K 12 h15)∧(x19=false→∃ (h22:Heap),stCells b16 h15 (o17+6) [.bool false]=some h22∧∃ (h24:Heap),stCells b16 h22 (o17+7) [.bool true]=some h24∧∃ (h26:Heap),stCells b16 h24 (o17+8) [.int .i64 p2]=some h26∧∃ (x27a:Option Addr) (x27n:Nat) (x27c:Nat),cellH h26 b3 o4=some (.slice x27a x27n x27c)∧∃ (x29_0:Int) (x29_1:Int) (x29_2:Int) (x29_3:Int) (x29_4:Int) (x29_5:Int) (x29_6:Bool) (x29_7:Bool) (x29_8:Int),ldCells h26 b16 o17 9=some [.int .i64 x29_0,.int .i64 x29_1,.int .i64 x29_2,.int .u64 x29_3,.int .i64 x29_4,.int .i64 x29_5,.bool x29_6,.bool x29_7,.int .i64 x29_8]∧CallsH PR Gmb #[.pointer (some ⟨b3,o4,none⟩),.int .i64 p1] h26 (fun v h31=>∃ (x33:Int),v=(Value.int .i64 x33)∧cellH h31 b3 o4=some (Value.slice x27a x27n x27c)∧ldCells h31 b16 o17 9=some [.int .i64 x29_0,.int .i64 x29_1,.int .i64 x29_2,.int .u64 x29_3,.int .i64 x29_4,.int .i64 x29_5,.bool x29_6,.bool x29_7,.int .i64 x29_8]∧∃ (b37:Nat) (o38:Nat),x27a=some ⟨b37,o38,none⟩∧(0≤x33∧x33<(x27n:Int))∧∃ (h41:Heap),stCells b37 h31 (o38+x33.toNat * 1) [(Value.iface 63 (Value.agg #[.int .i64 x29_0,.int .i64 x29_1,.int .i64 x29_2,.int .u64 x29_3,.int .i64 x29_4,.int .i64 x29_5,.bool x29_6,.bool x29_7,.int .i64 x29_8]))]=some h41∧K 0 h41)))∧∃ (x42a:Option Addr) (x42n:Nat) (x42c:Nat),cellH h b3 o4=some (.slice x42a x42n x42c)∧(CallsH PR Gmb #[.pointer (some ⟨b3,o4,none⟩),.int .i64 p1] h (fun v h44=>∃ (x46:Int),v=(Value.int .i64 x46)∧cellH h44 b3 o4=some (Value.slice x42a x42n x42c)∧∃ (b49:Nat) (o50:Nat),x42a=some ⟨b49,o50,none⟩∧(0≤x46∧x46<(x42n:Int))∧∃ (x52:Value),cellH h44 b49 (o50+x46.toNat * 1)=some x52∧∃ (x54_0:Int) (x54_1:Int) (x54_2:Int) (x54_3:Int) (x54_4:Int) (x54_5:Int) (x54_6:Bool) (x54_7:Bool) (x54_8:Int),x52=Value.iface 63 (Value.agg #[.int .i64 x54_0,.int .i64 x54_1,.int .i64 x54_2,.int .u64 x54_3,.int .i64 x54_4,.int .i64 x54_5,.bool x54_6,.bool x54_7,.int .i64 x54_8])∧∀ (h56:Heap),h56=h44.push (.cells #[.int .i64 0,.int .i64 0,.int .i64 0,.int .u64 0,.int .i64 0,.int .i64 0,.bool false,.bool false,.int .i64 0] 63 (0,0))→cellH h56 b3 o4=some (Value.slice (some ⟨b49,o50,none⟩) x42n x42c)∧cellH h56 b49 (o50+x46.toNat * 1)=some x52∧∃ (h61:Heap),stCells h44.size h56 0 [.int .i64 x54_0,.int .i64 x54_1,.int .i64 x54_2,.int .u64 x54_3,.int .i64 x54_4,.int .i64 x54_5,.bool x54_6,.bool x54_7,.int .i64 x54_8]=some h61∧J13 (some ⟨h44.size,0,none⟩) h61))∧(∀ (h62:Heap),h62=h.push (.cells #[.int .i64 0,.int .i64 0,.int .i64 0,.int .u64 0,.int .i64 0,.int .i64 0,.bool false,.bool false,.int .i64 0] 63 (0,0))→cellH h62 b3 o4=some (Value.slice x42a x42n x42c)∧CallsH PR Gmb #[.pointer (some ⟨b3,o4,none⟩),.int .i64 p1] h62 (fun v h65=>∃ (x67:Int),v=(Value.int .i64 x67)∧cellH h65 b3 o4=some (Value.slice x42a x42n x42c)∧∃ (b70:Nat) (o71:Nat),x42a=some ⟨b70,o71,none⟩∧(0≤x67∧x67<(x42n:Int))∧∃ (x73:Value),cellH h65 b70 (o71+x67.toNat * 1)=some x73∧∃ (x75_0:Int) (x75_1:Int) (x75_2:Int) (x75_3:Int) (x75_4:Int) (x75_5:Int) (x75_6:Bool) (x75_7:Bool) (x75_8:Int),x73=Value.iface 63 (Value.agg #[.int .i64 x75_0,.int .i64 x75_1,.int .i64 x75_2,.int .u64 x75_3,.int .i64 x75_4,.int .i64 x75_5,.bool x75_6,.bool x75_7,.int .i64 x75_8])∧∃ (h78:Heap),stCells h.size h65 0 [.int .i64 x75_0,.int .i64 x75_1,.int .i64 x75_2,.int .u64 x75_3,.int .i64 x75_4,.int .i64 x75_5,.bool x75_6,.bool x75_7,.int .i64 x75_8]=some h78∧J13 (some ⟨h.size,0,none⟩) h78))))
theorem Ge5 (p0:Option Addr) (p1:Int) (p2:Int) (R:Value→Heap→Prop) (h:Heap) (H:Ge4 p0 p1 p2 (fun r0 h'=>R (Value.int .i64 r0) h') h):CallsH PR Gm7 #[.pointer p0,.int .i64 p1,.int .i64 p2] h R:=by
 refine zD (args:=[.pointer p0,.int .i64 p1,.int .i64 p2]) Tryz.func93 U U ?_
 intro f hf
 have e0:=hf 0 _ rfl
 have e1:=hf 1 _ rfl
 have e2:=hf 2 _ rfl
 clear hf
 unfold Ge4 at H
 refine ze ?_
 refine zc U ?_
 refine za (zg (v:=.int .i64 0) U ?_)
 refine zh ?_
 refine ze ?_
 refine ze ?_
 refine zc U ?_
 refine za (zd (v:=.int .i64 p2) e2 ?_)
 refine za (zY U U ?_)
 refine za (zd (v:=.bool (decide (p2<0))) U ?_)
 refine zF (b:=!(decide (p2<0))) (zi U U) (Z .i64 p2) (fun hb N hN=>zd (v:=.int .i64 p2) e2 hN) ?_
 refine zF (b:=!(decide (p2<0))) (zi U U) (W (decide (255<p2))) (fun hb N hN=>yj (gv hb) U hN) ?_
 refine za (zR U U (fun hq=>(gv (zP hq))) ?_)
 refine zh ?_
 refine zz ((decide (p2<0)) || (decide (255<p2))) U ?_ ?_
 ·intro hb
  replace H:=H.1 hb
  refine ze ?_
  refine zc U ?_
  refine za (zg (v:=.int .i64 1) U ?_)
  refine zh ?_
  refine zx ?_
  exact zv (zq U zu) H
 ·intro hb
  replace H:=H.2 hb
  refine zC ?_
  refine ze ?_
  refine ze ?_
  refine zc U ?_
  refine za (zd (v:=.int .i64 p1) e1 ?_)
  refine za (zd (v:=.pointer p0) e0 ?_)
  obtain⟨b3,o4,rfl,H⟩:=H
  refine za (zj U ?_)
  refine za (zf U fo_257_3 ?_)
  obtain⟨x6,c7,H⟩:=H
  refine za (zk U ag_3 c7 ?_)
  refine za (zY U U ?_)
  refine za (zd (v:=.bool (decide (p1<x6))) U ?_)
  refine zF (b:=!(decide (p1<x6))) (zi U U) (Z .i64 p1) (fun hb N hN=>zd (v:=.int .i64 p1) e1 hN) ?_
  refine zF (b:=!(decide (p1<x6))) (zi U U) (Y (some ⟨b3,o4,none⟩)) (fun hb N hN=>zd (v:=.pointer (some ⟨b3,o4,none⟩)) e0 hN) ?_
  refine zF (b:=!(decide (p1<x6))) (zi U U) (Y (some ⟨b3,o4,none⟩)) (fun hb N hN=>zj (gv hb) hN) ?_
  refine zF (b:=!(decide (p1<x6))) (zi U U) (Y (some ⟨b3,o4+2,none⟩)) (fun hb N hN=>zf (gv hb) fo_257_2 hN) ?_
  obtain⟨x9,c10,H⟩:=H
  refine zF (b:=!(decide (p1<x6))) (zi U U) (Z .i64 x9) (fun hb N hN=>zk (gv hb) ag_3 (c10 (zn (zt hb))) hN) ?_
  refine zF (b:=!(decide (p1<x6))) (zi U U) (W (decide (x9≤p1))) (fun hb N hN=>op_geq (gv hb) (gv hb) hN) ?_
  refine za (zR U U (fun hq=>(gv (zP hq))) ?_)
  refine zh ?_
  refine zz ((decide (p1<x6)) || (decide (x9≤p1))) U ?_ ?_
  ·intro hb
   replace H:=H.1 hb
   refine ze ?_
   refine zc U ?_
   refine za (zg (v:=.int .i64 12) U ?_)
   refine zh ?_
   refine zx ?_
   exact zv (zq U zu) H
  ·intro hb
   replace H:=H.2 hb
   refine zC ?_
   refine ze ?_
   obtain⟨J13,HR,H⟩:=H
   obtain⟨J14,hin14,hout14⟩ : ∃ J14:Fr→Heap→Prop,(∀ f hz (x12:Option Addr),f 7 = .pointer x12→f 0 = .pointer (some ⟨b3,o4,none⟩)→f 1 = .int .i64 p1→f 2 = .int .i64 p2→J13 x12 hz→J14 f hz)∧(∀ f hz,J14 f hz→∃ (x12:Option Addr),f 7 = .pointer x12∧f 0 = .pointer (some ⟨b3,o4,none⟩)∧f 1 = .int .i64 p1∧f 2 = .int .i64 p2∧J13 x12 hz):=⟨fun f hz=>∃ (x12:Option Addr),f 7 = .pointer x12∧f 0 = .pointer (some ⟨b3,o4,none⟩)∧f 1 = .int .i64 p1∧f 2 = .int .i64 p2∧J13 x12 hz,fun _ _ x12 a0 a1 a2 a3 z=>⟨x12,a0,a1,a2,a3,z⟩,fun _ _ hz=>hz⟩
   refine wpf_cut J14 ?_ ?_
   ·skip
    obtain⟨x42a,x42n,x42c,c43,H⟩:=H
    refine zO Ggw 3 [(Y (some ⟨b3,o4,none⟩)),(Y (some ⟨b3,o4,none⟩)),(Y (some ⟨b3,o4,none⟩)),(T x42a x42n x42c),(Y (some ⟨b3,o4,none⟩)),(Z .i64 p1),undef,undef,undef,undef,undef,undef] (by kernel_rfl) U mixed_PR ?_
    refine zA [6,10] (by decide) U (zw [0,1,2,3,4,5] U ⟨zb U U (zd (v:=.pointer (some ⟨b3,o4,none⟩)) e0 ⟨U,U⟩),zb U U (zj U ⟨U,U⟩),zb U U (zf U fo_257_0 ⟨U,U⟩),zb U U (zk U ag_255 c43 ⟨U,U⟩),zb U U (zd (v:=.pointer (some ⟨b3,o4,none⟩)) e0 ⟨U,U⟩),zb U U (zd (v:=.int .i64 p1) e1 ⟨U,U⟩),V⟩) U ⟨?_,?_,V⟩
    ·replace H:=H.1
     refine zb U U (zG (vs:=[.pointer (some ⟨b3,o4,none⟩),.int .i64 p1]) en_136 (zm U (zm U zy)) (CallsH.mono H ?_))
     clear H
     rintro _ h44 ⟨x46,rfl,H⟩
     obtain⟨c47,H⟩:=H
     obtain⟨b49,o50,rfl,H⟩:=H
     obtain⟨c48,H⟩:=H
     obtain⟨x52,c53,H⟩:=H
     obtain⟨x54_0,x54_1,x54_2,x54_3,x54_4,x54_5,x54_6,x54_7,x54_8,c55,H⟩:=H
     refine⟨[(Value.pointer (some ⟨b3,o4,none⟩)),(Value.pointer (some ⟨b3,o4,none⟩)),(Value.pointer (some ⟨b3,o4,none⟩)),(Value.slice (some ⟨b49,o50,none⟩) x42n x42c),(Value.pointer (some ⟨b3,o4,none⟩)),(Value.int .i64 p1),(Value.int .i64 x46),(Value.pointer (some ⟨b49,o50+x46.toNat * 1,none⟩)),x52,(Value.agg #[.int .i64 x54_0,.int .i64 x54_1,.int .i64 x54_2,.int .u64 x54_3,.int .i64 x54_4,.int .i64 x54_5,.bool x54_6,.bool x54_7,.int .i64 x54_8]),undef,undef],rfl,(zH [0,1,2,3,4,5] rfl ⟨rfl,rfl,rfl,rfl,rfl,rfl,trivial⟩),?_⟩
     refine zA [10] (by decide) U (zw [0,1,2,3,7,8,9] U ⟨zb U U (zd (v:=.pointer (some ⟨b3,o4,none⟩)) e0 ⟨U,U⟩),zb U U (zj U ⟨U,U⟩),zb U U (zf U fo_257_0 ⟨U,U⟩),zb U U (zk U ag_255 c47 ⟨U,U⟩),zb U U (zE U U ei_255 c48 ⟨U,U⟩),zb U U (zk U ag_20 c53 ⟨U,U⟩),zb U U (op_typeAssert is_63 (Eq.trans U c55) ⟨U,U⟩),V⟩) U ⟨?_,V⟩
     obtain⟨h56,c57⟩ : ∃ h56,h56=h44.push (.cells #[.int .i64 0,.int .i64 0,.int .i64 0,.int .u64 0,.int .i64 0,.int .i64 0,.bool false,.bool false,.int .i64 0] 63 (0,0)):=⟨_,rfl⟩
     replace H:=H h56 c57
     refine zb U U (zW z_63 c57 ?_)
     obtain⟨c58,H⟩:=H
     obtain⟨c59,H⟩:=H
     refine⟨[(Value.pointer (some ⟨b3,o4,none⟩)),(Value.pointer (some ⟨b3,o4,none⟩)),(Value.pointer (some ⟨b3,o4,none⟩)),(Value.slice (some ⟨b49,o50,none⟩) x42n x42c),(Value.pointer (some ⟨b3,o4,none⟩)),(Value.int .i64 p1),(Value.int .i64 x46),(Value.pointer (some ⟨b49,o50+x46.toNat * 1,none⟩)),x52,(Value.agg #[.int .i64 x54_0,.int .i64 x54_1,.int .i64 x54_2,.int .u64 x54_3,.int .i64 x54_4,.int .i64 x54_5,.bool x54_6,.bool x54_7,.int .i64 x54_8]),(Value.pointer (some ⟨h44.size,0,none⟩)),undef],rfl,(zH [0,1,2,3,4,5,6,7,8,9] rfl ⟨rfl,rfl,rfl,rfl,rfl,rfl,rfl,rfl,rfl,rfl,trivial⟩),?_⟩
     refine zA [11] (by decide) U (zw [0,1,2,3,7,8,9] U ⟨zb U U (zd (v:=.pointer (some ⟨b3,o4,none⟩)) e0 ⟨U,U⟩),zb U U (zj U ⟨U,U⟩),zb U U (zf U fo_257_0 ⟨U,U⟩),zb U U (zk U ag_255 c58 ⟨U,U⟩),zb U U (zE U U ei_255 c48 ⟨U,U⟩),zb U U (zk U ag_20 c59 ⟨U,U⟩),zb U U (op_typeAssert is_63 (Eq.trans U c55) ⟨U,U⟩),V⟩) U ⟨?_,V⟩
     obtain⟨h61,c60,H⟩:=H
     refine zb U U (zI (v:=.agg #[.int .i64 x54_0,.int .i64 x54_1,.int .i64 x54_2,.int .u64 x54_3,.int .i64 x54_4,.int .i64 x54_5,.bool x54_6,.bool x54_7,.int .i64 x54_8]) U U sz_63 U c60 ?_)
     refine⟨[(Value.pointer (some ⟨b3,o4,none⟩)),(Value.pointer (some ⟨b3,o4,none⟩)),(Value.pointer (some ⟨b3,o4,none⟩)),(Value.slice (some ⟨b49,o50,none⟩) x42n x42c),(Value.pointer (some ⟨b3,o4,none⟩)),(Value.int .i64 p1),(Value.int .i64 x46),(Value.pointer (some ⟨b49,o50+x46.toNat * 1,none⟩)),x52,(Value.agg #[.int .i64 x54_0,.int .i64 x54_1,.int .i64 x54_2,.int .u64 x54_3,.int .i64 x54_4,.int .i64 x54_5,.bool x54_6,.bool x54_7,.int .i64 x54_8]),(Value.pointer (some ⟨h44.size,0,none⟩)),undef],rfl,(zH [0,1,2,3,4,5,6,7,8,9,10] rfl ⟨rfl,rfl,rfl,rfl,rfl,rfl,rfl,rfl,rfl,rfl,rfl,trivial⟩),?_⟩
     refine zJ U (zw [] U V) U ?_
     exact hin14 _ _ _ rfl e0 e1 e2 H
    ·replace H:=H.2
     obtain⟨h62,c63⟩ : ∃ h62,h62=h.push (.cells #[.int .i64 0,.int .i64 0,.int .i64 0,.int .u64 0,.int .i64 0,.int .i64 0,.bool false,.bool false,.int .i64 0] 63 (0,0)):=⟨_,rfl⟩
     replace H:=H h62 c63
     refine zb U U (zW z_63 c63 ?_)
     obtain⟨c64,H⟩:=H
     refine⟨[(Value.pointer (some ⟨b3,o4,none⟩)),(Value.pointer (some ⟨b3,o4,none⟩)),(Value.pointer (some ⟨b3,o4,none⟩)),(Value.slice x42a x42n x42c),(Value.pointer (some ⟨b3,o4,none⟩)),(Value.int .i64 p1),undef,undef,undef,undef,(Value.pointer (some ⟨h.size,0,none⟩)),undef],rfl,(zH [0,1,2,3,4,5] rfl ⟨rfl,rfl,rfl,rfl,rfl,rfl,trivial⟩),?_⟩
     refine zA [6] (by decide) U (zw [0,1,2,3,4,5] U ⟨zb U U (zd (v:=.pointer (some ⟨b3,o4,none⟩)) e0 ⟨U,U⟩),zb U U (zj U ⟨U,U⟩),zb U U (zf U fo_257_0 ⟨U,U⟩),zb U U (zk U ag_255 c64 ⟨U,U⟩),zb U U (zd (v:=.pointer (some ⟨b3,o4,none⟩)) e0 ⟨U,U⟩),zb U U (zd (v:=.int .i64 p1) e1 ⟨U,U⟩),V⟩) U ⟨?_,V⟩
     refine zb U U (zG (vs:=[.pointer (some ⟨b3,o4,none⟩),.int .i64 p1]) en_136 (zm U (zm U zy)) (CallsH.mono H ?_))
     clear H
     rintro _ h65 ⟨x67,rfl,H⟩
     obtain⟨c68,H⟩:=H
     obtain⟨b70,o71,rfl,H⟩:=H
     obtain⟨c69,H⟩:=H
     obtain⟨x73,c74,H⟩:=H
     obtain⟨x75_0,x75_1,x75_2,x75_3,x75_4,x75_5,x75_6,x75_7,x75_8,c76,H⟩:=H
     refine⟨[(Value.pointer (some ⟨b3,o4,none⟩)),(Value.pointer (some ⟨b3,o4,none⟩)),(Value.pointer (some ⟨b3,o4,none⟩)),(Value.slice (some ⟨b70,o71,none⟩) x42n x42c),(Value.pointer (some ⟨b3,o4,none⟩)),(Value.int .i64 p1),(Value.int .i64 x67),(Value.pointer (some ⟨b70,o71+x67.toNat * 1,none⟩)),x73,(Value.agg #[.int .i64 x75_0,.int .i64 x75_1,.int .i64 x75_2,.int .u64 x75_3,.int .i64 x75_4,.int .i64 x75_5,.bool x75_6,.bool x75_7,.int .i64 x75_8]),(Value.pointer (some ⟨h.size,0,none⟩)),undef],rfl,(zH [0,1,2,3,4,5,10] rfl ⟨rfl,rfl,rfl,rfl,rfl,rfl,rfl,trivial⟩),?_⟩
     refine zA [11] (by decide) U (zw [0,1,2,3,7,8,9] U ⟨zb U U (zd (v:=.pointer (some ⟨b3,o4,none⟩)) e0 ⟨U,U⟩),zb U U (zj U ⟨U,U⟩),zb U U (zf U fo_257_0 ⟨U,U⟩),zb U U (zk U ag_255 c68 ⟨U,U⟩),zb U U (zE U U ei_255 c69 ⟨U,U⟩),zb U U (zk U ag_20 c74 ⟨U,U⟩),zb U U (op_typeAssert is_63 (Eq.trans U c76) ⟨U,U⟩),V⟩) U ⟨?_,V⟩
     obtain⟨h78,c77,H⟩:=H
     refine zb U U (zI (v:=.agg #[.int .i64 x75_0,.int .i64 x75_1,.int .i64 x75_2,.int .u64 x75_3,.int .i64 x75_4,.int .i64 x75_5,.bool x75_6,.bool x75_7,.int .i64 x75_8]) U U sz_63 U c77 ?_)
     refine⟨[(Value.pointer (some ⟨b3,o4,none⟩)),(Value.pointer (some ⟨b3,o4,none⟩)),(Value.pointer (some ⟨b3,o4,none⟩)),(Value.slice (some ⟨b70,o71,none⟩) x42n x42c),(Value.pointer (some ⟨b3,o4,none⟩)),(Value.int .i64 p1),(Value.int .i64 x67),(Value.pointer (some ⟨b70,o71+x67.toNat * 1,none⟩)),x73,(Value.agg #[.int .i64 x75_0,.int .i64 x75_1,.int .i64 x75_2,.int .u64 x75_3,.int .i64 x75_4,.int .i64 x75_5,.bool x75_6,.bool x75_7,.int .i64 x75_8]),(Value.pointer (some ⟨h.size,0,none⟩)),undef],rfl,(zH [0,1,2,3,4,5,6,7,8,9,10] rfl ⟨rfl,rfl,rfl,rfl,rfl,rfl,rfl,rfl,rfl,rfl,rfl,trivial⟩),?_⟩
     refine zJ U (zw [] U V) U ?_
     exact hin14 _ _ _ rfl e0 e1 e2 H
   ·clear H
    intro f h15 hf
    obtain⟨x12,a14_0,a14_1,a14_2,a14_3,hJ⟩:=hout14 _ _ hf
    have H:=HR x12 h15 hJ
    refine ze ?_
    refine ze ?_
    refine zc U ?_
    obtain⟨b16,o17,rfl,H⟩:=H
    refine za (zf a14_0 fo_63_6 ?_)
    obtain⟨x19,c20,H⟩:=H
    refine za (zk U ag_4 c20 ?_)
    refine zh ?_
    refine zz (x19) U ?_ ?_
    ·intro hb
     replace H:=H.1 hb
     refine ze ?_
     refine zc U ?_
     refine za (zg (v:=.int .i64 12) U ?_)
     refine zh ?_
     refine zx ?_
     exact zv (zq U zu) H
    ·intro hb
     replace H:=H.2 hb
     refine zC ?_
     refine ze ?_
     refine zc U ?_
     refine za (zd (v:=.int .i64 p2) a14_3 ?_)
     refine za (zf a14_0 fo_63_5 ?_)
     obtain⟨h22,c21,H⟩:=H
     refine za (zI (v:=.bool false) U U sz_4 U c21 ?_)
     refine za (zf a14_0 fo_63_6 ?_)
     obtain⟨h24,c23,H⟩:=H
     refine za (zI (v:=.bool true) U U sz_4 U c23 ?_)
     refine za (zf a14_0 fo_63_7 ?_)
     obtain⟨h26,c25,H⟩:=H
     refine za (zI (v:=.int .i64 p2) U U sz_3 U c25 ?_)
     refine zh ?_
     refine ze ?_
     obtain⟨x27a,x27n,x27c,c28,H⟩:=H
     obtain⟨x29_0,x29_1,x29_2,x29_3,x29_4,x29_5,x29_6,x29_7,x29_8,c30,H⟩:=H
     refine zO Ggx 2 [(Y (some ⟨b3,o4,none⟩)),(Y (some ⟨b3,o4,none⟩)),(Y (some ⟨b3,o4,none⟩)),(T x27a x27n x27c),(Y (some ⟨b3,o4,none⟩)),(Z .i64 p1),undef,(X #[.int .i64 x29_0,.int .i64 x29_1,.int .i64 x29_2,.int .u64 x29_3,.int .i64 x29_4,.int .i64 x29_5,.bool x29_6,.bool x29_7,.int .i64 x29_8]),(Value.iface 63 (X #[.int .i64 x29_0,.int .i64 x29_1,.int .i64 x29_2,.int .u64 x29_3,.int .i64 x29_4,.int .i64 x29_5,.bool x29_6,.bool x29_7,.int .i64 x29_8])),undef,undef] (by kernel_rfl) U mixed_PR ?_
     refine zA [6] (by decide) U (zw [0,1,2,3,4,5,7,8] U ⟨zb U U (zd (v:=.pointer (some ⟨b3,o4,none⟩)) a14_1 ⟨U,U⟩),zb U U (zj U ⟨U,U⟩),zb U U (zf U fo_257_0 ⟨U,U⟩),zb U U (zk U ag_255 c28 ⟨U,U⟩),zb U U (zd (v:=.pointer (some ⟨b3,o4,none⟩)) a14_1 ⟨U,U⟩),zb U U (zd (v:=.int .i64 p1) a14_2 ⟨U,U⟩),zb U U (zS a14_0 ag_63 c30 ⟨U,U⟩),zb U U (op_makeInterface' (v:=.agg #[.int .i64 x29_0,.int .i64 x29_1,.int .i64 x29_2,.int .u64 x29_3,.int .i64 x29_4,.int .i64 x29_5,.bool x29_6,.bool x29_7,.int .i64 x29_8]) cn_63 U ⟨U,U⟩),V⟩) U ⟨?_,V⟩
     refine zb U U (zG (vs:=[.pointer (some ⟨b3,o4,none⟩),.int .i64 p1]) en_136 (zm U (zm U zy)) (CallsH.mono H ?_))
     clear H
     rintro _ h31 ⟨x33,rfl,H⟩
     obtain⟨c34,H⟩:=H
     obtain⟨c35,H⟩:=H
     obtain⟨b37,o38,rfl,H⟩:=H
     obtain⟨c36,H⟩:=H
     refine⟨[(Value.pointer (some ⟨b3,o4,none⟩)),(Value.pointer (some ⟨b3,o4,none⟩)),(Value.pointer (some ⟨b3,o4,none⟩)),(Value.slice (some ⟨b37,o38,none⟩) x27n x27c),(Value.pointer (some ⟨b3,o4,none⟩)),(Value.int .i64 p1),(Value.int .i64 x33),(Value.agg #[.int .i64 x29_0,.int .i64 x29_1,.int .i64 x29_2,.int .u64 x29_3,.int .i64 x29_4,.int .i64 x29_5,.bool x29_6,.bool x29_7,.int .i64 x29_8]),(Value.iface 63 (Value.agg #[.int .i64 x29_0,.int .i64 x29_1,.int .i64 x29_2,.int .u64 x29_3,.int .i64 x29_4,.int .i64 x29_5,.bool x29_6,.bool x29_7,.int .i64 x29_8])),(Value.pointer (some ⟨b37,o38+x33.toNat * 1,none⟩)),undef],rfl,(zH [0,1,2,3,4,5,7,8] rfl ⟨rfl,rfl,rfl,rfl,rfl,rfl,rfl,rfl,trivial⟩),?_⟩
     refine zA [10] (by decide) U (zw [0,1,2,3,7,8,9] U ⟨zb U U (zd (v:=.pointer (some ⟨b3,o4,none⟩)) a14_1 ⟨U,U⟩),zb U U (zj U ⟨U,U⟩),zb U U (zf U fo_257_0 ⟨U,U⟩),zb U U (zk U ag_255 c34 ⟨U,U⟩),zb U U (zS a14_0 ag_63 c35 ⟨U,U⟩),zb U U (op_makeInterface' (v:=.agg #[.int .i64 x29_0,.int .i64 x29_1,.int .i64 x29_2,.int .u64 x29_3,.int .i64 x29_4,.int .i64 x29_5,.bool x29_6,.bool x29_7,.int .i64 x29_8]) cn_63 U ⟨U,U⟩),zb U U (zE U U ei_255 c36 ⟨U,U⟩),V⟩) U ⟨?_,V⟩
     obtain⟨h41,c40,H⟩:=H
     refine zb U U (zI (v:=(Value.iface 63 (X #[.int .i64 x29_0,.int .i64 x29_1,.int .i64 x29_2,.int .u64 x29_3,.int .i64 x29_4,.int .i64 x29_5,.bool x29_6,.bool x29_7,.int .i64 x29_8]))) U U sz_20 U c40 ?_)
     refine⟨[(Value.pointer (some ⟨b3,o4,none⟩)),(Value.pointer (some ⟨b3,o4,none⟩)),(Value.pointer (some ⟨b3,o4,none⟩)),(Value.slice (some ⟨b37,o38,none⟩) x27n x27c),(Value.pointer (some ⟨b3,o4,none⟩)),(Value.int .i64 p1),(Value.int .i64 x33),(Value.agg #[.int .i64 x29_0,.int .i64 x29_1,.int .i64 x29_2,.int .u64 x29_3,.int .i64 x29_4,.int .i64 x29_5,.bool x29_6,.bool x29_7,.int .i64 x29_8]),(Value.iface 63 (Value.agg #[.int .i64 x29_0,.int .i64 x29_1,.int .i64 x29_2,.int .u64 x29_3,.int .i64 x29_4,.int .i64 x29_5,.bool x29_6,.bool x29_7,.int .i64 x29_8])),(Value.pointer (some ⟨b37,o38+x33.toNat * 1,none⟩)),undef],rfl,(zH [0,1,2,3,4,5,6,7,8,9] rfl ⟨rfl,rfl,rfl,rfl,rfl,rfl,rfl,rfl,rfl,rfl,trivial⟩),?_⟩
     refine zJ U (zw [] U V) U ?_
     refine ze ?_
     refine zc U ?_
     refine za (zg (v:=.int .i64 0) U ?_)
     refine zh ?_
     refine zx ?_
     exact zv (zq U zu) H
def Gh1:Cert:=⟨[[],[0],[0,1],[0,1,2],[],[],[5],[5,6],[5,6,7],[4,5,6,7,8],[0,1,2,3,4,5,6,7,8,9],[0,1,2,3,4,5,6,7,8,9,10],[0,1,2,3,4,5,6,7,8,9,10,11],[0,1,2,3,4,5,6,7,8,9,10,11,12],[0,1,2,3,4,5,6,7,8,9,10,11,12,13],[0,1,2,3,4,5,6,7,8,9,10,11,12,13],[],[0,1,2,3,4,5,6,7,8,9,10,11,12,13,14,16],[0,1,2,3,4,5,6,7,8,9,10,11,12,13,14,15,16,17]],[false,false,false,false,false,false,false,false,false,true,false,false,false,false,false,false,true,true,false]⟩
def Gh2:Cert:=⟨[[],[0],[0,1],[0,1,2],[],[],[5],[5,6],[5,6,7],[4,5,6,7,8],[0,1,2,3,4,5,6,7,8,9],[0,1,2,3,4,5,6,7,8,9,10]],[false,false,false,false,false,false,false,false,false,true,false,true]⟩
def Ge8 (p0:Option Addr) (K:Int→Int→Int→Int→Int→Int→Bool→Bool→Int→Int→Heap→Prop) (h:Heap):Prop:=
 ∀ (h1:Heap),h1=h.push (.cells #[.int .i64 0,.int .i64 0,.int .i64 0,.int .u64 0,.int .i64 0,.int .i64 0,.bool false,.bool false,.int .i64 0] 63 (0,0))→∃ J5:Option Addr→Bool→Heap→Prop,(∀ (x3:Option Addr) (x4:Bool) (h7:Heap),J5 x3 x4 h7→(x4=false→∃ (h9:Heap),stCells h.size h7 0 [.int .i64 0,.int .i64 0,.int .i64 0,.int .u64 0,.int .i64 0,.int .i64 0,.bool false,.bool false,.int .i64 0]=some h9∧∃ (x10_0:Int) (x10_1:Int) (x10_2:Int) (x10_3:Int) (x10_4:Int) (x10_5:Int) (x10_6:Bool) (x10_7:Bool) (x10_8:Int),ldCells h9 h.size 0 9=some [.int .i64 x10_0,.int .i64 x10_1,.int .i64 x10_2,.int .u64 x10_3,.int .i64 x10_4,.int .i64 x10_5,.bool x10_6,.bool x10_7,.int .i64 x10_8]∧K x10_0 x10_1 x10_2 x10_3 x10_4 x10_5 x10_6 x10_7 x10_8 5 h9)∧(x4=true→∃ (b12:Nat) (o13:Nat),x3=some ⟨b12,o13,none⟩∧∃ (x15:Bool),cellH h7 b12 (o13+7)=some (.bool x15)∧(x15=false→∃ (h18:Heap),stCells h.size h7 0 [.int .i64 0,.int .i64 0,.int .i64 0,.int .u64 0,.int .i64 0,.int .i64 0,.bool false,.bool false,.int .i64 0]=some h18∧∃ (x19_0:Int) (x19_1:Int) (x19_2:Int) (x19_3:Int) (x19_4:Int) (x19_5:Int) (x19_6:Bool) (x19_7:Bool) (x19_8:Int),ldCells h18 h.size 0 9=some [.int .i64 x19_0,.int .i64 x19_1,.int .i64 x19_2,.int .u64 x19_3,.int .i64 x19_4,.int .i64 x19_5,.bool x19_6,.bool x19_7,.int .i64 x19_8]∧K x19_0 x19_1 x19_2 x19_3 x19_4 x19_5 x19_6 x19_7 x19_8 10 h18)∧(x15=true→∃ (b21:Nat) (o22:Nat),p0=some ⟨b21,o22,none⟩∧∃ (x24a:Option Addr) (x24n:Nat) (x24c:Nat),cellH h7 b21 o22=some (.slice x24a x24n x24c)∧∃ (x26:Int),cellH h7 b21 (o22+3)=some (.int .i64 x26)∧CallsH PR Gmb #[.pointer (some ⟨b21,o22,none⟩),.int .i64 x26] h7 (fun v h28=>∃ (x30:Int),v=(Value.int .i64 x30)∧cellH h28 b21 o22=some (Value.slice x24a x24n x24c)∧∃ (b33:Nat) (o34:Nat),x24a=some ⟨b33,o34,none⟩∧(0≤x30∧x30<(x24n:Int))∧∃ (h37:Heap),stCells b33 h28 (o34+x30.toNat * 1) [Value.nilIface]=some h37∧∃ (x38:Int),cellH h37 b21 (o22+3)=some (.int .i64 x38)∧(-9223372036854775808≤x38+1∧x38+1<9223372036854775808)∧∃ (h42:Heap),stCells b21 h37 (o22+3) [.int .i64 (x38+1)]=some h42∧∃ (x43_0:Int) (x43_1:Int) (x43_2:Int) (x43_3:Int) (x43_4:Int) (x43_5:Int) (x43_6:Bool) (x43_7:Bool) (x43_8:Int),ldCells h42 b12 o13 9=some [.int .i64 x43_0,.int .i64 x43_1,.int .i64 x43_2,.int .u64 x43_3,.int .i64 x43_4,.int .i64 x43_5,.bool x43_6,.bool x43_7,.int .i64 x43_8]∧∃ (h46:Heap),stCells h.size h42 0 [.int .i64 x43_0,.int .i64 x43_1,.int .i64 x43_2,.int .u64 x43_3,.int .i64 x43_4,.int .i64 x43_5,.bool x43_6,.bool x43_7,.int .i64 x43_8]=some h46∧∃ (x47_0:Int) (x47_1:Int) (x47_2:Int) (x47_3:Int) (x47_4:Int) (x47_5:Int) (x47_6:Bool) (x47_7:Bool) (x47_8:Int),ldCells h46 h.size 0 9=some [.int .i64 x47_0,.int .i64 x47_1,.int .i64 x47_2,.int .u64 x47_3,.int .i64 x47_4,.int .i64 x47_5,.bool x47_6,.bool x47_7,.int .i64 x47_8]∧K x47_0 x47_1 x47_2 x47_3 x47_4 x47_5 x47_6 x47_7 x47_8 0 h46))))∧∃ (b49:Nat) (o50:Nat),p0=some ⟨b49,o50,none⟩∧∃ (x52a:Option Addr) (x52n:Nat) (x52c:Nat),cellH h1 b49 o50=some (.slice x52a x52n x52c)∧∃ (x54:Int),cellH h1 b49 (o50+3)=some (.int .i64 x54)∧(CallsH PR Gmb #[.pointer (some ⟨b49,o50,none⟩),.int .i64 x54] h1 (fun v h56=>∃ (x58:Int),v=(Value.int .i64 x58)∧cellH h56 b49 o50=some (Value.slice x52a x52n x52c)∧∃ (b61:Nat) (o62:Nat),x52a=some ⟨b61,o62,none⟩∧(0≤x58∧x58<(x52n:Int))∧∃ (x64:Value),cellH h56 b61 (o62+x58.toNat * 1)=some x64∧∃ (x66_0:Int) (x66_1:Int) (x66_2:Int) (x66_3:Int) (x66_4:Int) (x66_5:Int) (x66_6:Bool) (x66_7:Bool) (x66_8:Int) (ok68:Bool),taH 63 (Value.agg #[.int .i64 0,.int .i64 0,.int .i64 0,.int .u64 0,.int .i64 0,.int .i64 0,.bool false,.bool false,.int .i64 0]) x64 (Value.agg #[.int .i64 x66_0,.int .i64 x66_1,.int .i64 x66_2,.int .u64 x66_3,.int .i64 x66_4,.int .i64 x66_5,.bool x66_6,.bool x66_7,.int .i64 x66_8]) ok68∧∀ (h69:Heap),h69=h56.push (.cells #[.int .i64 0,.int .i64 0,.int .i64 0,.int .u64 0,.int .i64 0,.int .i64 0,.bool false,.bool false,.int .i64 0] 63 (0,0))→cellH h69 b49 o50=some (Value.slice (some ⟨b61,o62,none⟩) x52n x52c)∧cellH h69 b61 (o62+x58.toNat * 1)=some x64∧∃ (h74:Heap),stCells h56.size h69 0 [.int .i64 x66_0,.int .i64 x66_1,.int .i64 x66_2,.int .u64 x66_3,.int .i64 x66_4,.int .i64 x66_5,.bool x66_6,.bool x66_7,.int .i64 x66_8]=some h74∧J5 (some ⟨h56.size,0,none⟩) ok68 h74))∧(∀ (h75:Heap),h75=h1.push (.cells #[.int .i64 0,.int .i64 0,.int .i64 0,.int .u64 0,.int .i64 0,.int .i64 0,.bool false,.bool false,.int .i64 0] 63 (0,0))→cellH h75 b49 o50=some (Value.slice x52a x52n x52c)∧cellH h75 b49 (o50+3)=some (Value.int .i64 x54)∧CallsH PR Gmb #[.pointer (some ⟨b49,o50,none⟩),.int .i64 x54] h75 (fun v h79=>∃ (x81:Int),v=(Value.int .i64 x81)∧cellH h79 b49 o50=some (Value.slice x52a x52n x52c)∧∃ (b84:Nat) (o85:Nat),x52a=some ⟨b84,o85,none⟩∧(0≤x81∧x81<(x52n:Int))∧∃ (x87:Value),cellH h79 b84 (o85+x81.toNat * 1)=some x87∧∃ (x89_0:Int) (x89_1:Int) (x89_2:Int) (x89_3:Int) (x89_4:Int) (x89_5:Int) (x89_6:Bool) (x89_7:Bool) (x89_8:Int) (ok91:Bool),taH 63 (Value.agg #[.int .i64 0,.int .i64 0,.int .i64 0,.int .u64 0,.int .i64 0,.int .i64 0,.bool false,.bool false,.int .i64 0]) x87 (Value.agg #[.int .i64 x89_0,.int .i64 x89_1,.int .i64 x89_2,.int .u64 x89_3,.int .i64 x89_4,.int .i64 x89_5,.bool x89_6,.bool x89_7,.int .i64 x89_8]) ok91∧∃ (h93:Heap),stCells h1.size h79 0 [.int .i64 x89_0,.int .i64 x89_1,.int .i64 x89_2,.int .u64 x89_3,.int .i64 x89_4,.int .i64 x89_5,.bool x89_6,.bool x89_7,.int .i64 x89_8]=some h93∧J5 (some ⟨h1.size,0,none⟩) ok91 h93))
theorem Ge9 (p0:Option Addr) (R:Value→Heap→Prop) (h:Heap) (H:Ge8 p0 (fun r0_0 r0_1 r0_2 r0_3 r0_4 r0_5 r0_6 r0_7 r0_8 r1 h'=>R (Value.tuple #[.agg #[.int .i64 r0_0,.int .i64 r0_1,.int .i64 r0_2,.int .u64 r0_3,.int .i64 r0_4,.int .i64 r0_5,.bool r0_6,.bool r0_7,.int .i64 r0_8],.int .i64 r1]) h') h):CallsH PR Gm9 #[.pointer p0] h R:=by
 refine zD (args:=[.pointer p0]) Tryz.func75 U U ?_
 intro f hf
 have e0:=hf 0 _ rfl
 clear hf
 unfold Ge8 at H
 refine ze ?_
 refine zc U ?_
 obtain⟨h1,c2⟩ : ∃ h1,h1=h.push (.cells #[.int .i64 0,.int .i64 0,.int .i64 0,.int .u64 0,.int .i64 0,.int .i64 0,.bool false,.bool false,.int .i64 0] 63 (0,0)):=⟨_,rfl⟩
 replace H:=H h1 c2
 refine za (zW z_63 c2 ?_)
 refine za (zg (v:=.int .i64 0) U ?_)
 refine zh ?_
 refine ze ?_
 obtain⟨J5,HR,H⟩:=H
 obtain⟨J6,hin6,hout6⟩ : ∃ J6:Fr→Heap→Prop,(∀ f hz (x3:Option Addr) (x4:Bool),f 4 = .pointer x3→f 5 = .bool x4→f 0 = .pointer p0→f 2 = .pointer (some ⟨h.size,0,none⟩)→J5 x3 x4 hz→J6 f hz)∧(∀ f hz,J6 f hz→∃ (x3:Option Addr) (x4:Bool),f 4 = .pointer x3∧f 5 = .bool x4∧f 0 = .pointer p0∧f 2 = .pointer (some ⟨h.size,0,none⟩)∧J5 x3 x4 hz):=⟨fun f hz=>∃ (x3:Option Addr) (x4:Bool),f 4 = .pointer x3∧f 5 = .bool x4∧f 0 = .pointer p0∧f 2 = .pointer (some ⟨h.size,0,none⟩)∧J5 x3 x4 hz,fun _ _ x3 x4 a0 a1 a2 a3 z=>⟨x3,x4,a0,a1,a2,a3,z⟩,fun _ _ hz=>hz⟩
 refine wpf_cut J6 ?_ ?_
 ·skip
  obtain⟨b49,o50,rfl,H⟩:=H
  obtain⟨x52a,x52n,x52c,c53,H⟩:=H
  obtain⟨x54,c55,H⟩:=H
  refine zO Gh1 3 [(Y (some ⟨b49,o50,none⟩)),(Y (some ⟨b49,o50,none⟩)),(Y (some ⟨b49,o50,none⟩)),(T x52a x52n x52c),(Y (some ⟨b49,o50,none⟩)),(Y (some ⟨b49,o50,none⟩)),(Y (some ⟨b49,o50,none⟩)),(Y (some ⟨b49,o50+3,none⟩)),(Z .i64 x54),undef,undef,undef,undef,undef,undef,undef,undef,undef,undef] (by kernel_rfl) U mixed_PR ?_
  refine zA [9,16] (by decide) U (zw [0,1,2,3,4,5,6,7,8] U ⟨zb U U (zd (v:=.pointer (some ⟨b49,o50,none⟩)) e0 ⟨U,U⟩),zb U U (zj U ⟨U,U⟩),zb U U (zf U fo_257_0 ⟨U,U⟩),zb U U (zk U ag_255 c53 ⟨U,U⟩),zb U U (zd (v:=.pointer (some ⟨b49,o50,none⟩)) e0 ⟨U,U⟩),zb U U (zd (v:=.pointer (some ⟨b49,o50,none⟩)) e0 ⟨U,U⟩),zb U U (zj U ⟨U,U⟩),zb U U (zf U fo_257_3 ⟨U,U⟩),zb U U (zk U ag_3 c55 ⟨U,U⟩),V⟩) U ⟨?_,?_,V⟩
  ·replace H:=H.1
   refine zb U U (zG (vs:=[.pointer (some ⟨b49,o50,none⟩),.int .i64 x54]) en_136 (zm U (zm U zy)) (CallsH.mono H ?_))
   clear H
   rintro _ h56 ⟨x58,rfl,H⟩
   obtain⟨c59,H⟩:=H
   obtain⟨b61,o62,rfl,H⟩:=H
   obtain⟨c60,H⟩:=H
   obtain⟨x64,c65,H⟩:=H
   obtain⟨x66_0,x66_1,x66_2,x66_3,x66_4,x66_5,x66_6,x66_7,x66_8,ok68,c67,H⟩:=H
   refine⟨[(Value.pointer (some ⟨b49,o50,none⟩)),(Value.pointer (some ⟨b49,o50,none⟩)),(Value.pointer (some ⟨b49,o50,none⟩)),(Value.slice (some ⟨b61,o62,none⟩) x52n x52c),(Value.pointer (some ⟨b49,o50,none⟩)),(Value.pointer (some ⟨b49,o50,none⟩)),(Value.pointer (some ⟨b49,o50,none⟩)),(Value.pointer (some ⟨b49,o50+3,none⟩)),(Value.int .i64 x54),(Value.int .i64 x58),(Value.pointer (some ⟨b61,o62+x58.toNat * 1,none⟩)),x64,(Value.tuple #[.agg #[.int .i64 x66_0,.int .i64 x66_1,.int .i64 x66_2,.int .u64 x66_3,.int .i64 x66_4,.int .i64 x66_5,.bool x66_6,.bool x66_7,.int .i64 x66_8],.bool ok68]),(Value.tuple #[.agg #[.int .i64 x66_0,.int .i64 x66_1,.int .i64 x66_2,.int .u64 x66_3,.int .i64 x66_4,.int .i64 x66_5,.bool x66_6,.bool x66_7,.int .i64 x66_8],.bool ok68]),(Value.agg #[.int .i64 x66_0,.int .i64 x66_1,.int .i64 x66_2,.int .u64 x66_3,.int .i64 x66_4,.int .i64 x66_5,.bool x66_6,.bool x66_7,.int .i64 x66_8]),(Value.bool ok68),undef,undef,undef],rfl,(zH [0,1,2,3,4,5,6,7,8] rfl ⟨rfl,rfl,rfl,rfl,rfl,rfl,rfl,rfl,rfl,trivial⟩),?_⟩
   refine zA [16] (by decide) U (zw [0,1,2,3,10,11,12,13,14,15] U ⟨zb U U (zd (v:=.pointer (some ⟨b49,o50,none⟩)) e0 ⟨U,U⟩),zb U U (zj U ⟨U,U⟩),zb U U (zf U fo_257_0 ⟨U,U⟩),zb U U (zk U ag_255 c59 ⟨U,U⟩),zb U U (zE U U ei_255 c60 ⟨U,U⟩),zb U U (zk U ag_20 c65 ⟨U,U⟩),zb U U (op_typeAssert_ok (u:=x64) is_63 z_63 U c67 ⟨U,U⟩),zb U U (zd (v:=.tuple #[.agg #[.int .i64 x66_0,.int .i64 x66_1,.int .i64 x66_2,.int .u64 x66_3,.int .i64 x66_4,.int .i64 x66_5,.bool x66_6,.bool x66_7,.int .i64 x66_8],.bool ok68]) U ⟨U,U⟩),zb U U (zB U U ⟨U,U⟩),zb U U (zB U U ⟨U,U⟩),V⟩) U ⟨?_,V⟩
   obtain⟨h69,c70⟩ : ∃ h69,h69=h56.push (.cells #[.int .i64 0,.int .i64 0,.int .i64 0,.int .u64 0,.int .i64 0,.int .i64 0,.bool false,.bool false,.int .i64 0] 63 (0,0)):=⟨_,rfl⟩
   replace H:=H h69 c70
   refine zb U U (zW z_63 c70 ?_)
   obtain⟨c71,H⟩:=H
   obtain⟨c72,H⟩:=H
   refine⟨[(Value.pointer (some ⟨b49,o50,none⟩)),(Value.pointer (some ⟨b49,o50,none⟩)),(Value.pointer (some ⟨b49,o50,none⟩)),(Value.slice (some ⟨b61,o62,none⟩) x52n x52c),(Value.pointer (some ⟨b49,o50,none⟩)),(Value.pointer (some ⟨b49,o50,none⟩)),(Value.pointer (some ⟨b49,o50,none⟩)),(Value.pointer (some ⟨b49,o50+3,none⟩)),(Value.int .i64 x54),(Value.int .i64 x58),(Value.pointer (some ⟨b61,o62+x58.toNat * 1,none⟩)),x64,(Value.tuple #[.agg #[.int .i64 x66_0,.int .i64 x66_1,.int .i64 x66_2,.int .u64 x66_3,.int .i64 x66_4,.int .i64 x66_5,.bool x66_6,.bool x66_7,.int .i64 x66_8],.bool ok68]),(Value.tuple #[.agg #[.int .i64 x66_0,.int .i64 x66_1,.int .i64 x66_2,.int .u64 x66_3,.int .i64 x66_4,.int .i64 x66_5,.bool x66_6,.bool x66_7,.int .i64 x66_8],.bool ok68]),(Value.agg #[.int .i64 x66_0,.int .i64 x66_1,.int .i64 x66_2,.int .u64 x66_3,.int .i64 x66_4,.int .i64 x66_5,.bool x66_6,.bool x66_7,.int .i64 x66_8]),(Value.bool ok68),(Value.pointer (some ⟨h56.size,0,none⟩)),undef,undef],rfl,(zH [0,1,2,3,4,5,6,7,8,9,10,11,12,13,14,15] rfl ⟨rfl,rfl,rfl,rfl,rfl,rfl,rfl,rfl,rfl,rfl,rfl,rfl,rfl,rfl,rfl,rfl,trivial⟩),?_⟩
   refine zA [17] (by decide) U (zw [0,1,2,3,10,11,12,13,14,15] U ⟨zb U U (zd (v:=.pointer (some ⟨b49,o50,none⟩)) e0 ⟨U,U⟩),zb U U (zj U ⟨U,U⟩),zb U U (zf U fo_257_0 ⟨U,U⟩),zb U U (zk U ag_255 c71 ⟨U,U⟩),zb U U (zE U U ei_255 c60 ⟨U,U⟩),zb U U (zk U ag_20 c72 ⟨U,U⟩),zb U U (op_typeAssert_ok (u:=x64) is_63 z_63 U c67 ⟨U,U⟩),zb U U (zd (v:=.tuple #[.agg #[.int .i64 x66_0,.int .i64 x66_1,.int .i64 x66_2,.int .u64 x66_3,.int .i64 x66_4,.int .i64 x66_5,.bool x66_6,.bool x66_7,.int .i64 x66_8],.bool ok68]) U ⟨U,U⟩),zb U U (zB U U ⟨U,U⟩),zb U U (zB U U ⟨U,U⟩),V⟩) U ⟨?_,V⟩
   obtain⟨h74,c73,H⟩:=H
   refine zb U U (zI (v:=.agg #[.int .i64 x66_0,.int .i64 x66_1,.int .i64 x66_2,.int .u64 x66_3,.int .i64 x66_4,.int .i64 x66_5,.bool x66_6,.bool x66_7,.int .i64 x66_8]) U U sz_63 U c73 ?_)
   refine⟨[(Value.pointer (some ⟨b49,o50,none⟩)),(Value.pointer (some ⟨b49,o50,none⟩)),(Value.pointer (some ⟨b49,o50,none⟩)),(Value.slice (some ⟨b61,o62,none⟩) x52n x52c),(Value.pointer (some ⟨b49,o50,none⟩)),(Value.pointer (some ⟨b49,o50,none⟩)),(Value.pointer (some ⟨b49,o50,none⟩)),(Value.pointer (some ⟨b49,o50+3,none⟩)),(Value.int .i64 x54),(Value.int .i64 x58),(Value.pointer (some ⟨b61,o62+x58.toNat * 1,none⟩)),x64,(Value.tuple #[.agg #[.int .i64 x66_0,.int .i64 x66_1,.int .i64 x66_2,.int .u64 x66_3,.int .i64 x66_4,.int .i64 x66_5,.bool x66_6,.bool x66_7,.int .i64 x66_8],.bool ok68]),(Value.tuple #[.agg #[.int .i64 x66_0,.int .i64 x66_1,.int .i64 x66_2,.int .u64 x66_3,.int .i64 x66_4,.int .i64 x66_5,.bool x66_6,.bool x66_7,.int .i64 x66_8],.bool ok68]),(Value.agg #[.int .i64 x66_0,.int .i64 x66_1,.int .i64 x66_2,.int .u64 x66_3,.int .i64 x66_4,.int .i64 x66_5,.bool x66_6,.bool x66_7,.int .i64 x66_8]),(Value.bool ok68),(Value.pointer (some ⟨h56.size,0,none⟩)),undef,(Value.bool ok68)],rfl,(zH [0,1,2,3,4,5,6,7,8,9,10,11,12,13,14,15,16] rfl ⟨rfl,rfl,rfl,rfl,rfl,rfl,rfl,rfl,rfl,rfl,rfl,rfl,rfl,rfl,rfl,rfl,rfl,trivial⟩),?_⟩
   refine zJ U (zw [15,18] U ⟨zb U U (zB U U ⟨U,U⟩),zb U U (zg (v:=.bool ok68) U ⟨U,U⟩),V⟩) U ?_
   exact hin6 _ _ _ _ rfl rfl e0 rfl H
  ·replace H:=H.2
   obtain⟨h75,c76⟩ : ∃ h75,h75=h1.push (.cells #[.int .i64 0,.int .i64 0,.int .i64 0,.int .u64 0,.int .i64 0,.int .i64 0,.bool false,.bool false,.int .i64 0] 63 (0,0)):=⟨_,rfl⟩
   replace H:=H h75 c76
   refine zb U U (zW z_63 c76 ?_)
   obtain⟨c77,H⟩:=H
   obtain⟨c78,H⟩:=H
   refine⟨[(Value.pointer (some ⟨b49,o50,none⟩)),(Value.pointer (some ⟨b49,o50,none⟩)),(Value.pointer (some ⟨b49,o50,none⟩)),(Value.slice x52a x52n x52c),(Value.pointer (some ⟨b49,o50,none⟩)),(Value.pointer (some ⟨b49,o50,none⟩)),(Value.pointer (some ⟨b49,o50,none⟩)),(Value.pointer (some ⟨b49,o50+3,none⟩)),(Value.int .i64 x54),undef,undef,undef,undef,undef,undef,undef,(Value.pointer (some ⟨h1.size,0,none⟩)),undef,undef],rfl,(zH [0,1,2,3,4,5,6,7,8] rfl ⟨rfl,rfl,rfl,rfl,rfl,rfl,rfl,rfl,rfl,trivial⟩),?_⟩
   refine zA [9] (by decide) U (zw [0,1,2,3,4,5,6,7,8] U ⟨zb U U (zd (v:=.pointer (some ⟨b49,o50,none⟩)) e0 ⟨U,U⟩),zb U U (zj U ⟨U,U⟩),zb U U (zf U fo_257_0 ⟨U,U⟩),zb U U (zk U ag_255 c77 ⟨U,U⟩),zb U U (zd (v:=.pointer (some ⟨b49,o50,none⟩)) e0 ⟨U,U⟩),zb U U (zd (v:=.pointer (some ⟨b49,o50,none⟩)) e0 ⟨U,U⟩),zb U U (zj U ⟨U,U⟩),zb U U (zf U fo_257_3 ⟨U,U⟩),zb U U (zk U ag_3 c78 ⟨U,U⟩),V⟩) U ⟨?_,V⟩
   refine zb U U (zG (vs:=[.pointer (some ⟨b49,o50,none⟩),.int .i64 x54]) en_136 (zm U (zm U zy)) (CallsH.mono H ?_))
   clear H
   rintro _ h79 ⟨x81,rfl,H⟩
   obtain⟨c82,H⟩:=H
   obtain⟨b84,o85,rfl,H⟩:=H
   obtain⟨c83,H⟩:=H
   obtain⟨x87,c88,H⟩:=H
   obtain⟨x89_0,x89_1,x89_2,x89_3,x89_4,x89_5,x89_6,x89_7,x89_8,ok91,c90,H⟩:=H
   refine⟨[(Value.pointer (some ⟨b49,o50,none⟩)),(Value.pointer (some ⟨b49,o50,none⟩)),(Value.pointer (some ⟨b49,o50,none⟩)),(Value.slice (some ⟨b84,o85,none⟩) x52n x52c),(Value.pointer (some ⟨b49,o50,none⟩)),(Value.pointer (some ⟨b49,o50,none⟩)),(Value.pointer (some ⟨b49,o50,none⟩)),(Value.pointer (some ⟨b49,o50+3,none⟩)),(Value.int .i64 x54),(Value.int .i64 x81),(Value.pointer (some ⟨b84,o85+x81.toNat * 1,none⟩)),x87,(Value.tuple #[.agg #[.int .i64 x89_0,.int .i64 x89_1,.int .i64 x89_2,.int .u64 x89_3,.int .i64 x89_4,.int .i64 x89_5,.bool x89_6,.bool x89_7,.int .i64 x89_8],.bool ok91]),(Value.tuple #[.agg #[.int .i64 x89_0,.int .i64 x89_1,.int .i64 x89_2,.int .u64 x89_3,.int .i64 x89_4,.int .i64 x89_5,.bool x89_6,.bool x89_7,.int .i64 x89_8],.bool ok91]),(Value.agg #[.int .i64 x89_0,.int .i64 x89_1,.int .i64 x89_2,.int .u64 x89_3,.int .i64 x89_4,.int .i64 x89_5,.bool x89_6,.bool x89_7,.int .i64 x89_8]),(Value.bool ok91),(Value.pointer (some ⟨h1.size,0,none⟩)),undef,undef],rfl,(zH [0,1,2,3,4,5,6,7,8,16] rfl ⟨rfl,rfl,rfl,rfl,rfl,rfl,rfl,rfl,rfl,rfl,trivial⟩),?_⟩
   refine zA [17] (by decide) U (zw [0,1,2,3,10,11,12,13,14,15] U ⟨zb U U (zd (v:=.pointer (some ⟨b49,o50,none⟩)) e0 ⟨U,U⟩),zb U U (zj U ⟨U,U⟩),zb U U (zf U fo_257_0 ⟨U,U⟩),zb U U (zk U ag_255 c82 ⟨U,U⟩),zb U U (zE U U ei_255 c83 ⟨U,U⟩),zb U U (zk U ag_20 c88 ⟨U,U⟩),zb U U (op_typeAssert_ok (u:=x87) is_63 z_63 U c90 ⟨U,U⟩),zb U U (zd (v:=.tuple #[.agg #[.int .i64 x89_0,.int .i64 x89_1,.int .i64 x89_2,.int .u64 x89_3,.int .i64 x89_4,.int .i64 x89_5,.bool x89_6,.bool x89_7,.int .i64 x89_8],.bool ok91]) U ⟨U,U⟩),zb U U (zB U U ⟨U,U⟩),zb U U (zB U U ⟨U,U⟩),V⟩) U ⟨?_,V⟩
   obtain⟨h93,c92,H⟩:=H
   refine zb U U (zI (v:=.agg #[.int .i64 x89_0,.int .i64 x89_1,.int .i64 x89_2,.int .u64 x89_3,.int .i64 x89_4,.int .i64 x89_5,.bool x89_6,.bool x89_7,.int .i64 x89_8]) U U sz_63 U c92 ?_)
   refine⟨[(Value.pointer (some ⟨b49,o50,none⟩)),(Value.pointer (some ⟨b49,o50,none⟩)),(Value.pointer (some ⟨b49,o50,none⟩)),(Value.slice (some ⟨b84,o85,none⟩) x52n x52c),(Value.pointer (some ⟨b49,o50,none⟩)),(Value.pointer (some ⟨b49,o50,none⟩)),(Value.pointer (some ⟨b49,o50,none⟩)),(Value.pointer (some ⟨b49,o50+3,none⟩)),(Value.int .i64 x54),(Value.int .i64 x81),(Value.pointer (some ⟨b84,o85+x81.toNat * 1,none⟩)),x87,(Value.tuple #[.agg #[.int .i64 x89_0,.int .i64 x89_1,.int .i64 x89_2,.int .u64 x89_3,.int .i64 x89_4,.int .i64 x89_5,.bool x89_6,.bool x89_7,.int .i64 x89_8],.bool ok91]),(Value.tuple #[.agg #[.int .i64 x89_0,.int .i64 x89_1,.int .i64 x89_2,.int .u64 x89_3,.int .i64 x89_4,.int .i64 x89_5,.bool x89_6,.bool x89_7,.int .i64 x89_8],.bool ok91]),(Value.agg #[.int .i64 x89_0,.int .i64 x89_1,.int .i64 x89_2,.int .u64 x89_3,.int .i64 x89_4,.int .i64 x89_5,.bool x89_6,.bool x89_7,.int .i64 x89_8]),(Value.bool ok91),(Value.pointer (some ⟨h1.size,0,none⟩)),undef,(Value.bool ok91)],rfl,(zH [0,1,2,3,4,5,6,7,8,9,10,11,12,13,14,15,16] rfl ⟨rfl,rfl,rfl,rfl,rfl,rfl,rfl,rfl,rfl,rfl,rfl,rfl,rfl,rfl,rfl,rfl,rfl,trivial⟩),?_⟩
   refine zJ U (zw [15,18] U ⟨zb U U (zB U U ⟨U,U⟩),zb U U (zg (v:=.bool ok91) U ⟨U,U⟩),V⟩) U ?_
   exact hin6 _ _ _ _ rfl rfl e0 rfl H
 ·clear H
  intro f h7 hf
  obtain⟨x3,x4,a6_0,a6_1,a6_2,a6_3,hJ⟩:=hout6 _ _ hf
  have H:=HR x3 x4 h7 hJ
  refine ze ?_
  refine zK ?_
  refine ze ?_
  refine zc U ?_
  refine za (zd (v:=.bool x4) a6_1 ?_)
  refine za (yi U ?_)
  refine za (zg (v:=.bool (!x4)) U ?_)
  refine zh ?_
  refine zz (!x4) U ?_ ?_
  ·intro hb
   replace H:=H.1 (zt hb)
   refine ze ?_
   refine zc U ?_
   refine za (zX (vs:=[]) (cs:=#[.int .i64 0,.int .i64 0,.int .i64 0,.int .u64 0,.int .i64 0,.int .i64 0,.bool false,.bool false,.int .i64 0]) z_63 fs_63 zT U ?_)
   obtain⟨h9,c8,H⟩:=H
   refine za (zI (v:=.agg #[.int .i64 0,.int .i64 0,.int .i64 0,.int .u64 0,.int .i64 0,.int .i64 0,.bool false,.bool false,.int .i64 0]) a6_3 U sz_63 U c8 ?_)
   refine za (zg (v:=.int .i64 5) U ?_)
   refine zh ?_
   refine zx ?_
   obtain⟨x10_0,x10_1,x10_2,x10_3,x10_4,x10_5,x10_6,x10_7,x10_8,c11,H⟩:=H
   exact zv (ye a6_3 ag_63 c11 (zq U zu)) H
  ·intro hb
   replace H:=H.2 (zL hb)
   refine ze ?_
   refine zc U ?_
   obtain⟨b12,o13,rfl,H⟩:=H
   refine za (zf a6_0 fo_63_6 ?_)
   obtain⟨x15,c16,H⟩:=H
   refine za (zk U ag_4 c16 ?_)
   refine za (yi U ?_)
   refine za (zg (v:=.bool (!x15)) U ?_)
   refine zh ?_
   refine zz (!x15) U ?_ ?_
   ·intro hb
    replace H:=H.1 (zt hb)
    refine ze ?_
    refine zc U ?_
    refine za (zX (vs:=[]) (cs:=#[.int .i64 0,.int .i64 0,.int .i64 0,.int .u64 0,.int .i64 0,.int .i64 0,.bool false,.bool false,.int .i64 0]) z_63 fs_63 zT U ?_)
    obtain⟨h18,c17,H⟩:=H
    refine za (zI (v:=.agg #[.int .i64 0,.int .i64 0,.int .i64 0,.int .u64 0,.int .i64 0,.int .i64 0,.bool false,.bool false,.int .i64 0]) a6_3 U sz_63 U c17 ?_)
    refine za (zg (v:=.int .i64 10) U ?_)
    refine zh ?_
    refine zx ?_
    obtain⟨x19_0,x19_1,x19_2,x19_3,x19_4,x19_5,x19_6,x19_7,x19_8,c20,H⟩:=H
    exact zv (ye a6_3 ag_63 c20 (zq U zu)) H
   ·intro hb
    replace H:=H.2 (zL hb)
    refine zC ?_
    refine ze ?_
    obtain⟨b21,o22,rfl,H⟩:=H
    obtain⟨x24a,x24n,x24c,c25,H⟩:=H
    obtain⟨x26,c27,H⟩:=H
    refine zO Gh2 2 [(Y (some ⟨b21,o22,none⟩)),(Y (some ⟨b21,o22,none⟩)),(Y (some ⟨b21,o22,none⟩)),(T x24a x24n x24c),(Y (some ⟨b21,o22,none⟩)),(Y (some ⟨b21,o22,none⟩)),(Y (some ⟨b21,o22,none⟩)),(Y (some ⟨b21,o22+3,none⟩)),(Z .i64 x26),undef,undef,undef] (by kernel_rfl) U mixed_PR ?_
    refine zA [9] (by decide) U (zw [0,1,2,3,4,5,6,7,8] U ⟨zb U U (zd (v:=.pointer (some ⟨b21,o22,none⟩)) a6_2 ⟨U,U⟩),zb U U (zj U ⟨U,U⟩),zb U U (zf U fo_257_0 ⟨U,U⟩),zb U U (zk U ag_255 c25 ⟨U,U⟩),zb U U (zd (v:=.pointer (some ⟨b21,o22,none⟩)) a6_2 ⟨U,U⟩),zb U U (zd (v:=.pointer (some ⟨b21,o22,none⟩)) a6_2 ⟨U,U⟩),zb U U (zj U ⟨U,U⟩),zb U U (zf U fo_257_3 ⟨U,U⟩),zb U U (zk U ag_3 c27 ⟨U,U⟩),V⟩) U ⟨?_,V⟩
    refine zb U U (zG (vs:=[.pointer (some ⟨b21,o22,none⟩),.int .i64 x26]) en_136 (zm U (zm U zy)) (CallsH.mono H ?_))
    clear H
    rintro _ h28 ⟨x30,rfl,H⟩
    obtain⟨c31,H⟩:=H
    obtain⟨b33,o34,rfl,H⟩:=H
    obtain⟨c32,H⟩:=H
    refine⟨[(Value.pointer (some ⟨b21,o22,none⟩)),(Value.pointer (some ⟨b21,o22,none⟩)),(Value.pointer (some ⟨b21,o22,none⟩)),(Value.slice (some ⟨b33,o34,none⟩) x24n x24c),(Value.pointer (some ⟨b21,o22,none⟩)),(Value.pointer (some ⟨b21,o22,none⟩)),(Value.pointer (some ⟨b21,o22,none⟩)),(Value.pointer (some ⟨b21,o22+3,none⟩)),(Value.int .i64 x26),(Value.int .i64 x30),(Value.pointer (some ⟨b33,o34+x30.toNat * 1,none⟩)),undef],rfl,(zH [0,1,2,3,4,5,6,7,8] rfl ⟨rfl,rfl,rfl,rfl,rfl,rfl,rfl,rfl,rfl,trivial⟩),?_⟩
    refine zA [11] (by decide) U (zw [0,1,2,3,10] U ⟨zb U U (zd (v:=.pointer (some ⟨b21,o22,none⟩)) a6_2 ⟨U,U⟩),zb U U (zj U ⟨U,U⟩),zb U U (zf U fo_257_0 ⟨U,U⟩),zb U U (zk U ag_255 c31 ⟨U,U⟩),zb U U (zE U U ei_255 c32 ⟨U,U⟩),V⟩) U ⟨?_,V⟩
    obtain⟨h37,c36,H⟩:=H
    refine zb U U (zI (v:=Value.nilIface) U U sz_20 U c36 ?_)
    refine⟨[(Value.pointer (some ⟨b21,o22,none⟩)),(Value.pointer (some ⟨b21,o22,none⟩)),(Value.pointer (some ⟨b21,o22,none⟩)),(Value.slice (some ⟨b33,o34,none⟩) x24n x24c),(Value.pointer (some ⟨b21,o22,none⟩)),(Value.pointer (some ⟨b21,o22,none⟩)),(Value.pointer (some ⟨b21,o22,none⟩)),(Value.pointer (some ⟨b21,o22+3,none⟩)),(Value.int .i64 x26),(Value.int .i64 x30),(Value.pointer (some ⟨b33,o34+x30.toNat * 1,none⟩)),undef],rfl,(zH [0,1,2,3,4,5,6,7,8,9,10] rfl ⟨rfl,rfl,rfl,rfl,rfl,rfl,rfl,rfl,rfl,rfl,rfl,trivial⟩),?_⟩
    refine zJ U (zw [] U V) U ?_
    refine ze ?_
    refine zc U ?_
    refine za (zd (v:=.pointer (some ⟨b21,o22,none⟩)) a6_2 ?_)
    refine za (zj U ?_)
    refine za (zf U fo_257_3 ?_)
    obtain⟨x38,c39,H⟩:=H
    refine za (zk U ag_3 c39 ?_)
    obtain⟨c40,H⟩:=H
    refine za (yf U U (zU c40) ?_)
    refine za (zj U ?_)
    refine za (zf U fo_257_3 ?_)
    obtain⟨h42,c41,H⟩:=H
    refine za (zI (v:=.int .i64 (x38+1)) U U sz_3 U c41 ?_)
    refine zh ?_
    refine ze ?_
    refine zc U ?_
    obtain⟨x43_0,x43_1,x43_2,x43_3,x43_4,x43_5,x43_6,x43_7,x43_8,c44,H⟩:=H
    refine za (zS a6_0 ag_63 c44 ?_)
    obtain⟨h46,c45,H⟩:=H
    refine za (zI (v:=.agg #[.int .i64 x43_0,.int .i64 x43_1,.int .i64 x43_2,.int .u64 x43_3,.int .i64 x43_4,.int .i64 x43_5,.bool x43_6,.bool x43_7,.int .i64 x43_8]) a6_3 U sz_63 U c45 ?_)
    refine za (zg (v:=.int .i64 0) U ?_)
    refine zh ?_
    refine zx ?_
    obtain⟨x47_0,x47_1,x47_2,x47_3,x47_4,x47_5,x47_6,x47_7,x47_8,c48,H⟩:=H
    exact zv (ye a6_3 ag_63 c48 (zq U zu)) H
def Ggv:Cert:=⟨[[],[0],[0,1],[0,1,2],[],[4],[4,5],[4,5,6],[],[8],[8,9],[8,9,10],[0,1,2,3],[0,1,2,3,4,5,6,7,12],[0,1,2,3,4,5,6,7,8,9,10,11,12,13]],[false,false,false,false,false,false,false,false,false,false,false,false,false,false,false]⟩
def Ge2 (p0:Option Addr) (K:Int→Int→Int→Heap→Prop) (h:Heap):Prop:=
 ∃ (b1:Nat) (o2:Nat),p0=some ⟨b1,o2,none⟩∧∃ (x4:Int),cellH h b1 (o2+1)=some (.int .i64 x4)∧∃ (x6:Int),cellH h b1 (o2+2)=some (.int .i64 x6)∧∃ (x8:Int),cellH h b1 (o2+3)=some (.int .i64 x8)∧K x4 x6 x8 h
theorem Ge3 (p0:Option Addr) (R:Value→Heap→Prop) (h:Heap) (H:Ge2 p0 (fun r0 r1 r2 h'=>R (Value.tuple #[.int .i64 r0,.int .i64 r1,.int .i64 r2]) h') h):CallsH PR Gm6 #[.pointer p0] h R:=by
 refine zD (args:=[.pointer p0]) Tryz.func74 U U ?_
 intro f hf
 have e0:=hf 0 _ rfl
 clear hf
 unfold Ge2 at H
 refine ze ?_
 refine zc U ?_
 refine za (zg (v:=.int .i64 0) U ?_)
 refine za (zg (v:=.int .i64 0) U ?_)
 refine za (zg (v:=.int .i64 0) U ?_)
 refine zh ?_
 refine ze ?_
 obtain⟨b1,o2,rfl,H⟩:=H
 obtain⟨x4,c5,H⟩:=H
 obtain⟨x6,c7,H⟩:=H
 obtain⟨x8,c9,H⟩:=H
 refine zO Ggv 0 [(Y (some ⟨b1,o2,none⟩)),(Y (some ⟨b1,o2,none⟩)),(Y (some ⟨b1,o2+1,none⟩)),(Z .i64 x4),(Y (some ⟨b1,o2,none⟩)),(Y (some ⟨b1,o2,none⟩)),(Y (some ⟨b1,o2+2,none⟩)),(Z .i64 x6),(Y (some ⟨b1,o2,none⟩)),(Y (some ⟨b1,o2,none⟩)),(Y (some ⟨b1,o2+3,none⟩)),(Z .i64 x8),(Z .i64 x4),(Z .i64 x6),(Z .i64 x8)] (by kernel_rfl) U mixed_PR ?_
 refine zJ U (zw [0,1,2,3,4,5,6,7,8,9,10,11,12,13,14] U ⟨zb U U (zd (v:=.pointer (some ⟨b1,o2,none⟩)) e0 ⟨U,U⟩),zb U U (zj U ⟨U,U⟩),zb U U (zf U fo_257_1 ⟨U,U⟩),zb U U (zk U ag_3 c5 ⟨U,U⟩),zb U U (zd (v:=.pointer (some ⟨b1,o2,none⟩)) e0 ⟨U,U⟩),zb U U (zj U ⟨U,U⟩),zb U U (zf U fo_257_2 ⟨U,U⟩),zb U U (zk U ag_3 c7 ⟨U,U⟩),zb U U (zd (v:=.pointer (some ⟨b1,o2,none⟩)) e0 ⟨U,U⟩),zb U U (zj U ⟨U,U⟩),zb U U (zf U fo_257_3 ⟨U,U⟩),zb U U (zk U ag_3 c9 ⟨U,U⟩),zb U U (zg (v:=.int .i64 x4) U ⟨U,U⟩),zb U U (zg (v:=.int .i64 x6) U ⟨U,U⟩),zb U U (zg (v:=.int .i64 x8) U ⟨U,U⟩),V⟩) U ?_
 refine zx ?_
 exact zv (zq U (zq U (zq U zu))) H
def Gec (p0:Option Addr) (p1:Int) (K:Int→Heap→Prop) (h:Heap):Prop:=
 ∃ (b1:Nat) (o2:Nat),p0=some ⟨b1,o2,none⟩∧∃ (x4a:Option Addr) (x4n:Nat) (x4c:Nat),cellH h b1 o2=some (.slice x4a x4n x4c)∧(x4n:Int)≠0∧K (p1.tmod (x4n:Int)) h
theorem Ged (p0:Option Addr) (p1:Int) (R:Value→Heap→Prop) (h:Heap) (H:Gec p0 p1 (fun r0 h'=>R (Value.int .i64 r0) h') h):CallsH PR Gmb #[.pointer p0,.int .i64 p1] h R:=by
 refine zD (args:=[.pointer p0,.int .i64 p1]) Tryz.func136 U U ?_
 intro f hf
 have e0:=hf 0 _ rfl
 have e1:=hf 1 _ rfl
 clear hf
 unfold Gec at H
 refine ze ?_
 refine zc U ?_
 refine za (zg (v:=.int .i64 0) U ?_)
 refine zh ?_
 refine ze ?_
 refine zc U ?_
 refine za (zd (v:=.int .i64 p1) e1 ?_)
 refine za (zd (v:=.pointer p0) e0 ?_)
 obtain⟨b1,o2,rfl,H⟩:=H
 refine za (zj U ?_)
 refine za (zf U fo_257_0 ?_)
 obtain⟨x4a,x4n,x4c,c5,H⟩:=H
 refine za (zk U ag_255 c5 ?_)
 refine za (zN U un_255 ?_)
 obtain⟨c6,H⟩:=H
 refine za (op_rem U U c6 U ?_)
 refine za (zg (v:=.int .i64 (p1.tmod (x4n:Int))) U ?_)
 refine zh ?_
 refine zx ?_
 exact zv (zq U zu) H
def Gac (p0_0:Int) (p0_1:Int) (p0_2:Int) (p0_3:Int) (p0_4:Int) (p0_5:Int) (p0_6:Bool) (p0_7:Bool) (p0_8:Int) (K:Bool→Heap→Prop) (h:Heap):Prop:=
 ∀ (h1:Heap),h1=h.push (.cells #[.int .i64 p0_0,.int .i64 p0_1,.int .i64 p0_2,.int .u64 p0_3,.int .i64 p0_4,.int .i64 p0_5,.bool p0_6,.bool p0_7,.int .i64 p0_8] 63 (0,0))→∃ (x3:Int),cellH h1 h.size 0=some (.int .i64 x3)∧CallsH PR Ghs #[.int .i64 x3,.int .i64 15] h1 (fun v h5=>∃ (x7:Bool),v=(Value.bool x7)∧∃ (x8:Int),((x7=true)→cellH h5 h.size 1=some (.int .i64 x8))∧∃ J13:Bool→Heap→Prop,(∀ (x12:Bool) (h10:Heap),J13 x12 h10→∃ (x14:Int),(((x7 && x12)=true)→cellH h10 h.size 2=some (.int .i64 x14))∧∃ J19:Bool→Heap→Prop,(∀ (x18:Bool) (h16:Heap),J19 x18 h16→∃ (x20:Int),((((x7 && x12) && x18)=true)→cellH h16 h.size 3=some (.int .u64 x20))∧∃ (x23:Int),(((((x7 && x12) && x18) && (decide (x20≤4294967295)))=true)→cellH h16 h.size 4=some (.int .i64 x23))∧∃ J28:Bool→Heap→Prop,(∀ (x27:Bool) (h25:Heap),J28 x27 h25→∃ (x29:Int),((((((x7 && x12) && x18) && (decide (x20≤4294967295))) && x27)=true)→cellH h25 h.size 5=some (.int .i64 x29))∧∃ J34:Bool→Heap→Prop,(∀ (x33:Bool) (h31:Heap),J34 x33 h31→∃ (x35:Int),(((((((x7 && x12) && x18) && (decide (x20≤4294967295))) && x27) && x33)=true)→cellH h31 h.size 8=some (.int .i64 x35))∧∃ J40:Bool→Heap→Prop,(∀ (x39:Bool) (h37:Heap),J40 x39 h37→∃ (x41:Bool),((((((((x7 && x12) && x18) && (decide (x20≤4294967295))) && x27) && x33) && x39)=true)→cellH h37 h.size 7=some (.bool x41))∧∃ (x43:Int),(((((((((x7 && x12) && x18) && (decide (x20≤4294967295))) && x27) && x33) && x39) && (!x41))=true)→cellH h37 h.size 8=some (.int .i64 x43))∧K (((((((x7 && x12) && x18) && (decide (x20≤4294967295))) && x27) && x33) && x39) && (x41 || (decide (x43=0)))) h37)∧(((((((x7 && x12) && x18) && (decide (x20≤4294967295))) && x27) && x33)=true)→CallsH PR Ghs #[.int .i64 x35,.int .i64 255] h31 (fun v h37=>∃ (x39:Bool),v=(Value.bool x39)∧J40 x39 h37))∧(((((((x7 && x12) && x18) && (decide (x20≤4294967295))) && x27) && x33)=false)→∃ (x39:Bool),J40 x39 h31))∧((((((x7 && x12) && x18) && (decide (x20≤4294967295))) && x27)=true)→CallsH PR Ghs #[.int .i64 x29,.int .i64 65536] h25 (fun v h31=>∃ (x33:Bool),v=(Value.bool x33)∧J34 x33 h31))∧((((((x7 && x12) && x18) && (decide (x20≤4294967295))) && x27)=false)→∃ (x33:Bool),J34 x33 h25))∧(((((x7 && x12) && x18) && (decide (x20≤4294967295)))=true)→CallsH PR Ghs #[.int .i64 x23,.int .i64 65535] h16 (fun v h25=>∃ (x27:Bool),v=(Value.bool x27)∧J28 x27 h25))∧(((((x7 && x12) && x18) && (decide (x20≤4294967295)))=false)→∃ (x27:Bool),J28 x27 h16))∧(((x7 && x12)=true)→CallsH PR Ghs #[.int .i64 x14,.int .i64 65535] h10 (fun v h16=>∃ (x18:Bool),v=(Value.bool x18)∧J19 x18 h16))∧(((x7 && x12)=false)→∃ (x18:Bool),J19 x18 h10))∧((x7=true)→CallsH PR Ghs #[.int .i64 x8,.int .i64 65535] h5 (fun v h10=>∃ (x12:Bool),v=(Value.bool x12)∧J13 x12 h10))∧((x7=false)→∃ (x12:Bool),J13 x12 h5))
theorem Gad (p0_0:Int) (p0_1:Int) (p0_2:Int) (p0_3:Int) (p0_4:Int) (p0_5:Int) (p0_6:Bool) (p0_7:Bool) (p0_8:Int) (R:Value→Heap→Prop) (h:Heap) (H:Gac p0_0 p0_1 p0_2 p0_3 p0_4 p0_5 p0_6 p0_7 p0_8 (fun r0 h'=>R (Value.bool r0) h') h):CallsH PR Ghr #[.agg #[.int .i64 p0_0,.int .i64 p0_1,.int .i64 p0_2,.int .u64 p0_3,.int .i64 p0_4,.int .i64 p0_5,.bool p0_6,.bool p0_7,.int .i64 p0_8]] h R:=by
 refine zD (args:=[.agg #[.int .i64 p0_0,.int .i64 p0_1,.int .i64 p0_2,.int .u64 p0_3,.int .i64 p0_4,.int .i64 p0_5,.bool p0_6,.bool p0_7,.int .i64 p0_8]]) Tryz.func135 U U ?_
 intro f hf
 have e0:=hf 0 _ rfl
 clear hf
 unfold Gac at H
 refine ze ?_
 refine zc U ?_
 obtain⟨h1,c2⟩ : ∃ h1,h1=h.push (.cells #[.int .i64 p0_0,.int .i64 p0_1,.int .i64 p0_2,.int .u64 p0_3,.int .i64 p0_4,.int .i64 p0_5,.bool p0_6,.bool p0_7,.int .i64 p0_8] 63 (0,0)):=⟨_,rfl⟩
 replace H:=H h1 c2
 refine za (yd (v:=.agg #[.int .i64 p0_0,.int .i64 p0_1,.int .i64 p0_2,.int .u64 p0_3,.int .i64 p0_4,.int .i64 p0_5,.bool p0_6,.bool p0_7,.int .i64 p0_8]) e0 c2 ?_)
 refine za (zg (v:=.bool false) U ?_)
 refine zh ?_
 refine ze ?_
 refine zc U ?_
 refine za (zf U fo_63_0 ?_)
 obtain⟨x3,c4,H⟩:=H
 refine za (zk U ag_3 c4 ?_)
 refine za (zG (vs:=[.int .i64 x3,.int .i64 15]) en_175 (zm U (zm U zy)) (CallsH.mono H ?_))
 clear H
 rintro _ h5 ⟨x7,rfl,H⟩
 refine za (zd (v:=.bool x7) U ?_)
 refine zF (b:=x7) (zi U U) (Y (some ⟨h.size,1,none⟩)) (fun hb N hN=>zf U fo_63_1 hN) ?_
 obtain⟨x8,c9,H⟩:=H
 refine zF (b:=x7) (zi U U) (Z .i64 x8) (fun hb N hN=>zk (gv hb) ag_3 (c9 hb) hN) ?_
 obtain⟨J13,HR,HT,HF⟩:=H
 refine wpL_gl (b:=x7) (zi U U) (fun v h10=>∃ (x12:Bool),v=(bif x7 then (W x12) else undef)∧J13 x12 h10) ?_ ?_ ?_
 ·rintro _ h10 ⟨x12,rfl,hJ⟩
  have H:=HR x12 h10 hJ
  refine za (zV U (fun hq=>(gv hq)) U ?_)
  refine za (zd (v:=.bool (x7 && x12)) U ?_)
  refine zF (b:=x7 && x12) (zi U U) (Y (some ⟨h.size,2,none⟩)) (fun hb N hN=>zf U fo_63_2 hN) ?_
  refine zF (b:=x7 && x12) (zi U U) (Y (some ⟨h.size,2,none⟩)) (fun hb N hN=>zf (gv hb) fo_39_0 hN) ?_
  obtain⟨x14,c15,H⟩:=H
  refine zF (b:=x7 && x12) (zi U U) (Z .i64 x14) (fun hb N hN=>zk (gv hb) ag_3 (c15 hb) hN) ?_
  obtain⟨J19,HR,HT,HF⟩:=H
  refine wpL_gl (b:=x7 && x12) (zi U U) (fun v h16=>∃ (x18:Bool),v=(bif x7 && x12 then (W x18) else undef)∧J19 x18 h16) ?_ ?_ ?_
  ·rintro _ h16 ⟨x18,rfl,hJ⟩
   have H:=HR x18 h16 hJ
   refine za (zV U (fun hq=>(gv hq)) U ?_)
   refine za (zd (v:=.bool ((x7 && x12) && x18)) U ?_)
   refine zF (b:=(x7 && x12) && x18) (zi U U) (Y (some ⟨h.size,2,none⟩)) (fun hb N hN=>zf U fo_63_2 hN) ?_
   refine zF (b:=(x7 && x12) && x18) (zi U U) (Y (some ⟨h.size,3,none⟩)) (fun hb N hN=>zf (gv hb) fo_39_1 hN) ?_
   obtain⟨x20,c21,H⟩:=H
   refine zF (b:=(x7 && x12) && x18) (zi U U) (Z .u64 x20) (fun hb N hN=>zk (gv hb) ag_37 (c21 hb) hN) ?_
   refine zF (b:=(x7 && x12) && x18) (zi U U) (W (decide (x20≤4294967295))) (fun hb N hN=>op_leq (gv hb) U hN) ?_
   refine za (zV U (fun hq=>(gv hq)) U ?_)
   refine za (zd (v:=.bool (((x7 && x12) && x18) && (decide (x20≤4294967295)))) U ?_)
   refine zF (b:=((x7 && x12) && x18) && (decide (x20≤4294967295))) (zi U U) (Y (some ⟨h.size,4,none⟩)) (fun hb N hN=>zf U fo_63_3 hN) ?_
   obtain⟨x23,c24,H⟩:=H
   refine zF (b:=((x7 && x12) && x18) && (decide (x20≤4294967295))) (zi U U) (Z .i64 x23) (fun hb N hN=>zk (gv hb) ag_3 (c24 hb) hN) ?_
   obtain⟨J28,HR,HT,HF⟩:=H
   refine wpL_gl (b:=((x7 && x12) && x18) && (decide (x20≤4294967295))) (zi U U) (fun v h25=>∃ (x27:Bool),v=(bif ((x7 && x12) && x18) && (decide (x20≤4294967295)) then (W x27) else undef)∧J28 x27 h25) ?_ ?_ ?_
   ·rintro _ h25 ⟨x27,rfl,hJ⟩
    have H:=HR x27 h25 hJ
    refine za (zV U (fun hq=>(gv hq)) U ?_)
    refine za (zd (v:=.bool ((((x7 && x12) && x18) && (decide (x20≤4294967295))) && x27)) U ?_)
    refine zF (b:=(((x7 && x12) && x18) && (decide (x20≤4294967295))) && x27) (zi U U) (Y (some ⟨h.size,5,none⟩)) (fun hb N hN=>zf U fo_63_4 hN) ?_
    obtain⟨x29,c30,H⟩:=H
    refine zF (b:=(((x7 && x12) && x18) && (decide (x20≤4294967295))) && x27) (zi U U) (Z .i64 x29) (fun hb N hN=>zk (gv hb) ag_3 (c30 hb) hN) ?_
    obtain⟨J34,HR,HT,HF⟩:=H
    refine wpL_gl (b:=(((x7 && x12) && x18) && (decide (x20≤4294967295))) && x27) (zi U U) (fun v h31=>∃ (x33:Bool),v=(bif (((x7 && x12) && x18) && (decide (x20≤4294967295))) && x27 then (W x33) else undef)∧J34 x33 h31) ?_ ?_ ?_
    ·rintro _ h31 ⟨x33,rfl,hJ⟩
     have H:=HR x33 h31 hJ
     refine za (zV U (fun hq=>(gv hq)) U ?_)
     refine za (zd (v:=.bool (((((x7 && x12) && x18) && (decide (x20≤4294967295))) && x27) && x33)) U ?_)
     refine zF (b:=((((x7 && x12) && x18) && (decide (x20≤4294967295))) && x27) && x33) (zi U U) (Y (some ⟨h.size,8,none⟩)) (fun hb N hN=>zf U fo_63_7 hN) ?_
     obtain⟨x35,c36,H⟩:=H
     refine zF (b:=((((x7 && x12) && x18) && (decide (x20≤4294967295))) && x27) && x33) (zi U U) (Z .i64 x35) (fun hb N hN=>zk (gv hb) ag_3 (c36 hb) hN) ?_
     obtain⟨J40,HR,HT,HF⟩:=H
     refine wpL_gl (b:=((((x7 && x12) && x18) && (decide (x20≤4294967295))) && x27) && x33) (zi U U) (fun v h37=>∃ (x39:Bool),v=(bif ((((x7 && x12) && x18) && (decide (x20≤4294967295))) && x27) && x33 then (W x39) else undef)∧J40 x39 h37) ?_ ?_ ?_
     ·rintro _ h37 ⟨x39,rfl,hJ⟩
      have H:=HR x39 h37 hJ
      refine za (zV U (fun hq=>(gv hq)) U ?_)
      refine za (zd (v:=.bool ((((((x7 && x12) && x18) && (decide (x20≤4294967295))) && x27) && x33) && x39)) U ?_)
      refine zF (b:=(((((x7 && x12) && x18) && (decide (x20≤4294967295))) && x27) && x33) && x39) (zi U U) (Y (some ⟨h.size,7,none⟩)) (fun hb N hN=>zf U fo_63_6 hN) ?_
      obtain⟨x41,c42,H⟩:=H
      refine zF (b:=(((((x7 && x12) && x18) && (decide (x20≤4294967295))) && x27) && x33) && x39) (zi U U) (W x41) (fun hb N hN=>zk (gv hb) ag_4 (c42 hb) hN) ?_
      refine zF (b:=(((((x7 && x12) && x18) && (decide (x20≤4294967295))) && x27) && x33) && x39) (zi U U) (W x41) (fun hb N hN=>zd (v:=.bool x41) (gv hb) hN) ?_
      refine zF (b:=((((((x7 && x12) && x18) && (decide (x20≤4294967295))) && x27) && x33) && x39) && (!x41)) (guard_cond U U) (Y (some ⟨h.size,8,none⟩)) (fun hb N hN=>zf U fo_63_7 hN) ?_
      obtain⟨x43,c44,H⟩:=H
      refine zF (b:=((((((x7 && x12) && x18) && (decide (x20≤4294967295))) && x27) && x33) && x39) && (!x41)) (guard_cond U U) (Z .i64 x43) (fun hb N hN=>zk (gv hb) ag_3 (c44 hb) hN) ?_
      refine zF (b:=((((((x7 && x12) && x18) && (decide (x20≤4294967295))) && x27) && x33) && x39) && (!x41)) (guard_cond U U) (W (decide (x43=0))) (fun hb N hN=>op_eql (gv hb) U hN) ?_
      refine zF (b:=(((((x7 && x12) && x18) && (decide (x20≤4294967295))) && x27) && x33) && x39) (zi U U) (W (x41 || (decide (x43=0)))) (fun hb N hN=>zR (gv hb) U (fun hq=>(gv (and_i hb (zP hq)))) hN) ?_
      refine za (zV U (fun hq=>(gv hq)) U ?_)
      refine za (zg (v:=.bool (((((((x7 && x12) && x18) && (decide (x20≤4294967295))) && x27) && x33) && x39) && (x41 || (decide (x43=0))))) U ?_)
      refine zh ?_
      refine zx ?_
      exact zv (zq U zu) H
     ·intro hb
      refine zG (vs:=[.int .i64 x35,.int .i64 255]) en_175 (zm (gv hb) (zm U zy)) (CallsH.mono (HT hb) ?_)
      rintro _ h37 ⟨x39,rfl,hJ⟩
      exact⟨x39,zs hb,hJ⟩
     ·intro hb
      obtain⟨x39,hJ⟩:=HF hb
      exact⟨x39,zp hb,hJ⟩
    ·intro hb
     refine zG (vs:=[.int .i64 x29,.int .i64 65536]) en_175 (zm (gv hb) (zm U zy)) (CallsH.mono (HT hb) ?_)
     rintro _ h31 ⟨x33,rfl,hJ⟩
     exact⟨x33,zs hb,hJ⟩
    ·intro hb
     obtain⟨x33,hJ⟩:=HF hb
     exact⟨x33,zp hb,hJ⟩
   ·intro hb
    refine zG (vs:=[.int .i64 x23,.int .i64 65535]) en_175 (zm (gv hb) (zm U zy)) (CallsH.mono (HT hb) ?_)
    rintro _ h25 ⟨x27,rfl,hJ⟩
    exact⟨x27,zs hb,hJ⟩
   ·intro hb
    obtain⟨x27,hJ⟩:=HF hb
    exact⟨x27,zp hb,hJ⟩
  ·intro hb
   refine zG (vs:=[.int .i64 x14,.int .i64 65535]) en_175 (zm (gv hb) (zm U zy)) (CallsH.mono (HT hb) ?_)
   rintro _ h16 ⟨x18,rfl,hJ⟩
   exact⟨x18,zs hb,hJ⟩
  ·intro hb
   obtain⟨x18,hJ⟩:=HF hb
   exact⟨x18,zp hb,hJ⟩
 ·intro hb
  refine zG (vs:=[.int .i64 x8,.int .i64 65535]) en_175 (zm (gv hb) (zm U zy)) (CallsH.mono (HT hb) ?_)
  rintro _ h10 ⟨x12,rfl,hJ⟩
  exact⟨x12,zs hb,hJ⟩
 ·intro hb
  obtain⟨x12,hJ⟩:=HF hb
  exact⟨x12,zp hb,hJ⟩
def Gae (p0:Int) (p1:Int) (K:Bool→Heap→Prop) (h:Heap):Prop:=
 K ((decide (0≤p0)) && (decide (p0≤p1))) h
theorem Gaf (p0:Int) (p1:Int) (R:Value→Heap→Prop) (h:Heap) (H:Gae p0 p1 (fun r0 h'=>R (Value.bool r0) h') h):CallsH PR Ghs #[.int .i64 p0,.int .i64 p1] h R:=by
 refine zD (args:=[.int .i64 p0,.int .i64 p1]) Tryz.func175 U U ?_
 intro f hf
 have e0:=hf 0 _ rfl
 have e1:=hf 1 _ rfl
 clear hf
 unfold Gae at H
 refine ze ?_
 refine zc U ?_
 refine za (zg (v:=.bool false) U ?_)
 refine zh ?_
 refine ze ?_
 refine zc U ?_
 refine za (zd (v:=.int .i64 p0) e0 ?_)
 refine za (op_geq U U ?_)
 refine za (zd (v:=.bool (decide (0≤p0))) U ?_)
 refine zF (b:=decide (0≤p0)) (zi U U) (Z .i64 p0) (fun hb N hN=>zd (v:=.int .i64 p0) e0 hN) ?_
 refine zF (b:=decide (0≤p0)) (zi U U) (Z .i64 p1) (fun hb N hN=>zd (v:=.int .i64 p1) e1 hN) ?_
 refine zF (b:=decide (0≤p0)) (zi U U) (W (decide (p0≤p1))) (fun hb N hN=>op_leq (gv hb) (gv hb) hN) ?_
 refine za (zV U (fun hq=>(gv hq)) U ?_)
 refine za (zg (v:=.bool ((decide (0≤p0)) && (decide (p0≤p1)))) U ?_)
 refine zh ?_
 refine zx ?_
 exact zv (zq U zu) H
end Go.Proofs.Vf
