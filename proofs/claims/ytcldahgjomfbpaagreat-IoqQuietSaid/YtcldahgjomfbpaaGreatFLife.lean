/- Printed by a program of this claim: for each Go function named below a formula over the heap, and the proof that it gives the call of that function. No conditions. -/
import Derived.Test.YtcldahgjomfbpaaGreatBase
namespace Go.Proofs.Vf
open Go Go.Proofs Go.VC
set_option maxRecDepth 100000
set_option maxHeartbeats 4000000
set_option linter.unusedVariables false
def Gbm (p0:Int) (K:Option Addr→Int→Heap→Prop) (h:Heap):Prop:=
 (((decide (p0<1)) || (decide (1000<p0)))=true→K none 1 h)∧(((decide (p0<1)) || (decide (1000<p0)))=false→CallsH PR Gnt #[] h (fun v h3=>∃ (x5:Option Addr),v=(Value.pointer x5)∧∀ (h6:Heap),h6=h3.push (.map #[] 0)→∀ (h8:Heap),h8=h6.push (.cells #[.int .u64 p0,.pointer x5,.map (some h3.size),.int .i64 0,.int .i64 0,.int .i64 0,.int .i64 0,.int .i64 0,.int .i64 0,.int .i64 0,.int .i64 0,.int .i64 0,.int .i64 0,.int .i64 0,.int .i64 0,.int .i64 0,.int .i64 0,.int .i64 0,.int .i64 0,.int .i64 0,.int .i64 0,.int .i64 0,.int .i64 0,.int .i64 0,.int .i64 0,.int .i64 0,.int .i64 0,.int .i64 0,.int .i64 0,.int .i64 0,.int .i64 0,.int .i64 0,.int .i64 0,.int .i64 0,.int .i64 0,.int .i64 0,.int .i64 0,.int .i64 0,.int .i64 0,.int .i64 0,.int .i64 0,.int .i64 0,.int .i64 0,.int .i64 0,.int .i64 0,.int .i64 0,.int .i64 0,.int .i64 0,.int .i64 0,.int .i64 0,.int .i64 0,.int .i64 0,.int .i64 0,.int .i64 0,.int .i64 0,.int .i64 0,.int .i64 0,.int .i64 0,.int .i64 0,.int .i64 0,.int .i64 0,.int .i64 0,.int .i64 0,.int .i64 0,.int .i64 0,.int .i64 0,.int .i64 0,.bool false,.bool false,.bool false,.bool false,.bool false,.bool false,.bool false,.bool false,.bool false,.bool false,.bool false,.bool false,.bool false,.bool false,.bool false,.bool false,.bool false,.bool false,.bool false,.bool false,.bool false,.bool false,.bool false,.bool false,.bool false,.bool false,.bool false,.bool false,.bool false,.bool false,.bool false,.bool false,.bool false,.bool false,.bool false,.bool false,.bool false,.bool false,.bool false,.bool false,.bool false,.bool false,.bool false,.bool false,.bool false,.bool false,.bool false,.bool false,.bool false,.bool false,.bool false,.bool false,.bool false,.bool false,.bool false,.bool false,.bool false,.bool false,.bool false,.bool false,.bool false,.bool false,.bool false,.bool false,.slice none 0 0] 245 (0,0))→K (some ⟨h6.size,0,none⟩) 0 h8))
theorem Gbn (p0:Int) (R:Value→Heap→Prop) (h:Heap) (H:Gbm p0 (fun r0 r1 h'=>R (Value.tuple #[.pointer r0,.int .i64 r1]) h') h):CallsH PR Giu #[.int .u64 p0] h R:=by
 refine zD (args:=[.int .u64 p0]) Tryz.func88 U U ?_
 intro f hf
 have e0:=hf 0 _ rfl
 clear hf
 unfold Gbm at H
 refine ze ?_
 refine zc U ?_
 refine za (zg (v:=.pointer none) U ?_)
 refine za (zg (v:=.int .i64 0) U ?_)
 refine zh ?_
 refine ze ?_
 refine ze ?_
 refine zc U ?_
 refine za (zd (v:=.int .u64 p0) e0 ?_)
 refine za (zY U U ?_)
 refine za (zd (v:=.bool (decide (p0<1))) U ?_)
 refine zF (b:=!(decide (p0<1))) (zi U U) (Z .u64 p0) (fun hb N hN=>zd (v:=.int .u64 p0) e0 hN) ?_
 refine zF (b:=!(decide (p0<1))) (zi U U) (W (decide (1000<p0))) (fun hb N hN=>yj (gv hb) U hN) ?_
 refine za (zR U U (fun hq=>(gv (zP hq))) ?_)
 refine zh ?_
 refine zz ((decide (p0<1)) || (decide (1000<p0))) U ?_ ?_
 ·intro hb
  replace H:=H.1 hb
  refine ze ?_
  refine zc U ?_
  refine za (zg (v:=.pointer none) U ?_)
  refine za (zg (v:=.int .i64 1) U ?_)
  refine zh ?_
  refine zx ?_
  exact zv (zq U (zq U zu)) H
 ·intro hb
  replace H:=H.2 hb
  refine zC ?_
  refine ze ?_
  refine zc U ?_
  refine za (zd (v:=.int .u64 p0) e0 ?_)
  refine za (zG (vs:=[]) en_146 zy (CallsH.mono H ?_))
  clear H
  rintro _ h3 ⟨x5,rfl,H⟩
  obtain⟨h6,c7⟩ : ∃ h6,h6=h3.push (.map #[] 0):=⟨_,rfl⟩
  replace H:=H h6 c7
  refine za (op_makeMap' c7 ?_)
  refine za (zX (vs:=[(0,.int .u64 p0),(1,.pointer x5),(2,.map (some h3.size))]) (cs:=#[.int .u64 p0,.pointer x5,.map (some h3.size),.int .i64 0,.int .i64 0,.int .i64 0,.int .i64 0,.int .i64 0,.int .i64 0,.int .i64 0,.int .i64 0,.int .i64 0,.int .i64 0,.int .i64 0,.int .i64 0,.int .i64 0,.int .i64 0,.int .i64 0,.int .i64 0,.int .i64 0,.int .i64 0,.int .i64 0,.int .i64 0,.int .i64 0,.int .i64 0,.int .i64 0,.int .i64 0,.int .i64 0,.int .i64 0,.int .i64 0,.int .i64 0,.int .i64 0,.int .i64 0,.int .i64 0,.int .i64 0,.int .i64 0,.int .i64 0,.int .i64 0,.int .i64 0,.int .i64 0,.int .i64 0,.int .i64 0,.int .i64 0,.int .i64 0,.int .i64 0,.int .i64 0,.int .i64 0,.int .i64 0,.int .i64 0,.int .i64 0,.int .i64 0,.int .i64 0,.int .i64 0,.int .i64 0,.int .i64 0,.int .i64 0,.int .i64 0,.int .i64 0,.int .i64 0,.int .i64 0,.int .i64 0,.int .i64 0,.int .i64 0,.int .i64 0,.int .i64 0,.int .i64 0,.int .i64 0,.bool false,.bool false,.bool false,.bool false,.bool false,.bool false,.bool false,.bool false,.bool false,.bool false,.bool false,.bool false,.bool false,.bool false,.bool false,.bool false,.bool false,.bool false,.bool false,.bool false,.bool false,.bool false,.bool false,.bool false,.bool false,.bool false,.bool false,.bool false,.bool false,.bool false,.bool false,.bool false,.bool false,.bool false,.bool false,.bool false,.bool false,.bool false,.bool false,.bool false,.bool false,.bool false,.bool false,.bool false,.bool false,.bool false,.bool false,.bool false,.bool false,.bool false,.bool false,.bool false,.bool false,.bool false,.bool false,.bool false,.bool false,.bool false,.bool false,.bool false,.bool false,.bool false,.bool false,.bool false,.slice none 0 0]) z_245 fs_245 (zM U (zM U (zM U zT))) U ?_)
  obtain⟨h8,c9⟩ : ∃ h8,h8=h6.push (.cells #[.int .u64 p0,.pointer x5,.map (some h3.size),.int .i64 0,.int .i64 0,.int .i64 0,.int .i64 0,.int .i64 0,.int .i64 0,.int .i64 0,.int .i64 0,.int .i64 0,.int .i64 0,.int .i64 0,.int .i64 0,.int .i64 0,.int .i64 0,.int .i64 0,.int .i64 0,.int .i64 0,.int .i64 0,.int .i64 0,.int .i64 0,.int .i64 0,.int .i64 0,.int .i64 0,.int .i64 0,.int .i64 0,.int .i64 0,.int .i64 0,.int .i64 0,.int .i64 0,.int .i64 0,.int .i64 0,.int .i64 0,.int .i64 0,.int .i64 0,.int .i64 0,.int .i64 0,.int .i64 0,.int .i64 0,.int .i64 0,.int .i64 0,.int .i64 0,.int .i64 0,.int .i64 0,.int .i64 0,.int .i64 0,.int .i64 0,.int .i64 0,.int .i64 0,.int .i64 0,.int .i64 0,.int .i64 0,.int .i64 0,.int .i64 0,.int .i64 0,.int .i64 0,.int .i64 0,.int .i64 0,.int .i64 0,.int .i64 0,.int .i64 0,.int .i64 0,.int .i64 0,.int .i64 0,.int .i64 0,.bool false,.bool false,.bool false,.bool false,.bool false,.bool false,.bool false,.bool false,.bool false,.bool false,.bool false,.bool false,.bool false,.bool false,.bool false,.bool false,.bool false,.bool false,.bool false,.bool false,.bool false,.bool false,.bool false,.bool false,.bool false,.bool false,.bool false,.bool false,.bool false,.bool false,.bool false,.bool false,.bool false,.bool false,.bool false,.bool false,.bool false,.bool false,.bool false,.bool false,.bool false,.bool false,.bool false,.bool false,.bool false,.bool false,.bool false,.bool false,.bool false,.bool false,.bool false,.bool false,.bool false,.bool false,.bool false,.bool false,.bool false,.bool false,.bool false,.bool false,.bool false,.bool false,.bool false,.bool false,.slice none 0 0] 245 (0,0)):=⟨_,rfl⟩
  replace H:=H h8 c9
  refine za (yd (v:=.agg #[.int .u64 p0,.pointer x5,.map (some h3.size),.int .i64 0,.int .i64 0,.int .i64 0,.int .i64 0,.int .i64 0,.int .i64 0,.int .i64 0,.int .i64 0,.int .i64 0,.int .i64 0,.int .i64 0,.int .i64 0,.int .i64 0,.int .i64 0,.int .i64 0,.int .i64 0,.int .i64 0,.int .i64 0,.int .i64 0,.int .i64 0,.int .i64 0,.int .i64 0,.int .i64 0,.int .i64 0,.int .i64 0,.int .i64 0,.int .i64 0,.int .i64 0,.int .i64 0,.int .i64 0,.int .i64 0,.int .i64 0,.int .i64 0,.int .i64 0,.int .i64 0,.int .i64 0,.int .i64 0,.int .i64 0,.int .i64 0,.int .i64 0,.int .i64 0,.int .i64 0,.int .i64 0,.int .i64 0,.int .i64 0,.int .i64 0,.int .i64 0,.int .i64 0,.int .i64 0,.int .i64 0,.int .i64 0,.int .i64 0,.int .i64 0,.int .i64 0,.int .i64 0,.int .i64 0,.int .i64 0,.int .i64 0,.int .i64 0,.int .i64 0,.int .i64 0,.int .i64 0,.int .i64 0,.int .i64 0,.bool false,.bool false,.bool false,.bool false,.bool false,.bool false,.bool false,.bool false,.bool false,.bool false,.bool false,.bool false,.bool false,.bool false,.bool false,.bool false,.bool false,.bool false,.bool false,.bool false,.bool false,.bool false,.bool false,.bool false,.bool false,.bool false,.bool false,.bool false,.bool false,.bool false,.bool false,.bool false,.bool false,.bool false,.bool false,.bool false,.bool false,.bool false,.bool false,.bool false,.bool false,.bool false,.bool false,.bool false,.bool false,.bool false,.bool false,.bool false,.bool false,.bool false,.bool false,.bool false,.bool false,.bool false,.bool false,.bool false,.bool false,.bool false,.bool false,.bool false,.bool false,.bool false,.bool false,.bool false,.slice none 0 0]) U c9 ?_)
  refine za (zg (v:=.pointer (some ⟨h6.size,0,none⟩)) U ?_)
  refine za (zg (v:=.int .i64 0) U ?_)
  refine zh ?_
  refine zx ?_
  exact zv (zq U (zq U zu)) H
def Gg2:Cert:=⟨[[],[],[1],[1,2],[1,2,3],[0,1,2,3,4],[0,1,2,3,4,5],[0,1,2,3,4,5,6],[0,1,2,3,4,5,6],[0,1,2,3,4,5,6,8],[0,1,2,3,4,5,6,8,9],[0,1,2,3,4,5,6,8,9,10],[0,1,2,3,4,5,6,7,8,9,10,11],[0,1,2,3,4,5,6],[0,1,2,3,4,5,6,13],[0,1,2,3,4,5,6,13,14],[0,1,2,3,4,5,6,13,14,15],[0,1,2,3,4,5,6,13,14,15,16],[0,1,2,3,4,5,6,7,8,9,10,11,12,13,14,15,16,17],[0,1,2,3,4,5,6,7,8,9,10,11,12,13,14,15,16,17,18],[0,1,2,3,4,5,6,7,8,9,10,11,12,13,14,15,16,17,18,19]],[false,false,false,false,false,false,false,false,false,false,false,false,false,false,false,false,false,true,false,false,false]⟩
def Gg3:Cert:=⟨[[],[0],[0,1],[0,1,2],[],[],[],[6],[6,7],[6,7,8],[5,6,7,8,9],[0,1,2,3,4,5,6,7,8,9,10]],[false,false,false,false,false,false,false,false,false,false,false,true]⟩
def Gg4:Cert:=⟨[[],[],[],[],[],[4],[4,5],[4,5,6],[],[],[],[],[10,11],[0],[0,13],[0,1,4,5,6,7,13,14],[0,1,4,5,6,7,13,14,15],[2],[2,17],[0,1,2,3,4,5,6,7,9,13,14,15,16,17,18],[0,1,2,3,4,5,6,7,9,13,14,15,16,17,18,19],[0,1,2,3,4,5,6,7,8,9,13,14,15,16,17,18,19,20],[0,1,2,3,4,5,6,7,8,9,13,14,15,16,17,18,19,20,21],[0,1,2,3,4,5,6,7,8,9,10,11,12,13,14,15,16,17,18,19,20,21,22]],[false,false,false,false,false,false,false,false,false,false,false,false,false,false,false,false,true,false,false,false,true,true,false,true]⟩
def Gbc (p0:Option Addr) (p1:Int) (p2:Int) (K:Int→Heap→Prop) (h:Heap):Prop:=
 ∃ (b1:Nat) (o2:Nat),p0=some ⟨b1,o2,none⟩∧∃ (x4:Option Nat),cellH h b1 (o2+2)=some (.map x4)∧∃ (l6:List (ME Int)) (n7:Nat),mapAt (Value.int .i64) h x4 l6 n7∧∃ (x9_0:Int) (x9_1:Int),(mlook l6 p1).getD (Value.agg #[.int .i64 0,.int .u64 0])=(Value.agg #[.int .i64 x9_0,.int .u64 x9_1])∧∀ (h11:Heap),h11=h.push (.cells #[.int .i64 0,.int .u64 0] 238 (0,0))→∃ (h14:Heap),stCells h.size h11 0 [.int .i64 x9_0,.int .u64 x9_1]=some h14∧(((decide (p1<0)) || (decide (65535<p1)))=true→K 1 h14)∧(((decide (p1<0)) || (decide (65535<p1)))=false→CallsH PR Gnq #[.int .u64 p2] h14 (fun v h17=>∃ (x19:Bool),v=(Value.bool x19)∧(x19=false→K 2 h17)∧(x19=true→(((mlook l6 p1).isSome)=true→K 7 h17)∧(((mlook l6 p1).isSome)=false→∃ (x20:Option Nat),cellH h17 b1 (o2+2)=some (.map x20)∧∃ (l22:List (ME Int)) (n23:Nat),mapAt (Value.int .i64) h17 x20 l22 n23∧(64≤(l22.length:Int)→K 4 h17)∧((¬ (64≤(l22.length:Int)))→∃ (x26:Int),cellH h17 b1 o2=some (.int .u64 x26)∧∃ (x29:Int),((¬ (p2<x26))→cellH h17 b1 o2=some (.int .u64 x29))∧∃ (x32:Option Addr),((¬ (p2<x26))→cellH h17 b1 (o2+1)=some (.pointer x32))∧∃ J37:Int→Heap→Prop,(∀ (x36:Int) (h34:Heap),J37 x36 h34→((¬ (p2<x26))→cellH h34 b1 o2=some (Value.int .u64 x29))∧(((decide (p2<x26)) || (decide ((IntKind.u64.wrap (p2 - x29))≤x36)))=true→K 11 h34)∧(((decide (p2<x26)) || (decide ((IntKind.u64.wrap (p2 - x29))≤x36)))=false→CallsH PR Git #[.pointer (some ⟨b1,o2,none⟩)] h34 (fun v h40=>∃ (x42:Int),v=(Value.int .i64 x42)∧∃ (x43:Option Addr),cellH h40 b1 (o2+1)=some (.pointer x43)∧∃ (x45:Int),cellH h40 b1 o2=some (.int .u64 x45)∧CallsH PR Gny #[.pointer x43,.int .i64 x42,.int .u64 (IntKind.u64.wrap (p2 - x45))] h40 (fun v h48=>∃ (x50:Int),v=(Value.int .i64 x50)∧∃ (x52:Option Nat),cellH h48 b1 (o2+2)=some (.map x52)∧(0≤x42∧x42<64)∧∃ (h56:Heap),stCells b1 h48 (o2+67+x42.toNat * 1) [.bool true]=some h56∧(0≤x42∧x42<64)∧∃ (h59:Heap),stCells b1 h56 (o2+3+x42.toNat * 1) [.int .i64 p1]=some h59∧∃ (r60:Nat),x52=some r60∧∃ (l61:List (ME Int)) (n62:Nat),h59[r60]? = some (mobj (Value.int .i64) l61 n62)∧∀ (h65:Heap),h65=h59.setIfInBounds r60 (mobj (Value.int .i64) (mput l61 p1 ((mlook l61 p1).getD (Value.agg #[.int .i64 0,.int .u64 0])) n62) (mclk l61 p1 n62))→(h65[r60]? = some (mobj (Value.int .i64) (mput l61 p1 ((mlook l61 p1).getD (Value.agg #[.int .i64 0,.int .u64 0])) n62) (mclk l61 p1 n62))∧mapOk l61 n62)∧∀ (h67:Heap),h67=h65.setIfInBounds r60 (mobj (Value.int .i64) (mput l61 p1 (Value.agg #[.int .i64 x42,.int .u64 p2]) n62) (mclk l61 p1 n62))→K 0 h67))))∧((¬ (p2<x26))→CallsH PR Gnx #[.pointer x32] h17 (fun v h34=>∃ (x36:Int),v=(Value.int .u64 x36)∧J37 x36 h34))∧((p2<x26)→∃ (x36:Int),J37 x36 h17))))))
theorem Gbd (p0:Option Addr) (p1:Int) (p2:Int) (R:Value→Heap→Prop) (h:Heap) (H:Gbc p0 p1 p2 (fun r0 h'=>R (Value.int .i64 r0) h') h):CallsH PR Gip #[.pointer p0,.int .i64 p1,.int .u64 p2] h R:=by
 refine zD (args:=[.pointer p0,.int .i64 p1,.int .u64 p2]) Tryz.func68 U U ?_
 intro f hf
 have e0:=hf 0 _ rfl
 have e1:=hf 1 _ rfl
 have e2:=hf 2 _ rfl
 clear hf
 unfold Gbc at H
 refine ze ?_
 refine zc U ?_
 refine za (zg (v:=.int .i64 0) U ?_)
 refine zh ?_
 refine ze ?_
 refine zc U ?_
 refine za (zd (v:=.pointer p0) e0 ?_)
 obtain⟨b1,o2,rfl,H⟩:=H
 refine za (zj U ?_)
 refine za (zf U fo_245_2 ?_)
 obtain⟨x4,c5,H⟩:=H
 refine za (zk U ag_241 c5 ?_)
 refine za (zd (v:=.int .i64 p1) e1 ?_)
 obtain⟨l6,n7,c8,H⟩:=H
 obtain⟨x9_0,x9_1,c10,H⟩:=H
 refine za (op_lookup_ok' (zZ .i64) mt_241 z_238 U U c8 c10 ?_)
 refine za (zd (v:=.tuple #[.agg #[.int .i64 x9_0,.int .u64 x9_1],.bool ((mlook l6 p1).isSome)]) U ?_)
 refine za (zB U U ?_)
 refine za (zB U U ?_)
 obtain⟨h11,c12⟩ : ∃ h11,h11=h.push (.cells #[.int .i64 0,.int .u64 0] 238 (0,0)):=⟨_,rfl⟩
 replace H:=H h11 c12
 refine za (zW z_238 c12 ?_)
 obtain⟨h14,c13,H⟩:=H
 refine za (zI (v:=.agg #[.int .i64 x9_0,.int .u64 x9_1]) U U sz_238 U c13 ?_)
 refine za (zg (v:=.bool ((mlook l6 p1).isSome)) U ?_)
 refine zh ?_
 refine ze ?_
 refine zK ?_
 refine ze ?_
 refine zc U ?_
 refine za (zd (v:=.int .i64 p1) e1 ?_)
 refine za (zY U U ?_)
 refine za (zd (v:=.bool (decide (p1<0))) U ?_)
 refine zF (b:=!(decide (p1<0))) (zi U U) (Z .i64 p1) (fun hb N hN=>zd (v:=.int .i64 p1) e1 hN) ?_
 refine zF (b:=!(decide (p1<0))) (zi U U) (W (decide (65535<p1))) (fun hb N hN=>yj (gv hb) U hN) ?_
 refine za (zR U U (fun hq=>(gv (zP hq))) ?_)
 refine za (zg (v:=.bool ((decide (p1<0)) || (decide (65535<p1)))) U ?_)
 refine zh ?_
 refine zz ((decide (p1<0)) || (decide (65535<p1))) U ?_ ?_
 ·intro hb
  replace H:=H.1 hb
  refine ze ?_
  refine zc U ?_
  refine za (zg (v:=.int .i64 1) U ?_)
  refine zh ?_
  refine zx ?_
  exact zv (zq U zu) H
 ·intro hb
  replace H:=H.2 hb
  refine ze ?_
  refine zc U ?_
  refine za (zd (v:=.int .u64 p2) e2 ?_)
  refine za (zG (vs:=[.int .u64 p2]) en_117 (zm U zy) (CallsH.mono H ?_))
  clear H
  rintro _ h17 ⟨x19,rfl,H⟩
  refine za (yi U ?_)
  refine za (zg (v:=.bool (!x19)) U ?_)
  refine zh ?_
  refine zz (!x19) U ?_ ?_
  ·intro hb
   replace H:=H.1 (zt hb)
   refine ze ?_
   refine zc U ?_
   refine za (zg (v:=.int .i64 2) U ?_)
   refine zh ?_
   refine zx ?_
   exact zv (zq U zu) H
  ·intro hb
   replace H:=H.2 (zL hb)
   refine ze ?_
   refine zc U ?_
   refine za (zd (v:=.bool ((mlook l6 p1).isSome)) U ?_)
   refine za (zg (v:=.bool ((mlook l6 p1).isSome)) U ?_)
   refine zh ?_
   refine zz ((mlook l6 p1).isSome) U ?_ ?_
   ·intro hb
    replace H:=H.1 hb
    refine ze ?_
    refine zc U ?_
    refine za (zg (v:=.int .i64 7) U ?_)
    refine zh ?_
    refine zx ?_
    exact zv (zq U zu) H
   ·intro hb
    replace H:=H.2 hb
    refine ze ?_
    refine zc U ?_
    refine za (zd (v:=.pointer (some ⟨b1,o2,none⟩)) e0 ?_)
    refine za (zj U ?_)
    refine za (zf U fo_245_2 ?_)
    obtain⟨x20,c21,H⟩:=H
    refine za (zk U ag_241 c21 ?_)
    obtain⟨l22,n23,c24,H⟩:=H
    refine za (op_len_map un_241 U c24 ?_)
    refine za (op_geq U U ?_)
    refine za (zg (v:=.bool (decide (64≤(l22.length:Int)))) U ?_)
    refine zh ?_
    refine zz (decide (64≤(l22.length:Int))) U ?_ ?_
    ·intro hb
     replace H:=H.1 (zo hb)
     refine ze ?_
     refine zc U ?_
     refine za (zg (v:=.int .i64 4) U ?_)
     refine zh ?_
     refine zx ?_
     exact zv (zq U zu) H
    ·intro hb
     replace H:=H.2 (zn hb)
     refine ze ?_
     obtain⟨x26,c27,H⟩:=H
     obtain⟨x29,c30,H⟩:=H
     obtain⟨x32,c33,H⟩:=H
     refine zO Gg2 1 [(Z .u64 p2),(Y (some ⟨b1,o2,none⟩)),(Y (some ⟨b1,o2,none⟩)),(Y (some ⟨b1,o2,none⟩)),(Z .u64 x26),(W (decide (p2<x26))),(W (decide (p2<x26))),(bif !(decide (p2<x26)) then (Z .u64 p2) else undef),(bif !(decide (p2<x26)) then (Y (some ⟨b1,o2,none⟩)) else undef),(bif !(decide (p2<x26)) then (Y (some ⟨b1,o2,none⟩)) else undef),(bif !(decide (p2<x26)) then (Y (some ⟨b1,o2,none⟩)) else undef),(bif !(decide (p2<x26)) then (Z .u64 x29) else undef),(bif !(decide (p2<x26)) then (Z .u64 (IntKind.u64.wrap (p2 - x29))) else undef),(bif !(decide (p2<x26)) then (Y (some ⟨b1,o2,none⟩)) else undef),(bif !(decide (p2<x26)) then (Y (some ⟨b1,o2,none⟩)) else undef),(bif !(decide (p2<x26)) then (Y (some ⟨b1,o2+1,none⟩)) else undef),(bif !(decide (p2<x26)) then (Y x32) else undef),undef,undef,undef,undef] (by kernel_rfl) U mixed_PR ?_
     refine zA [17] (by decide) U (zw [0,1,2,3,4,5,6,7,8,9,10,11,12,13,14,15,16] U ⟨zb U U (zd (v:=.int .u64 p2) e2 ⟨U,U⟩),zb U U (zd (v:=.pointer (some ⟨b1,o2,none⟩)) e0 ⟨U,U⟩),zb U U (zj U ⟨U,U⟩),zb U U (zf U fo_245_0 ⟨U,U⟩),zb U U (zk U ag_37 c27 ⟨U,U⟩),zb U U (zY U U ⟨U,U⟩),zb U U (zd (v:=.bool (decide (p2<x26))) U ⟨U,U⟩),zr (b:=!(decide (p2<x26))) U U (zi U U) (fun hb=>zd (v:=.int .u64 p2) e2 ⟨zs hb,U⟩) (fun hb=>⟨zp hb,U⟩),zr (b:=!(decide (p2<x26))) U U (zi U U) (fun hb=>zd (v:=.pointer (some ⟨b1,o2,none⟩)) e0 ⟨zs hb,U⟩) (fun hb=>⟨zp hb,U⟩),zr (b:=!(decide (p2<x26))) U U (zi U U) (fun hb=>zj (gv hb) ⟨zs hb,U⟩) (fun hb=>⟨zp hb,U⟩),zr (b:=!(decide (p2<x26))) U U (zi U U) (fun hb=>zf (gv hb) fo_245_0 ⟨zs hb,U⟩) (fun hb=>⟨zp hb,U⟩),zr (b:=!(decide (p2<x26))) U U (zi U U) (fun hb=>zk (gv hb) ag_37 (c30 (zn (zt hb))) ⟨zs hb,U⟩) (fun hb=>⟨zp hb,U⟩),zr (b:=!(decide (p2<x26))) U U (zi U U) (fun hb=>op_sub (gv hb) (gv hb) U ⟨zs hb,U⟩) (fun hb=>⟨zp hb,U⟩),zr (b:=!(decide (p2<x26))) U U (zi U U) (fun hb=>zd (v:=.pointer (some ⟨b1,o2,none⟩)) e0 ⟨zs hb,U⟩) (fun hb=>⟨zp hb,U⟩),zr (b:=!(decide (p2<x26))) U U (zi U U) (fun hb=>zj (gv hb) ⟨zs hb,U⟩) (fun hb=>⟨zp hb,U⟩),zr (b:=!(decide (p2<x26))) U U (zi U U) (fun hb=>zf (gv hb) fo_245_1 ⟨zs hb,U⟩) (fun hb=>⟨zp hb,U⟩),zr (b:=!(decide (p2<x26))) U U (zi U U) (fun hb=>zk (gv hb) ag_240 (c33 (zn (zt hb))) ⟨zs hb,U⟩) (fun hb=>⟨zp hb,U⟩),V⟩) U ⟨?_,V⟩
     obtain⟨J37,HR,HT,HF⟩:=H
     refine stepAt_gl (b:=!(decide (p2<x26))) U U (zi U U) (fun v h34=>∃ (x36:Int),v=(bif !(decide (p2<x26)) then (Z .u64 x36) else undef)∧J37 x36 h34) ?_ ?_ ?_
     ·rintro _ h34 ⟨x36,rfl,hJ⟩
      have H:=HR x36 h34 hJ
      obtain⟨c38,H⟩:=H
      refine⟨[(Value.int .u64 p2),(Value.pointer (some ⟨b1,o2,none⟩)),(Value.pointer (some ⟨b1,o2,none⟩)),(Value.pointer (some ⟨b1,o2,none⟩)),(Value.int .u64 x26),(Value.bool (decide (p2<x26))),(Value.bool (decide (p2<x26))),(bif !(decide (p2<x26)) then (Value.int .u64 p2) else undef),(bif !(decide (p2<x26)) then (Value.pointer (some ⟨b1,o2,none⟩)) else undef),(bif !(decide (p2<x26)) then (Value.pointer (some ⟨b1,o2,none⟩)) else undef),(bif !(decide (p2<x26)) then (Value.pointer (some ⟨b1,o2,none⟩)) else undef),(bif !(decide (p2<x26)) then (Value.int .u64 x29) else undef),(bif !(decide (p2<x26)) then (Value.int .u64 (IntKind.u64.wrap (p2 - x29))) else undef),(bif !(decide (p2<x26)) then (Value.pointer (some ⟨b1,o2,none⟩)) else undef),(bif !(decide (p2<x26)) then (Value.pointer (some ⟨b1,o2,none⟩)) else undef),(bif !(decide (p2<x26)) then (Value.pointer (some ⟨b1,o2+1,none⟩)) else undef),(bif !(decide (p2<x26)) then (Value.pointer x32) else undef),(bif !(decide (p2<x26)) then (Value.int .u64 x36) else undef),(bif !(decide (p2<x26)) then (Value.bool (decide ((IntKind.u64.wrap (p2 - x29))≤x36))) else undef),(Value.bool ((decide (p2<x26)) || (decide ((IntKind.u64.wrap (p2 - x29))≤x36)))),(Value.bool ((decide (p2<x26)) || (decide ((IntKind.u64.wrap (p2 - x29))≤x36))))],rfl,(zH [0,1,2,3,4,5,6,7,8,9,10,11,12,13,14,15,16] rfl ⟨rfl,rfl,rfl,rfl,rfl,rfl,rfl,rfl,rfl,rfl,rfl,rfl,rfl,rfl,rfl,rfl,rfl,trivial⟩),?_⟩
      refine zJ U (zw [7,8,9,10,11,12,18,19,20] U ⟨zr (b:=!(decide (p2<x26))) U U (zi U U) (fun hb=>zd (v:=.int .u64 p2) e2 ⟨zs hb,U⟩) (fun hb=>⟨zp hb,U⟩),zr (b:=!(decide (p2<x26))) U U (zi U U) (fun hb=>zd (v:=.pointer (some ⟨b1,o2,none⟩)) e0 ⟨zs hb,U⟩) (fun hb=>⟨zp hb,U⟩),zr (b:=!(decide (p2<x26))) U U (zi U U) (fun hb=>zj (gv hb) ⟨zs hb,U⟩) (fun hb=>⟨zp hb,U⟩),zr (b:=!(decide (p2<x26))) U U (zi U U) (fun hb=>zf (gv hb) fo_245_0 ⟨zs hb,U⟩) (fun hb=>⟨zp hb,U⟩),zr (b:=!(decide (p2<x26))) U U (zi U U) (fun hb=>zk (gv hb) ag_37 (c38 (zn (zt hb))) ⟨zs hb,U⟩) (fun hb=>⟨zp hb,U⟩),zr (b:=!(decide (p2<x26))) U U (zi U U) (fun hb=>op_sub (gv hb) (gv hb) U ⟨zs hb,U⟩) (fun hb=>⟨zp hb,U⟩),zr (b:=!(decide (p2<x26))) U U (zi U U) (fun hb=>op_leq (gv hb) (gv hb) ⟨zs hb,U⟩) (fun hb=>⟨zp hb,U⟩),zb U U (zR U U (fun hq=>(gv (zP hq))) ⟨U,U⟩),zb U U (zg (v:=.bool ((decide (p2<x26)) || (decide ((IntKind.u64.wrap (p2 - x29))≤x36)))) U ⟨U,U⟩),V⟩) U ?_
      refine zz ((decide (p2<x26)) || (decide ((IntKind.u64.wrap (p2 - x29))≤x36))) U ?_ ?_
      ·intro hb
       replace H:=H.1 hb
       refine ze ?_
       refine zc U ?_
       refine za (zg (v:=.int .i64 11) U ?_)
       refine zh ?_
       refine zx ?_
       exact zv (zq U zu) H
      ·intro hb
       replace H:=H.2 hb
       refine zC ?_
       refine ze ?_
       refine zc U ?_
       refine za (zd (v:=.pointer (some ⟨b1,o2,none⟩)) e0 ?_)
       refine za (zG (vs:=[.pointer (some ⟨b1,o2,none⟩)]) en_126 (zm U zy) (CallsH.mono H ?_))
       clear H
       rintro _ h40 ⟨x42,rfl,H⟩
       refine za (zg (v:=.int .i64 x42) U ?_)
       refine zh ?_
       refine ze ?_
       obtain⟨x43,c44,H⟩:=H
       obtain⟨x45,c46,H⟩:=H
       refine zO Gg3 1 [(Y (some ⟨b1,o2,none⟩)),(Y (some ⟨b1,o2,none⟩)),(Y (some ⟨b1,o2+1,none⟩)),(Y x43),(Z .i64 x42),(Z .u64 p2),(Y (some ⟨b1,o2,none⟩)),(Y (some ⟨b1,o2,none⟩)),(Y (some ⟨b1,o2,none⟩)),(Z .u64 x45),(Z .u64 (IntKind.u64.wrap (p2 - x45))),undef] (by kernel_rfl) U mixed_PR ?_
       refine zA [11] (by decide) U (zw [0,1,2,3,4,5,6,7,8,9,10] U ⟨zb U U (zd (v:=.pointer (some ⟨b1,o2,none⟩)) e0 ⟨U,U⟩),zb U U (zj U ⟨U,U⟩),zb U U (zf U fo_245_1 ⟨U,U⟩),zb U U (zk U ag_240 c44 ⟨U,U⟩),zb U U (zd (v:=.int .i64 x42) U ⟨U,U⟩),zb U U (zd (v:=.int .u64 p2) e2 ⟨U,U⟩),zb U U (zd (v:=.pointer (some ⟨b1,o2,none⟩)) e0 ⟨U,U⟩),zb U U (zj U ⟨U,U⟩),zb U U (zf U fo_245_0 ⟨U,U⟩),zb U U (zk U ag_37 c46 ⟨U,U⟩),zb U U (op_sub U U U ⟨U,U⟩),V⟩) U ⟨?_,V⟩
       refine zb U U (zG (vs:=[.pointer x43,.int .i64 x42,.int .u64 (IntKind.u64.wrap (p2 - x45))]) en_127 (zm U (zm U (zm U zy))) (CallsH.mono H ?_))
       clear H
       rintro _ h48 ⟨x50,rfl,H⟩
       refine⟨[(Value.pointer (some ⟨b1,o2,none⟩)),(Value.pointer (some ⟨b1,o2,none⟩)),(Value.pointer (some ⟨b1,o2+1,none⟩)),(Value.pointer x43),(Value.int .i64 x42),(Value.int .u64 p2),(Value.pointer (some ⟨b1,o2,none⟩)),(Value.pointer (some ⟨b1,o2,none⟩)),(Value.pointer (some ⟨b1,o2,none⟩)),(Value.int .u64 x45),(Value.int .u64 (IntKind.u64.wrap (p2 - x45))),(Value.int .i64 x50)],rfl,(zH [0,1,2,3,4,5,6,7,8,9,10] rfl ⟨rfl,rfl,rfl,rfl,rfl,rfl,rfl,rfl,rfl,rfl,rfl,trivial⟩),?_⟩
       refine zJ U (zw [] U V) U ?_
       refine ze ?_
       refine wpf_forget ?_
       intro fg51 hfg51
       have ag51_0:fg51 0=(Value.pointer (some ⟨b1,o2,none⟩)):=by rw [hfg51]; exact e0
       have ag51_1:fg51 1=(Value.int .i64 p1):=by rw [hfg51]; exact e1
       have ag51_2:fg51 2=(Value.int .u64 p2):=by rw [hfg51]; exact e2
       have ag51_3:fg51 9=(Value.int .i64 x42):=by rw [hfg51]; exact rfl
       clear hfg51
       obtain⟨x52,c53,H⟩:=H
       obtain⟨c54,H⟩:=H
       refine zO Gg4 4 [(Y (some ⟨b1,o2,none⟩)),(Z .i64 x42),(Y (some ⟨b1,o2,none⟩)),(Z .i64 x42),(Y (some ⟨b1,o2,none⟩)),(Y (some ⟨b1,o2,none⟩)),(Y (some ⟨b1,o2+2,none⟩)),(Value.map x52),(Z .i64 p1),(Z .i64 p1),(Z .i64 x42),(Z .u64 p2),(X #[.int .i64 x42,.int .u64 p2]),(Y (some ⟨b1,o2,none⟩)),(Y (some ⟨b1,o2+67,none⟩)),(Y (some ⟨b1,o2+67+x42.toNat * 1,none⟩)),undef,(Y (some ⟨b1,o2,none⟩)),(Y (some ⟨b1,o2+3,none⟩)),undef,undef,undef,undef,undef] (by kernel_rfl) U mixed_PR ?_
       refine zA [16] (by decide) U (zw [0,1,2,3,4,5,6,7,8,9,10,11,12,13,14,15,17,18] U ⟨zb U U (zd (v:=.pointer (some ⟨b1,o2,none⟩)) ag51_0 ⟨U,U⟩),zb U U (zd (v:=.int .i64 x42) ag51_3 ⟨U,U⟩),zb U U (zd (v:=.pointer (some ⟨b1,o2,none⟩)) ag51_0 ⟨U,U⟩),zb U U (zd (v:=.int .i64 x42) ag51_3 ⟨U,U⟩),zb U U (zd (v:=.pointer (some ⟨b1,o2,none⟩)) ag51_0 ⟨U,U⟩),zb U U (zj U ⟨U,U⟩),zb U U (zf U fo_245_2 ⟨U,U⟩),zb U U (zk U ag_241 c53 ⟨U,U⟩),zb U U (zd (v:=.int .i64 p1) ag51_1 ⟨U,U⟩),zb U U (zd (v:=.int .i64 p1) ag51_1 ⟨U,U⟩),zb U U (zd (v:=.int .i64 x42) ag51_3 ⟨U,U⟩),zb U U (zd (v:=.int .u64 p2) ag51_2 ⟨U,U⟩),zb U U (zX (vs:=[(0,.int .i64 x42),(1,.int .u64 p2)]) (cs:=#[.int .i64 x42,.int .u64 p2]) z_238 fs_238 (zM U (zM U zT)) U ⟨U,U⟩),zb U U (zj U ⟨U,U⟩),zb U U (zf U fo_245_4 ⟨U,U⟩),zb U U (zQ U U ei_243 c54 ⟨U,U⟩),zb U U (zj U ⟨U,U⟩),zb U U (zf U fo_245_3 ⟨U,U⟩),V⟩) U ⟨?_,V⟩
       obtain⟨h56,c55,H⟩:=H
       refine zb U U (zI (v:=.bool true) U U sz_4 U c55 ?_)
       obtain⟨c57,H⟩:=H
       refine⟨[(Value.pointer (some ⟨b1,o2,none⟩)),(Value.int .i64 x42),(Value.pointer (some ⟨b1,o2,none⟩)),(Value.int .i64 x42),(Value.pointer (some ⟨b1,o2,none⟩)),(Value.pointer (some ⟨b1,o2,none⟩)),(Value.pointer (some ⟨b1,o2+2,none⟩)),(Value.map x52),(Value.int .i64 p1),(Value.int .i64 p1),(Value.int .i64 x42),(Value.int .u64 p2),(Value.agg #[.int .i64 x42,.int .u64 p2]),(Value.pointer (some ⟨b1,o2,none⟩)),(Value.pointer (some ⟨b1,o2+67,none⟩)),(Value.pointer (some ⟨b1,o2+67+x42.toNat * 1,none⟩)),undef,(Value.pointer (some ⟨b1,o2,none⟩)),(Value.pointer (some ⟨b1,o2+3,none⟩)),(Value.pointer (some ⟨b1,o2+3+x42.toNat * 1,none⟩)),undef,undef,undef,undef],rfl,(zH [0,1,2,3,4,5,6,7,8,9,10,11,12,13,14,15,17,18] rfl ⟨rfl,rfl,rfl,rfl,rfl,rfl,rfl,rfl,rfl,rfl,rfl,rfl,rfl,rfl,rfl,rfl,rfl,rfl,trivial⟩),?_⟩
       refine zA [20] (by decide) U (zw [2,3,8,9,10,11,12,17,18,19] U ⟨zb U U (zd (v:=.pointer (some ⟨b1,o2,none⟩)) ag51_0 ⟨U,U⟩),zb U U (zd (v:=.int .i64 x42) ag51_3 ⟨U,U⟩),zb U U (zd (v:=.int .i64 p1) ag51_1 ⟨U,U⟩),zb U U (zd (v:=.int .i64 p1) ag51_1 ⟨U,U⟩),zb U U (zd (v:=.int .i64 x42) ag51_3 ⟨U,U⟩),zb U U (zd (v:=.int .u64 p2) ag51_2 ⟨U,U⟩),zb U U (zX (vs:=[(0,.int .i64 x42),(1,.int .u64 p2)]) (cs:=#[.int .i64 x42,.int .u64 p2]) z_238 fs_238 (zM U (zM U zT)) U ⟨U,U⟩),zb U U (zj U ⟨U,U⟩),zb U U (zf U fo_245_3 ⟨U,U⟩),zb U U (zQ U U ei_242 c57 ⟨U,U⟩),V⟩) U ⟨?_,V⟩
       obtain⟨h59,c58,H⟩:=H
       refine zb U U (zI (v:=.int .i64 p1) U U sz_3 U c58 ?_)
       refine⟨[(Value.pointer (some ⟨b1,o2,none⟩)),(Value.int .i64 x42),(Value.pointer (some ⟨b1,o2,none⟩)),(Value.int .i64 x42),(Value.pointer (some ⟨b1,o2,none⟩)),(Value.pointer (some ⟨b1,o2,none⟩)),(Value.pointer (some ⟨b1,o2+2,none⟩)),(Value.map x52),(Value.int .i64 p1),(Value.int .i64 p1),(Value.int .i64 x42),(Value.int .u64 p2),(Value.agg #[.int .i64 x42,.int .u64 p2]),(Value.pointer (some ⟨b1,o2,none⟩)),(Value.pointer (some ⟨b1,o2+67,none⟩)),(Value.pointer (some ⟨b1,o2+67+x42.toNat * 1,none⟩)),undef,(Value.pointer (some ⟨b1,o2,none⟩)),(Value.pointer (some ⟨b1,o2+3,none⟩)),(Value.pointer (some ⟨b1,o2+3+x42.toNat * 1,none⟩)),undef,undef,undef,undef],rfl,(zH [0,1,2,3,4,5,6,7,8,9,10,11,12,13,14,15,16,17,18,19] rfl ⟨rfl,rfl,rfl,rfl,rfl,rfl,rfl,rfl,rfl,rfl,rfl,rfl,rfl,rfl,rfl,rfl,rfl,rfl,rfl,rfl,trivial⟩),?_⟩
       refine zA [21] (by decide) U (zw [8,10,11,12] U ⟨zb U U (zd (v:=.int .i64 p1) ag51_1 ⟨U,U⟩),zb U U (zd (v:=.int .i64 x42) ag51_3 ⟨U,U⟩),zb U U (zd (v:=.int .u64 p2) ag51_2 ⟨U,U⟩),zb U U (zX (vs:=[(0,.int .i64 x42),(1,.int .u64 p2)]) (cs:=#[.int .i64 x42,.int .u64 p2]) z_238 fs_238 (zM U (zM U zT)) U ⟨U,U⟩),V⟩) U ⟨?_,V⟩
       obtain⟨r60,rfl,H⟩:=H
       obtain⟨l61,n62,c64,H⟩:=H
       obtain⟨h65,c66⟩ : ∃ h65,h65=h59.setIfInBounds r60 (mobj (Value.int .i64) (mput l61 p1 ((mlook l61 p1).getD (Value.agg #[.int .i64 0,.int .u64 0])) n62) (mclk l61 p1 n62)):=⟨_,rfl⟩
       replace H:=H h65 c66
       refine zb U U (op_mapEntry2 (zZ .i64) mt_241 z_238 U U c64 U c66 ?_)
       refine⟨[(Value.pointer (some ⟨b1,o2,none⟩)),(Value.int .i64 x42),(Value.pointer (some ⟨b1,o2,none⟩)),(Value.int .i64 x42),(Value.pointer (some ⟨b1,o2,none⟩)),(Value.pointer (some ⟨b1,o2,none⟩)),(Value.pointer (some ⟨b1,o2+2,none⟩)),(Value.map (some r60)),(Value.int .i64 p1),(Value.int .i64 p1),(Value.int .i64 x42),(Value.int .u64 p2),(Value.agg #[.int .i64 x42,.int .u64 p2]),(Value.pointer (some ⟨b1,o2,none⟩)),(Value.pointer (some ⟨b1,o2+67,none⟩)),(Value.pointer (some ⟨b1,o2+67+x42.toNat * 1,none⟩)),undef,(Value.pointer (some ⟨b1,o2,none⟩)),(Value.pointer (some ⟨b1,o2+3,none⟩)),(Value.pointer (some ⟨b1,o2+3+x42.toNat * 1,none⟩)),undef,(Value.tuple #[((mlook l61 p1).getD (Value.agg #[.int .i64 0,.int .u64 0])),.int .i64 ((mstamp l61 p1 n62:Nat):Int)]),(Value.int .i64 ((mstamp l61 p1 n62:Nat):Int)),undef],rfl,(zH [0,1,2,3,4,5,6,7,8,9,10,11,12,13,14,15,16,17,18,19,20] rfl ⟨rfl,rfl,rfl,rfl,rfl,rfl,rfl,rfl,rfl,rfl,rfl,rfl,rfl,rfl,rfl,rfl,rfl,rfl,rfl,rfl,rfl,trivial⟩),?_⟩
       refine zA [23] (by decide) U (zw [10,11,12,22] U ⟨zb U U (zd (v:=.int .i64 x42) ag51_3 ⟨U,U⟩),zb U U (zd (v:=.int .u64 p2) ag51_2 ⟨U,U⟩),zb U U (zX (vs:=[(0,.int .i64 x42),(1,.int .u64 p2)]) (cs:=#[.int .i64 x42,.int .u64 p2]) z_238 fs_238 (zM U (zM U zT)) U ⟨U,U⟩),zb U U (zB U U ⟨U,U⟩),V⟩) U ⟨?_,V⟩
       obtain⟨c68,H⟩:=H
       obtain⟨h67,c69⟩ : ∃ h67,h67=h65.setIfInBounds r60 (mobj (Value.int .i64) (mput l61 p1 (Value.agg #[.int .i64 x42,.int .u64 p2]) n62) (mclk l61 p1 n62)):=⟨_,rfl⟩
       replace H:=H h67 c69
       refine zb U U (op_entryStore2 (v:=.agg #[.int .i64 x42,.int .u64 p2]) U U U c68 c69 ?_)
       refine⟨[(Value.pointer (some ⟨b1,o2,none⟩)),(Value.int .i64 x42),(Value.pointer (some ⟨b1,o2,none⟩)),(Value.int .i64 x42),(Value.pointer (some ⟨b1,o2,none⟩)),(Value.pointer (some ⟨b1,o2,none⟩)),(Value.pointer (some ⟨b1,o2+2,none⟩)),(Value.map (some r60)),(Value.int .i64 p1),(Value.int .i64 p1),(Value.int .i64 x42),(Value.int .u64 p2),(Value.agg #[.int .i64 x42,.int .u64 p2]),(Value.pointer (some ⟨b1,o2,none⟩)),(Value.pointer (some ⟨b1,o2+67,none⟩)),(Value.pointer (some ⟨b1,o2+67+x42.toNat * 1,none⟩)),undef,(Value.pointer (some ⟨b1,o2,none⟩)),(Value.pointer (some ⟨b1,o2+3,none⟩)),(Value.pointer (some ⟨b1,o2+3+x42.toNat * 1,none⟩)),undef,(Value.tuple #[((mlook l61 p1).getD (Value.agg #[.int .i64 0,.int .u64 0])),.int .i64 ((mstamp l61 p1 n62:Nat):Int)]),(Value.int .i64 ((mstamp l61 p1 n62:Nat):Int)),undef],rfl,(zH [0,1,2,3,4,5,6,7,8,9,10,11,12,13,14,15,16,17,18,19,20,21,22] rfl ⟨rfl,rfl,rfl,rfl,rfl,rfl,rfl,rfl,rfl,rfl,rfl,rfl,rfl,rfl,rfl,rfl,rfl,rfl,rfl,rfl,rfl,rfl,rfl,trivial⟩),?_⟩
       refine zJ U (zw [] U V) U ?_
       refine ze ?_
       refine zc U ?_
       refine za (zg (v:=.int .i64 0) U ?_)
       refine zh ?_
       refine zx ?_
       exact zv (zq U zu) H
     ·intro hb
      refine zG (vs:=[.pointer x32]) en_125 (zm (gv hb) zy) (CallsH.mono (HT (zn (zt hb))) ?_)
      rintro _ h34 ⟨x36,rfl,hJ⟩
      exact⟨x36,zs hb,hJ⟩
     ·intro hb
      obtain⟨x36,hJ⟩:=HF (zo (zL hb))
      exact⟨x36,zp hb,hJ⟩
def Gb8 (p0:Option Addr) (p1:Int) (K:Option Addr→Nat→Nat→Int→Heap→Prop) (h:Heap):Prop:=
 ∃ (b1:Nat) (o2:Nat),p0=some ⟨b1,o2,none⟩∧∃ (x4:Option Addr),cellH h b1 (o2+1)=some (.pointer x4)∧CallsH PR Gnv #[.pointer x4,.int .u64 p1] h (fun v h6=>∃ (x8a:Option Addr) (x8n:Nat) (x8c:Nat) (x9:Int),v=(Value.tuple #[.slice x8a x8n x8c,.int .i64 x9])∧((¬ (x9=0))→K none 0 0 x9 h6)∧(x9=0→CallsH PR Gis #[.pointer (some ⟨b1,o2,none⟩),.slice x8a x8n x8c] h6 (fun v h11=>∃ (x13a:Option Addr) (x13n:Nat) (x13c:Nat),v=(Value.slice x13a x13n x13c)∧∃ (I15:Int→Heap→Prop) (mu16:Int→Heap→Nat),I15 0 h11∧∀ (x14:Int) (h18:Heap),I15 x14 h18→(x14<(x13n:Int)→∃ (b21:Nat) (o22:Nat),x13a=some ⟨b21,o22,none⟩∧(0≤x14∧x14<(x13n:Int))∧∃ (x24:Int),cellH h18 b21 (o22+x14.toNat * 1)=some (.int .i64 x24)∧CallsH PR Gir #[.pointer (some ⟨b1,o2,none⟩),.int .i64 x24,.int .i64 2,.int .i64 1] h18 (fun v h26=>∃ (x28:Int),v=(Value.int .i64 x28)∧(-9223372036854775808≤x14+1∧x14+1<9223372036854775808)∧(I15 (x14+1) h26∧mu16 (x14+1) h26<mu16 x14 h18)))∧((¬ (x14<(x13n:Int)))→∃ (x30a:Option Addr) (x30n:Nat) (x30c:Nat),cellH h18 b1 (o2+131)=some (.slice x30a x30n x30c)∧∃ (h33:Heap),stCells b1 h18 (o2+131) [.slice none 0 0]=some h33∧K x30a x30n x30c 0 h33))))
theorem Gb9 (p0:Option Addr) (p1:Int) (R:Value→Heap→Prop) (h:Heap) (H:Gb8 p0 p1 (fun r0a r0n r0c r1 h'=>R (Value.tuple #[.slice r0a r0n r0c,.int .i64 r1]) h') h):CallsH PR Gin #[.pointer p0,.int .u64 p1] h R:=by
 refine zD (args:=[.pointer p0,.int .u64 p1]) Tryz.func94 U U ?_
 intro f hf
 have e0:=hf 0 _ rfl
 have e1:=hf 1 _ rfl
 clear hf
 unfold Gb8 at H
 refine ze ?_
 refine zc U ?_
 refine za (zg (v:=.slice none 0 0) U ?_)
 refine za (zg (v:=.int .i64 0) U ?_)
 refine zh ?_
 refine ze ?_
 refine zc U ?_
 refine za (zd (v:=.pointer p0) e0 ?_)
 obtain⟨b1,o2,rfl,H⟩:=H
 refine za (zj U ?_)
 refine za (zf U fo_245_1 ?_)
 obtain⟨x4,c5,H⟩:=H
 refine za (zk U ag_240 c5 ?_)
 refine za (zd (v:=.int .u64 p1) e1 ?_)
 refine za (zG (vs:=[.pointer x4,.int .u64 p1]) en_148 (zm U (zm U zy)) (CallsH.mono H ?_))
 clear H
 rintro _ h6 ⟨x8a,x8n,x8c,x9,rfl,H⟩
 refine za (zd (v:=.tuple #[.slice x8a x8n x8c,.int .i64 x9]) U ?_)
 refine za (zB U U ?_)
 refine za (zB U U ?_)
 refine za (zg (v:=.slice x8a x8n x8c) U ?_)
 refine za (zg (v:=.int .i64 x9) U ?_)
 refine zh ?_
 refine ze ?_
 refine ze ?_
 refine zc U ?_
 refine za (zd (v:=.int .i64 x9) U ?_)
 refine za (op_neq U U ?_)
 refine zh ?_
 refine zz (!decide (x9=0)) U ?_ ?_
 ·intro hb
  replace H:=H.1 (zn (zt hb))
  refine ze ?_
  refine zc U ?_
  refine za (zd (v:=.int .i64 x9) U ?_)
  refine za (zg (v:=.slice none 0 0) U ?_)
  refine za (zg (v:=.int .i64 x9) U ?_)
  refine zh ?_
  refine zx ?_
  exact zv (zq U (zq U zu)) H
 ·intro hb
  replace H:=H.2 (zo (zL hb))
  refine zC ?_
  refine ze ?_
  refine ze ?_
  refine zc U ?_
  refine za (zd (v:=.pointer (some ⟨b1,o2,none⟩)) e0 ?_)
  refine za (zd (v:=.slice x8a x8n x8c) U ?_)
  refine za (zG (vs:=[.pointer (some ⟨b1,o2,none⟩),.slice x8a x8n x8c]) en_149 (zm U (zm U zy)) (CallsH.mono H ?_))
  clear H
  rintro _ h11 ⟨x13a,x13n,x13c,rfl,H⟩
  refine za (zN U un_34 ?_)
  refine za (zd (v:=.int .i64 0) U ?_)
  refine zh ?_
  refine zK ?_
  obtain⟨I15,mu16,hI,H⟩:=H
  obtain⟨I17,mu17,hin17,hout17,hmu17⟩ : ∃ (J17:Fr→Heap→Prop) (m:Fr→Heap→Nat),(∀ f hz (x14:Int),f 27 = .int .i64 x14→f 0 = .pointer (some ⟨b1,o2,none⟩)→f 25 = .slice x13a x13n x13c→f 26 = .int .i64 (x13n:Int)→I15 x14 hz→J17 f hz)∧(∀ f hz,J17 f hz→∃ (x14:Int),f 27 = .int .i64 x14∧f 0 = .pointer (some ⟨b1,o2,none⟩)∧f 25 = .slice x13a x13n x13c∧f 26 = .int .i64 (x13n:Int)∧I15 x14 hz)∧(∀ f hz (x14:Int),f 27 = .int .i64 x14→m f hz=mu16 x14 hz):=⟨fun f hz=>∃ (x14:Int),f 27 = .int .i64 x14∧f 0 = .pointer (some ⟨b1,o2,none⟩)∧f 25 = .slice x13a x13n x13c∧f 26 = .int .i64 (x13n:Int)∧I15 x14 hz,fun f hz=>mu16 (dInt (f 27)) hz,fun _ _ x14 a0 a1 a2 a3 z=>⟨x14,a0,a1,a2,a3,z⟩,fun _ _ hz=>hz,fun f hz x14 a0=>by simp only [a0]; rfl⟩
  refine yb I17 mu17 (hin17 _ _ _ U e0 U U hI) ?_
  clear hI
  intro f h18 hf
  obtain⟨x14,a17_0,a17_1,a17_2,a17_3,hJ⟩:=hout17 _ _ hf
  replace H:=H x14 h18 hJ
  refine ze ?_
  refine zc U ?_
  refine za (zY a17_0 a17_3 ?_)
  refine zh ?_
  refine ze ?_
  refine zz (decide (x14<(x13n:Int))) U ?_ ?_
  ·intro hb
   replace H:=H.1 (zo hb)
   refine zC ?_
   refine ze ?_
   refine zK ?_
   refine ze ?_
   refine zc U ?_
   obtain⟨b21,o22,rfl,H⟩:=H
   obtain⟨c20,H⟩:=H
   refine za (zE a17_2 a17_0 ei_34 c20 ?_)
   obtain⟨x24,c25,H⟩:=H
   refine za (zk U ag_3 c25 ?_)
   refine za (zg (v:=.int .i64 x24) U ?_)
   refine zh ?_
   refine zc U ?_
   refine za (zd (v:=.pointer (some ⟨b1,o2,none⟩)) a17_1 ?_)
   refine za (zd (v:=.int .i64 x24) U ?_)
   refine za (zG (vs:=[.pointer (some ⟨b1,o2,none⟩),.int .i64 x24,.int .i64 2,.int .i64 1]) en_138 (zm U (zm U (zm U (zm U zy)))) (CallsH.mono H ?_))
   clear H
   rintro _ h26 ⟨x28,rfl,H⟩
   refine zh ?_
   refine zc U ?_
   obtain⟨c29,H⟩:=H
   refine za (yf a17_0 U (zU c29) ?_)
   refine za (zd (v:=.int .i64 (x14+1)) U ?_)
   refine zh ?_
   exact And.intro (hin17 _ _ _ rfl a17_1 a17_2 a17_3 H.1) (yk (hmu17 _ _ _ rfl) (hmu17 _ _ _ a17_0) H.2)
  ·intro hb
   replace H:=H.2 (zn hb)
   refine ya ?_
   refine ze ?_
   refine zc U ?_
   refine za (zd (v:=.pointer (some ⟨b1,o2,none⟩)) a17_1 ?_)
   refine za (zj U ?_)
   refine za (zf U fo_245_5 ?_)
   obtain⟨x30a,x30n,x30c,c31,H⟩:=H
   refine za (zk U ag_70 c31 ?_)
   refine za (zg (v:=.slice x30a x30n x30c) U ?_)
   refine zh ?_
   refine ze ?_
   refine zc U ?_
   refine za (zd (v:=.pointer (some ⟨b1,o2,none⟩)) a17_1 ?_)
   refine za (zj U ?_)
   refine za (zf U fo_245_5 ?_)
   obtain⟨h33,c32,H⟩:=H
   refine za (zI (v:=.slice none 0 0) U U sz_70 U c32 ?_)
   refine zh ?_
   refine ze ?_
   refine zc U ?_
   refine za (zd (v:=.slice x30a x30n x30c) U ?_)
   refine za (zg (v:=.slice x30a x30n x30c) U ?_)
   refine za (zg (v:=.int .i64 0) U ?_)
   refine zh ?_
   refine zx ?_
   exact zv (zq U (zq U zu)) H
def Gb4 (p0:Option Addr) (p1:Int) (p2:Int) (p3:Bool) (K:Int→Heap→Prop) (h:Heap):Prop:=
 (((decide (p2<0)) || (decide (255<p2)))=true→K 1 h)∧(((decide (p2<0)) || (decide (255<p2)))=false→(p3=true→CallsH PR Gir #[.pointer p0,.int .i64 p1,.int .i64 2,.int .i64 2] h (fun v h3=>∃ (x5:Int),v=(Value.int .i64 x5)∧K x5 h3))∧(p3=false→CallsH PR Gir #[.pointer p0,.int .i64 p1,.int .i64 1,.int .i64 p2] h (fun v h6=>∃ (x8:Int),v=(Value.int .i64 x8)∧K x8 h6)))
theorem Gb5 (p0:Option Addr) (p1:Int) (p2:Int) (p3:Bool) (R:Value→Heap→Prop) (h:Heap) (H:Gb4 p0 p1 p2 p3 (fun r0 h'=>R (Value.int .i64 r0) h') h):CallsH PR Gik #[.pointer p0,.int .i64 p1,.int .i64 p2,.bool p3] h R:=by
 refine zD (args:=[.pointer p0,.int .i64 p1,.int .i64 p2,.bool p3]) Tryz.func76 U U ?_
 intro f hf
 have e0:=hf 0 _ rfl
 have e1:=hf 1 _ rfl
 have e2:=hf 2 _ rfl
 have e3:=hf 3 _ rfl
 clear hf
 unfold Gb4 at H
 refine ze ?_
 refine zc U ?_
 refine za (zg (v:=.int .i64 0) U ?_)
 refine zh ?_
 refine ze ?_
 refine zK ?_
 refine ze ?_
 refine zc U ?_
 refine za (zd (v:=.int .i64 p2) e2 ?_)
 refine za (zY U U ?_)
 refine za (zd (v:=.bool (decide (p2<0))) U ?_)
 refine zF (b:=!(decide (p2<0))) (zi U U) (Z .i64 p2) (fun hb N hN=>zd (v:=.int .i64 p2) e2 hN) ?_
 refine zF (b:=!(decide (p2<0))) (zi U U) (W (decide (255<p2))) (fun hb N hN=>yj (gv hb) U hN) ?_
 refine za (zR U U (fun hq=>(gv (zP hq))) ?_)
 refine za (zg (v:=.bool ((decide (p2<0)) || (decide (255<p2)))) U ?_)
 refine zh ?_
 refine zz ((decide (p2<0)) || (decide (255<p2))) U ?_ ?_
 ·intro hb
  replace H:=H.1 hb
  refine ze ?_
  refine zc U ?_
  refine za (zg (v:=.int .i64 1) U ?_)
  refine zh ?_
  refine zx ?_
  exact zv (zq U zu) H
 ·intro hb
  replace H:=H.2 hb
  refine ze ?_
  refine zc U ?_
  refine za (zd (v:=.bool p3) e3 ?_)
  refine za (zg (v:=.bool p3) U ?_)
  refine zh ?_
  refine zz (p3) U ?_ ?_
  ·intro hb
   replace H:=H.1 hb
   refine ze ?_
   refine zc U ?_
   refine za (zd (v:=.pointer p0) e0 ?_)
   refine za (zd (v:=.int .i64 p1) e1 ?_)
   refine za (zG (vs:=[.pointer p0,.int .i64 p1,.int .i64 2,.int .i64 2]) en_138 (zm U (zm U (zm U (zm U zy)))) (CallsH.mono H ?_))
   clear H
   rintro _ h3 ⟨x5,rfl,H⟩
   refine za (zg (v:=.int .i64 x5) U ?_)
   refine zh ?_
   refine zx ?_
   exact zv (zq U zu) H
  ·intro hb
   replace H:=H.2 hb
   refine zC ?_
   refine ze ?_
   refine zc U ?_
   refine za (zd (v:=.pointer p0) e0 ?_)
   refine za (zd (v:=.int .i64 p1) e1 ?_)
   refine za (zd (v:=.int .i64 p2) e2 ?_)
   refine za (zG (vs:=[.pointer p0,.int .i64 p1,.int .i64 1,.int .i64 p2]) en_138 (zm U (zm U (zm U (zm U zy)))) (CallsH.mono H ?_))
   clear H
   rintro _ h6 ⟨x8,rfl,H⟩
   refine za (zg (v:=.int .i64 x8) U ?_)
   refine zh ?_
   refine zx ?_
   exact zv (zq U zu) H
def Gb6 (p0:Option Addr) (p1:Int) (K:Int→Heap→Prop) (h:Heap):Prop:=
 CallsH PR Gir #[.pointer p0,.int .i64 p1,.int .i64 2,.int .i64 3] h (fun v h1=>∃ (x3:Int),v=(Value.int .i64 x3)∧K x3 h1)
theorem Gb7 (p0:Option Addr) (p1:Int) (R:Value→Heap→Prop) (h:Heap) (H:Gb6 p0 p1 (fun r0 h'=>R (Value.int .i64 r0) h') h):CallsH PR Gil #[.pointer p0,.int .i64 p1] h R:=by
 refine zD (args:=[.pointer p0,.int .i64 p1]) Tryz.func96 U U ?_
 intro f hf
 have e0:=hf 0 _ rfl
 have e1:=hf 1 _ rfl
 clear hf
 unfold Gb6 at H
 refine ze ?_
 refine zc U ?_
 refine za (zg (v:=.int .i64 0) U ?_)
 refine zh ?_
 refine ze ?_
 refine zc U ?_
 refine za (zd (v:=.pointer p0) e0 ?_)
 refine za (zd (v:=.int .i64 p1) e1 ?_)
 refine za (zG (vs:=[.pointer p0,.int .i64 p1,.int .i64 2,.int .i64 3]) en_138 (zm U (zm U (zm U (zm U zy)))) (CallsH.mono H ?_))
 clear H
 rintro _ h1 ⟨x3,rfl,H⟩
 refine za (zg (v:=.int .i64 x3) U ?_)
 refine zh ?_
 refine zx ?_
 exact zv (zq U zu) H
def Gba (p0:Option Addr) (p1:Int) (K:Int→Bool→Heap→Prop) (h:Heap):Prop:=
 ∃ (b1:Nat) (o2:Nat),p0=some ⟨b1,o2,none⟩∧∃ (x4:Option Nat),cellH h b1 (o2+2)=some (.map x4)∧∃ (l6:List (ME Int)) (n7:Nat),mapAt (Value.int .i64) h x4 l6 n7∧∃ (x9_0:Int) (x9_1:Int),(mlook l6 p1).getD (Value.agg #[.int .i64 0,.int .u64 0])=(Value.agg #[.int .i64 x9_0,.int .u64 x9_1])∧∀ (h11:Heap),h11=h.push (.cells #[.int .i64 0,.int .u64 0] 238 (0,0))→∃ (h14:Heap),stCells h.size h11 0 [.int .i64 x9_0,.int .u64 x9_1]=some h14∧∃ (x15:Int),cellH h14 h.size 1=some (.int .u64 x15)∧K x15 ((mlook l6 p1).isSome) h14
theorem Gbb (p0:Option Addr) (p1:Int) (R:Value→Heap→Prop) (h:Heap) (H:Gba p0 p1 (fun r0 r1 h'=>R (Value.tuple #[.int .u64 r0,.bool r1]) h') h):CallsH PR Gio #[.pointer p0,.int .i64 p1] h R:=by
 refine zD (args:=[.pointer p0,.int .i64 p1]) Tryz.func95 U U ?_
 intro f hf
 have e0:=hf 0 _ rfl
 have e1:=hf 1 _ rfl
 clear hf
 unfold Gba at H
 refine ze ?_
 refine zc U ?_
 refine za (zg (v:=.int .u64 0) U ?_)
 refine za (zg (v:=.bool false) U ?_)
 refine zh ?_
 refine ze ?_
 refine zc U ?_
 refine za (zd (v:=.pointer p0) e0 ?_)
 obtain⟨b1,o2,rfl,H⟩:=H
 refine za (zj U ?_)
 refine za (zf U fo_245_2 ?_)
 obtain⟨x4,c5,H⟩:=H
 refine za (zk U ag_241 c5 ?_)
 refine za (zd (v:=.int .i64 p1) e1 ?_)
 obtain⟨l6,n7,c8,H⟩:=H
 obtain⟨x9_0,x9_1,c10,H⟩:=H
 refine za (op_lookup_ok' (zZ .i64) mt_241 z_238 U U c8 c10 ?_)
 refine za (zd (v:=.tuple #[.agg #[.int .i64 x9_0,.int .u64 x9_1],.bool ((mlook l6 p1).isSome)]) U ?_)
 refine za (zB U U ?_)
 refine za (zB U U ?_)
 obtain⟨h11,c12⟩ : ∃ h11,h11=h.push (.cells #[.int .i64 0,.int .u64 0] 238 (0,0)):=⟨_,rfl⟩
 replace H:=H h11 c12
 refine za (zW z_238 c12 ?_)
 obtain⟨h14,c13,H⟩:=H
 refine za (zI (v:=.agg #[.int .i64 x9_0,.int .u64 x9_1]) U U sz_238 U c13 ?_)
 refine za (zg (v:=.bool ((mlook l6 p1).isSome)) U ?_)
 refine zh ?_
 refine ze ?_
 refine zc U ?_
 refine za (zf U fo_238_1 ?_)
 obtain⟨x15,c16,H⟩:=H
 refine za (zk U ag_37 c16 ?_)
 refine za (zd (v:=.bool ((mlook l6 p1).isSome)) U ?_)
 refine za (zg (v:=.int .u64 x15) U ?_)
 refine za (zg (v:=.bool ((mlook l6 p1).isSome)) U ?_)
 refine zh ?_
 refine zx ?_
 exact zv (zq U (zq U zu)) H
def Gbk (p0:Option Addr) (K:Int→Heap→Prop) (h:Heap):Prop:=
 ∃ (b1:Nat) (o2:Nat),p0=some ⟨b1,o2,none⟩∧∃ (x4:List Value),ldCells h b1 (o2+67) 64=some x4∧∃ (I7:Int→Heap→Prop) (mu8:Int→Heap→Nat),I7 0 h∧∀ (x6:Int) (h10:Heap),I7 x6 h10→(x6<64→∃ (x13:Bool),((0≤x6∧x6<64)∧(x4:List Value)[x6.toNat * 1]? = some (Value.bool x13))∧(x13=false→K x6 h10)∧(x13=true→(-9223372036854775808≤x6+1∧x6+1<9223372036854775808)∧(I7 (x6+1) h10∧mu8 (x6+1) h10<mu8 x6 h10)))∧((¬ (x6<64))→K 64 h10)
theorem Gbl (p0:Option Addr) (R:Value→Heap→Prop) (h:Heap) (H:Gbk p0 (fun r0 h'=>R (Value.int .i64 r0) h') h):CallsH PR Git #[.pointer p0] h R:=by
 refine zD (args:=[.pointer p0]) Tryz.func126 U U ?_
 intro f hf
 have e0:=hf 0 _ rfl
 clear hf
 unfold Gbk at H
 refine ze ?_
 refine zc U ?_
 refine za (zg (v:=.int .i64 0) U ?_)
 refine zh ?_
 refine ze ?_
 refine ze ?_
 refine zc U ?_
 refine za (zd (v:=.pointer p0) e0 ?_)
 obtain⟨b1,o2,rfl,H⟩:=H
 refine za (zj U ?_)
 refine za (zf U fo_245_4 ?_)
 obtain⟨x4,c5,H⟩:=H
 refine za (zS U ag_243 c5 ?_)
 refine za (zd (v:=.int .i64 0) U ?_)
 refine zh ?_
 refine zK ?_
 obtain⟨I7,mu8,hI,H⟩:=H
 obtain⟨I9,mu9,hin9,hout9,hmu9⟩ : ∃ (J9:Fr→Heap→Prop) (m:Fr→Heap→Nat),(∀ f hz (x6:Int),f 9 = .int .i64 x6→f 8 = .agg (List.toArray x4)→I7 x6 hz→J9 f hz)∧(∀ f hz,J9 f hz→∃ (x6:Int),f 9 = .int .i64 x6∧f 8 = .agg (List.toArray x4)∧I7 x6 hz)∧(∀ f hz (x6:Int),f 9 = .int .i64 x6→m f hz=mu8 x6 hz):=⟨fun f hz=>∃ (x6:Int),f 9 = .int .i64 x6∧f 8 = .agg (List.toArray x4)∧I7 x6 hz,fun f hz=>mu8 (dInt (f 9)) hz,fun _ _ x6 a0 a1 z=>⟨x6,a0,a1,z⟩,fun _ _ hz=>hz,fun f hz x6 a0=>by simp only [a0]; rfl⟩
 refine yb I9 mu9 (hin9 _ _ _ U U hI) ?_
 clear hI
 intro f h10 hf
 obtain⟨x6,a9_0,a9_1,hJ⟩:=hout9 _ _ hf
 replace H:=H x6 h10 hJ
 refine ze ?_
 refine zc U ?_
 refine za (zY a9_0 U ?_)
 refine zh ?_
 refine ze ?_
 refine zz (decide (x6<64)) U ?_ ?_
 ·intro hb
  replace H:=H.1 (zo hb)
  refine zC ?_
  refine ze ?_
  refine zK ?_
  refine ze ?_
  refine zc U ?_
  refine za (zd (v:=.int .i64 x6) a9_0 ?_)
  obtain⟨x13,c12,H⟩:=H
  refine za (op_index_array1 (cs:=x4) a9_1 a9_0 ei_243 ag_4 c12.1 c12.2 ?_)
  refine za (zg (v:=.int .i64 x6) U ?_)
  refine za (zg (v:=.bool x13) U ?_)
  refine zh ?_
  refine ze ?_
  refine zc U ?_
  refine za (zd (v:=.bool x13) U ?_)
  refine za (yi U ?_)
  refine zh ?_
  refine zz (!x13) U ?_ ?_
  ·intro hb
   replace H:=H.1 (zt hb)
   refine ze ?_
   refine zc U ?_
   refine za (zd (v:=.int .i64 x6) U ?_)
   refine za (zg (v:=.int .i64 x6) U ?_)
   refine zh ?_
   refine zx ?_
   exact zv (zq U zu) H
  ·intro hb
   replace H:=H.2 (zL hb)
   refine zC ?_
   refine zc U ?_
   obtain⟨c14,H⟩:=H
   refine za (yf a9_0 U (zU c14) ?_)
   refine za (zd (v:=.int .i64 (x6+1)) U ?_)
   refine zh ?_
   exact And.intro (hin9 _ _ _ rfl a9_1 H.1) (yk (hmu9 _ _ _ rfl) (hmu9 _ _ _ a9_0) H.2)
 ·intro hb
  replace H:=H.2 (zn hb)
  refine ya ?_
  refine ze ?_
  refine zc U ?_
  refine za (zg (v:=.int .i64 64) U ?_)
  refine zh ?_
  refine zx ?_
  exact zv (zq U zu) H
def Gg8:Cert:=⟨[[],[0],[0,1],[0,1,2],[0,1,2],[0,1,2],[0,1,2,4,5],[0,1,2,4,5,6],[0,1,2],[0,1,2],[0,1,2,9],[0,1,2,8,9,10],[0,1,2,8,9,10,11],[0,1,2,3,4,5,6,7,8,9,10,11,12],[0,1,2,3,4,5,6,7,8,9,10,11,12,13]],[false,false,false,false,false,false,false,false,false,false,false,false,false,true,false]⟩
def Gg9:Cert:=⟨[[],[],[],[],[3],[],[],[6],[5,6,7],[5,6,7,8],[],[],[10,11],[10,11,12],[0,1,5,6,7,8,9,10,11,12,13],[0,1,5,6,7,8,9,10,11,12,13,14],[0,1,2,3,4,5,6,7,8,9,10,11,12,13,14,15],[0,1,2,3,4,5,6,7,8,9,10,11,12,13,14,15,16]],[false,false,false,false,false,false,false,false,false,false,false,false,false,false,false,true,false,true]⟩
def Gbi (p0:Option Addr) (p1a:Option Addr) (p1n:Nat) (p1c:Nat) (K:Option Addr→Nat→Nat→Heap→Prop) (h:Heap):Prop:=
 ∃ (n3:Nat),(p1n:Int)=(n3:Int)∧(0≤n3∧8 * n3≤281474976710656∧n3≤9223372036854775807)∧∀ (h1:Heap),h1=h.push (.cells (madeCells ((Value.int .i64 0)).cells (n3 * 1)) 3 (0,0))→∃ (I8:Option Addr→Nat→Nat→Int→Heap→Prop) (mu9:Option Addr→Nat→Nat→Int→Heap→Nat),I8 (some ⟨h.size,0,none⟩) 0 n3 0 h1∧∀ (x6a:Option Addr) (x6n:Nat) (x6c:Nat) (x7:Int) (h11:Heap),I8 x6a x6n x6c x7 h11→(x7<(p1n:Int)→∃ (b14:Nat) (o15:Nat),p1a=some ⟨b14,o15,none⟩∧(0≤x7∧x7<(p1n:Int))∧∃ (x17:Int),cellH h11 b14 (o15+x7.toNat * 1)=some (.int .i64 x17)∧∃ (b19:Nat) (o20:Nat),p0=some ⟨b19,o20,none⟩∧(0≤x17∧x17<64)∧∃ (x23:Int),cellH h11 b19 (o20+3+x17.toNat * 1)=some (.int .i64 x23)∧∀ (h25:Heap),h25=h11.push (.cells #[.int .i64 x23] 3 (0,0))→appH 3 1 8 (Value.int .i64 0) x6a x6n x6c 1 ([.int .i64 x23]) h25 (fun a31 n32 q33 h34=>(-9223372036854775808≤x7+1∧x7+1<9223372036854775808)∧(I8 a31 n32 q33 (x7+1) h34∧mu9 a31 n32 q33 (x7+1) h34<mu9 x6a x6n x6c x7 h11)))∧((¬ (x7<(p1n:Int)))→∃ (I37:Int→Heap→Prop) (mu38:Int→Heap→Nat),I37 0 h11∧∀ (x36:Int) (h40:Heap),I37 x36 h40→(x36<(x6n:Int)→∃ (I43:Int→Heap→Prop) (mu44:Int→Heap→Nat),I43 x36 h40∧∀ (x42:Int) (h46:Heap),I43 x42 h46→∃ (b49:Nat) (o50:Nat),((0<x42)→x6a=some ⟨b49,o50,none⟩)∧((0<x42)→0≤x42∧x42<(x6n:Int))∧∃ (x52:Int),((0<x42)→cellH h46 b49 (o50+x42.toNat * 1)=some (.int .i64 x52))∧∃ (b56:Nat) (o57:Nat),((0<x42)→x6a=some ⟨b56,o57,none⟩)∧((0<x42)→0≤IntKind.i64.wrap (x42 - 1)∧IntKind.i64.wrap (x42 - 1)<(x6n:Int))∧∃ (x59:Int),((0<x42)→cellH h46 b56 (o57+(IntKind.i64.wrap (x42 - 1)).toNat * 1)=some (.int .i64 x59))∧∃ J64:Bool→Heap→Prop,(∀ (x63:Bool) (h61:Heap),J64 x63 h61→(((decide (0<x42)) && x63)=true→(-9223372036854775808≤x42 - 1∧x42 - 1<9223372036854775808)∧(-9223372036854775808≤x42 - 1∧x42 - 1<9223372036854775808)∧∃ (b68:Nat) (o69:Nat),x6a=some ⟨b68,o69,none⟩∧(0≤x42 - 1∧x42 - 1<(x6n:Int))∧∃ (x71:Int),cellH h61 b68 (o69+(x42 - 1).toNat * 1)=some (.int .i64 x71)∧(0≤x42∧x42<(x6n:Int))∧∃ (x74:Int),cellH h61 b68 (o69+x42.toNat * 1)=some (.int .i64 x74)∧(0≤x42∧x42<(x6n:Int))∧∃ (h78:Heap),stCells b68 h61 (o69+x42.toNat * 1) [.int .i64 x71]=some h78∧(0≤x42 - 1∧x42 - 1<(x6n:Int))∧∃ (h81:Heap),stCells b68 h78 (o69+(x42 - 1).toNat * 1) [.int .i64 x74]=some h81∧(-9223372036854775808≤x42 - 1∧x42 - 1<9223372036854775808)∧(I43 (x42 - 1) h81∧mu44 (x42 - 1) h81<mu44 x42 h46))∧(((decide (0<x42)) && x63)=false→(-9223372036854775808≤x36+1∧x36+1<9223372036854775808)∧(I37 (x36+1) h61∧mu38 (x36+1) h61<mu38 x36 h40)))∧((0<x42)→CallsH PR Giq #[.pointer p0,.int .i64 x52,.int .i64 x59] h46 (fun v h61=>∃ (x63:Bool),v=(Value.bool x63)∧J64 x63 h61))∧((¬ (0<x42))→∃ (x63:Bool),J64 x63 h46))∧((¬ (x36<(x6n:Int)))→K x6a x6n x6c h40))
theorem Gbj (p0:Option Addr) (p1a:Option Addr) (p1n:Nat) (p1c:Nat) (R:Value→Heap→Prop) (h:Heap) (H:Gbi p0 p1a p1n p1c (fun r0a r0n r0c h'=>R (Value.slice r0a r0n r0c) h') h):CallsH PR Gis #[.pointer p0,.slice p1a p1n p1c] h R:=by
 refine zD (args:=[.pointer p0,.slice p1a p1n p1c]) Tryz.func149 U U ?_
 intro f hf
 have e0:=hf 0 _ rfl
 have e1:=hf 1 _ rfl
 clear hf
 unfold Gbi at H
 refine ze ?_
 refine zc U ?_
 refine za (zg (v:=.slice none 0 0) U ?_)
 refine zh ?_
 refine ze ?_
 refine zc U ?_
 refine za (zd (v:=.slice p1a p1n p1c) e1 ?_)
 refine za (zN U un_34 ?_)
 obtain⟨n3,c4,H⟩:=H
 obtain⟨c5,H⟩:=H
 obtain⟨h1,c2⟩ : ∃ h1,h1=h.push (.cells (madeCells ((Value.int .i64 0)).cells (n3 * 1)) 3 (0,0)):=⟨_,rfl⟩
 replace H:=H h1 c2
 refine za (op_makeSlice ri_34 U (Eq.trans U (congrArg (Z .i64) c4)) c5.1 c5.2.1 c5.2.2 c2 ?_)
 refine za (zg (v:=.slice (some ⟨h.size,0,none⟩) 0 n3) U ?_)
 refine zh ?_
 refine ze ?_
 refine ze ?_
 refine zc U ?_
 refine za (zd (v:=.slice p1a p1n p1c) e1 ?_)
 refine za (zN U un_34 ?_)
 refine za (zd (v:=.int .i64 0) U ?_)
 refine zh ?_
 refine zK ?_
 obtain⟨I8,mu9,hI,H⟩:=H
 obtain⟨I10,mu10,hin10,hout10,hmu10⟩ : ∃ (J10:Fr→Heap→Prop) (m:Fr→Heap→Nat),(∀ f hz (x6a:Option Addr) (x6n:Nat) (x6c:Nat) (x7:Int),f 5 = .slice x6a x6n x6c→f 15 = .int .i64 x7→f 0 = .pointer p0→f 13 = .slice p1a p1n p1c→f 14 = .int .i64 (p1n:Int)→I8 x6a x6n x6c x7 hz→J10 f hz)∧(∀ f hz,J10 f hz→∃ (x6a:Option Addr) (x6n:Nat) (x6c:Nat) (x7:Int),f 5 = .slice x6a x6n x6c∧f 15 = .int .i64 x7∧f 0 = .pointer p0∧f 13 = .slice p1a p1n p1c∧f 14 = .int .i64 (p1n:Int)∧I8 x6a x6n x6c x7 hz)∧(∀ f hz (x6a:Option Addr) (x6n:Nat) (x6c:Nat) (x7:Int),f 5 = .slice x6a x6n x6c→f 15 = .int .i64 x7→m f hz=mu9 x6a x6n x6c x7 hz):=⟨fun f hz=>∃ (x6a:Option Addr) (x6n:Nat) (x6c:Nat) (x7:Int),f 5 = .slice x6a x6n x6c∧f 15 = .int .i64 x7∧f 0 = .pointer p0∧f 13 = .slice p1a p1n p1c∧f 14 = .int .i64 (p1n:Int)∧I8 x6a x6n x6c x7 hz,fun f hz=>mu9 (dSlA (f 5)) (dSlN (f 5)) (dSlC (f 5)) (dInt (f 15)) hz,fun _ _ x6a x6n x6c x7 a0 a1 a2 a3 a4 z=>⟨x6a,x6n,x6c,x7,a0,a1,a2,a3,a4,z⟩,fun _ _ hz=>hz,fun f hz x6a x6n x6c x7 a0 a1=>by simp only [a0,a1]; rfl⟩
 refine yb I10 mu10 (hin10 _ _ _ _ _ _ U U e0 U U hI) ?_
 clear hI
 intro f h11 hf
 obtain⟨x6a,x6n,x6c,x7,a10_0,a10_1,a10_2,a10_3,a10_4,hJ⟩:=hout10 _ _ hf
 replace H:=H x6a x6n x6c x7 h11 hJ
 refine ze ?_
 refine zc U ?_
 refine za (zY a10_1 a10_4 ?_)
 refine zh ?_
 refine ze ?_
 refine zz (decide (x7<(p1n:Int))) U ?_ ?_
 ·intro hb
  replace H:=H.1 (zo hb)
  refine zC ?_
  refine ze ?_
  refine zK ?_
  refine ze ?_
  refine zc U ?_
  obtain⟨b14,o15,rfl,H⟩:=H
  obtain⟨c13,H⟩:=H
  refine za (zE a10_3 a10_1 ei_34 c13 ?_)
  obtain⟨x17,c18,H⟩:=H
  refine za (zk U ag_3 c18 ?_)
  refine za (zg (v:=.int .i64 x17) U ?_)
  refine zh ?_
  refine zc U ?_
  refine za (zd (v:=.slice x6a x6n x6c) a10_0 ?_)
  refine za (zd (v:=.pointer p0) a10_2 ?_)
  refine za (zd (v:=.int .i64 x17) U ?_)
  obtain⟨b19,o20,rfl,H⟩:=H
  refine za (zj U ?_)
  refine za (zf U fo_245_3 ?_)
  obtain⟨c22,H⟩:=H
  refine za (zQ U U ei_242 c22 ?_)
  obtain⟨x23,c24,H⟩:=H
  refine za (zk U ag_3 c24 ?_)
  obtain⟨h25,c26⟩ : ∃ h25,h25=h11.push (.cells #[.int .i64 x23] 3 (0,0)):=⟨_,rfl⟩
  replace H:=H h25 c26
  refine za (yg (cs:=#[.int .i64 x23]) (vs:=[(0,.int .i64 x23)]) (zl:=[.int .i64 0]) ri_34 (by decide) U U (zM U zT) U c26 ?_)
  refine za (op_append' (src:=(T (some ⟨h11.size,0,none⟩) 1 1)) (news:=[.int .i64 x23]) ri_34 (.inl ⟨_,un_34⟩) U U U (first_fresh c26 U U U) (appH.mono H ?_))
  clear H
  intro a31 n32 q33 h34 H
  refine za (zg (v:=.slice a31 n32 q33) U ?_)
  refine zh ?_
  refine zc U ?_
  obtain⟨c35,H⟩:=H
  refine za (yf a10_1 U (zU c35) ?_)
  refine za (zd (v:=.int .i64 (x7+1)) U ?_)
  refine zh ?_
  exact And.intro (hin10 _ _ _ _ _ _ rfl rfl a10_2 a10_3 a10_4 H.1) (yk (hmu10 _ _ _ _ _ _ rfl rfl) (hmu10 _ _ _ _ _ _ a10_0 a10_1) H.2)
 ·intro hb
  replace H:=H.2 (zn hb)
  refine ya ?_
  refine ze ?_
  refine ze ?_
  refine zc U ?_
  refine za (zd (v:=.slice x6a x6n x6c) a10_0 ?_)
  refine za (zN U un_34 ?_)
  refine za (zd (v:=.int .i64 0) U ?_)
  refine zh ?_
  refine zK ?_
  obtain⟨I37,mu38,hI,H⟩:=H
  obtain⟨I39,mu39,hin39,hout39,hmu39⟩ : ∃ (J39:Fr→Heap→Prop) (m:Fr→Heap→Nat),(∀ f hz (x36:Int),f 31 = .int .i64 x36→f 0 = .pointer p0→f 5 = .slice x6a x6n x6c→f 30 = .int .i64 (x6n:Int)→I37 x36 hz→J39 f hz)∧(∀ f hz,J39 f hz→∃ (x36:Int),f 31 = .int .i64 x36∧f 0 = .pointer p0∧f 5 = .slice x6a x6n x6c∧f 30 = .int .i64 (x6n:Int)∧I37 x36 hz)∧(∀ f hz (x36:Int),f 31 = .int .i64 x36→m f hz=mu38 x36 hz):=⟨fun f hz=>∃ (x36:Int),f 31 = .int .i64 x36∧f 0 = .pointer p0∧f 5 = .slice x6a x6n x6c∧f 30 = .int .i64 (x6n:Int)∧I37 x36 hz,fun f hz=>mu38 (dInt (f 31)) hz,fun _ _ x36 a0 a1 a2 a3 z=>⟨x36,a0,a1,a2,a3,z⟩,fun _ _ hz=>hz,fun f hz x36 a0=>by simp only [a0]; rfl⟩
  refine yb I39 mu39 (hin39 _ _ _ U a10_2 a10_0 U hI) ?_
  clear hI
  intro f h40 hf
  obtain⟨x36,a39_0,a39_1,a39_2,a39_3,hJ⟩:=hout39 _ _ hf
  replace H:=H x36 h40 hJ
  refine ze ?_
  refine zc U ?_
  refine za (zY a39_0 a39_3 ?_)
  refine zh ?_
  refine ze ?_
  refine zz (decide (x36<(x6n:Int))) U ?_ ?_
  ·intro hb
   replace H:=H.1 (zo hb)
   refine zC ?_
   refine ze ?_
   refine zK ?_
   refine ze ?_
   refine zc U ?_
   refine za (zd (v:=.int .i64 x36) a39_0 ?_)
   refine za (zg (v:=.int .i64 x36) U ?_)
   refine zh ?_
   refine ze ?_
   refine zc U ?_
   refine za (zd (v:=.int .i64 x36) U ?_)
   refine za (zg (v:=.int .i64 x36) U ?_)
   refine zh ?_
   refine zK ?_
   obtain⟨I43,mu44,hI,H⟩:=H
   obtain⟨I45,mu45,hin45,hout45,hmu45⟩ : ∃ (J45:Fr→Heap→Prop) (m:Fr→Heap→Nat),(∀ f hz (x42:Int),f 9 = .int .i64 x42→f 0 = .pointer p0→f 5 = .slice x6a x6n x6c→f 30 = .int .i64 (x6n:Int)→f 31 = .int .i64 x36→I43 x42 hz→J45 f hz)∧(∀ f hz,J45 f hz→∃ (x42:Int),f 9 = .int .i64 x42∧f 0 = .pointer p0∧f 5 = .slice x6a x6n x6c∧f 30 = .int .i64 (x6n:Int)∧f 31 = .int .i64 x36∧I43 x42 hz)∧(∀ f hz (x42:Int),f 9 = .int .i64 x42→m f hz=mu44 x42 hz):=⟨fun f hz=>∃ (x42:Int),f 9 = .int .i64 x42∧f 0 = .pointer p0∧f 5 = .slice x6a x6n x6c∧f 30 = .int .i64 (x6n:Int)∧f 31 = .int .i64 x36∧I43 x42 hz,fun f hz=>mu44 (dInt (f 9)) hz,fun _ _ x42 a0 a1 a2 a3 a4 z=>⟨x42,a0,a1,a2,a3,a4,z⟩,fun _ _ hz=>hz,fun f hz x42 a0=>by simp only [a0]; rfl⟩
   refine yb I45 mu45 (hin45 _ _ _ U a39_1 a39_2 a39_3 a39_0 hI) ?_
   clear hI
   intro f h46 hf
   obtain⟨x42,a45_0,a45_1,a45_2,a45_3,a45_4,hJ⟩:=hout45 _ _ hf
   replace H:=H x42 h46 hJ
   refine ze ?_
   refine ze ?_
   obtain⟨b49,o50,c51,H⟩:=H
   obtain⟨c48,H⟩:=H
   obtain⟨x52,c53,H⟩:=H
   obtain⟨b56,o57,c58,H⟩:=H
   obtain⟨c55,H⟩:=H
   obtain⟨x59,c60,H⟩:=H
   refine zO Gg8 1 [(Z .i64 x42),(W (decide (0<x42))),(W (decide (0<x42))),(bif decide (0<x42) then (Y p0) else undef),(bif decide (0<x42) then (T x6a x6n x6c) else undef),(bif decide (0<x42) then (Z .i64 x42) else undef),(bif decide (0<x42) then (Y (some ⟨b49,o50+x42.toNat * 1,none⟩)) else undef),(bif decide (0<x42) then (Z .i64 x52) else undef),(bif decide (0<x42) then (T x6a x6n x6c) else undef),(bif decide (0<x42) then (Z .i64 x42) else undef),(bif decide (0<x42) then (Z .i64 (IntKind.i64.wrap (x42 - 1))) else undef),(bif decide (0<x42) then (Y (some ⟨b56,o57+(IntKind.i64.wrap (x42 - 1)).toNat * 1,none⟩)) else undef),(bif decide (0<x42) then (Z .i64 x59) else undef),undef,undef] (by kernel_rfl) U mixed_PR ?_
   refine zA [13] (by decide) U (zw [0,1,2,3,4,5,6,7,8,9,10,11,12] U ⟨zb U U (zd (v:=.int .i64 x42) a45_0 ⟨U,U⟩),zb U U (yj U U ⟨U,U⟩),zb U U (zd (v:=.bool (decide (0<x42))) U ⟨U,U⟩),zr (b:=decide (0<x42)) U U (zi U U) (fun hb=>zd (v:=.pointer p0) a45_1 ⟨zs hb,U⟩) (fun hb=>⟨zp hb,U⟩),zr (b:=decide (0<x42)) U U (zi U U) (fun hb=>zd (v:=.slice x6a x6n x6c) a45_2 ⟨zs hb,U⟩) (fun hb=>⟨zp hb,U⟩),zr (b:=decide (0<x42)) U U (zi U U) (fun hb=>zd (v:=.int .i64 x42) a45_0 ⟨zs hb,U⟩) (fun hb=>⟨zp hb,U⟩),zr (b:=decide (0<x42)) U U (zi U U) (fun hb=>zE (Eq.trans (gv hb) (congrArg (fun a=>T a x6n x6c) (c51 (zo hb)))) (gv hb) ei_34 (c48 (zo hb)) ⟨zs hb,U⟩) (fun hb=>⟨zp hb,U⟩),zr (b:=decide (0<x42)) U U (zi U U) (fun hb=>zk (gv hb) ag_3 (c53 (zo hb)) ⟨zs hb,U⟩) (fun hb=>⟨zp hb,U⟩),zr (b:=decide (0<x42)) U U (zi U U) (fun hb=>zd (v:=.slice x6a x6n x6c) a45_2 ⟨zs hb,U⟩) (fun hb=>⟨zp hb,U⟩),zr (b:=decide (0<x42)) U U (zi U U) (fun hb=>zd (v:=.int .i64 x42) a45_0 ⟨zs hb,U⟩) (fun hb=>⟨zp hb,U⟩),zr (b:=decide (0<x42)) U U (zi U U) (fun hb=>op_sub (gv hb) U U ⟨zs hb,U⟩) (fun hb=>⟨zp hb,U⟩),zr (b:=decide (0<x42)) U U (zi U U) (fun hb=>zE (Eq.trans (gv hb) (congrArg (fun a=>T a x6n x6c) (c58 (zo hb)))) (gv hb) ei_34 (c55 (zo hb)) ⟨zs hb,U⟩) (fun hb=>⟨zp hb,U⟩),zr (b:=decide (0<x42)) U U (zi U U) (fun hb=>zk (gv hb) ag_3 (c60 (zo hb)) ⟨zs hb,U⟩) (fun hb=>⟨zp hb,U⟩),V⟩) U ⟨?_,V⟩
   obtain⟨J64,HR,HT,HF⟩:=H
   refine stepAt_gl (b:=decide (0<x42)) U U (zi U U) (fun v h61=>∃ (x63:Bool),v=(bif decide (0<x42) then (W x63) else undef)∧J64 x63 h61) ?_ ?_ ?_
   ·rintro _ h61 ⟨x63,rfl,hJ⟩
    have H:=HR x63 h61 hJ
    refine⟨[(Value.int .i64 x42),(Value.bool (decide (0<x42))),(Value.bool (decide (0<x42))),(bif decide (0<x42) then (Value.pointer p0) else undef),(bif decide (0<x42) then (Value.slice x6a x6n x6c) else undef),(bif decide (0<x42) then (Value.int .i64 x42) else undef),(bif decide (0<x42) then (Value.pointer (some ⟨b49,o50+x42.toNat * 1,none⟩)) else undef),(bif decide (0<x42) then (Value.int .i64 x52) else undef),(bif decide (0<x42) then (Value.slice x6a x6n x6c) else undef),(bif decide (0<x42) then (Value.int .i64 x42) else undef),(bif decide (0<x42) then (Value.int .i64 (IntKind.i64.wrap (x42 - 1))) else undef),(bif decide (0<x42) then (Value.pointer (some ⟨b56,o57+(IntKind.i64.wrap (x42 - 1)).toNat * 1,none⟩)) else undef),(bif decide (0<x42) then (Value.int .i64 x59) else undef),(bif decide (0<x42) then (Value.bool x63) else undef),(Value.bool ((decide (0<x42)) && x63))],rfl,(zH [0,1,2,3,4,5,6,7,8,9,10,11,12] rfl ⟨rfl,rfl,rfl,rfl,rfl,rfl,rfl,rfl,rfl,rfl,rfl,rfl,rfl,trivial⟩),?_⟩
    refine zJ U (zw [14] U ⟨zb U U (zV U (fun hq=>(gv hq)) U ⟨U,U⟩),V⟩) U ?_
    refine zz ((decide (0<x42)) && x63) U ?_ ?_
    ·intro hb
     replace H:=H.1 hb
     refine zC ?_
     refine ze ?_
     refine zK ?_
     obtain⟨c65,H⟩:=H
     obtain⟨c66,H⟩:=H
     obtain⟨b68,o69,rfl,H⟩:=H
     obtain⟨c67,H⟩:=H
     obtain⟨x71,c72,H⟩:=H
     obtain⟨c73,H⟩:=H
     obtain⟨x74,c75,H⟩:=H
     obtain⟨c76,H⟩:=H
     refine zO Gg9 2 [(T (some ⟨b68,o69,none⟩) x6n x6c),(Z .i64 x42),(T (some ⟨b68,o69,none⟩) x6n x6c),(Z .i64 x42),(Z .i64 (x42 - 1)),(T (some ⟨b68,o69,none⟩) x6n x6c),(Z .i64 x42),(Z .i64 (x42 - 1)),(Y (some ⟨b68,o69+(x42 - 1).toNat * 1,none⟩)),(Z .i64 x71),(T (some ⟨b68,o69,none⟩) x6n x6c),(Z .i64 x42),(Y (some ⟨b68,o69+x42.toNat * 1,none⟩)),(Z .i64 x74),(Y (some ⟨b68,o69+x42.toNat * 1,none⟩)),undef,undef,undef] (by kernel_rfl) U mixed_PR ?_
     refine zA [15] (by decide) U (zw [0,1,2,3,4,5,6,7,8,9,10,11,12,13,14] U ⟨zb U U (zd (v:=.slice (some ⟨b68,o69,none⟩) x6n x6c) a45_2 ⟨U,U⟩),zb U U (zd (v:=.int .i64 x42) a45_0 ⟨U,U⟩),zb U U (zd (v:=.slice (some ⟨b68,o69,none⟩) x6n x6c) a45_2 ⟨U,U⟩),zb U U (zd (v:=.int .i64 x42) a45_0 ⟨U,U⟩),zb U U (op_sub U U (zU c65) ⟨U,U⟩),zb U U (zd (v:=.slice (some ⟨b68,o69,none⟩) x6n x6c) a45_2 ⟨U,U⟩),zb U U (zd (v:=.int .i64 x42) a45_0 ⟨U,U⟩),zb U U (op_sub U U (zU c66) ⟨U,U⟩),zb U U (zE U U ei_34 c67 ⟨U,U⟩),zb U U (zk U ag_3 c72 ⟨U,U⟩),zb U U (zd (v:=.slice (some ⟨b68,o69,none⟩) x6n x6c) a45_2 ⟨U,U⟩),zb U U (zd (v:=.int .i64 x42) a45_0 ⟨U,U⟩),zb U U (zE U U ei_34 c73 ⟨U,U⟩),zb U U (zk U ag_3 c75 ⟨U,U⟩),zb U U (zE U U ei_34 c76 ⟨U,U⟩),V⟩) U ⟨?_,V⟩
     obtain⟨h78,c77,H⟩:=H
     refine zb U U (zI (v:=.int .i64 x71) U U sz_3 U c77 ?_)
     obtain⟨c79,H⟩:=H
     refine⟨[(Value.slice (some ⟨b68,o69,none⟩) x6n x6c),(Value.int .i64 x42),(Value.slice (some ⟨b68,o69,none⟩) x6n x6c),(Value.int .i64 x42),(Value.int .i64 (x42 - 1)),(Value.slice (some ⟨b68,o69,none⟩) x6n x6c),(Value.int .i64 x42),(Value.int .i64 (x42 - 1)),(Value.pointer (some ⟨b68,o69+(x42 - 1).toNat * 1,none⟩)),(Value.int .i64 x71),(Value.slice (some ⟨b68,o69,none⟩) x6n x6c),(Value.int .i64 x42),(Value.pointer (some ⟨b68,o69+x42.toNat * 1,none⟩)),(Value.int .i64 x74),(Value.pointer (some ⟨b68,o69+x42.toNat * 1,none⟩)),undef,(Value.pointer (some ⟨b68,o69+(x42 - 1).toNat * 1,none⟩)),undef],rfl,(zH [0,1,2,3,4,5,6,7,8,9,10,11,12,13,14] rfl ⟨rfl,rfl,rfl,rfl,rfl,rfl,rfl,rfl,rfl,rfl,rfl,rfl,rfl,rfl,rfl,trivial⟩),?_⟩
     refine zA [17] (by decide) U (zw [2,3,4,16] U ⟨zb U U (zd (v:=.slice (some ⟨b68,o69,none⟩) x6n x6c) a45_2 ⟨U,U⟩),zb U U (zd (v:=.int .i64 x42) a45_0 ⟨U,U⟩),zb U U (op_sub U U (zU c65) ⟨U,U⟩),zb U U (zE U U ei_34 c79 ⟨U,U⟩),V⟩) U ⟨?_,V⟩
     obtain⟨h81,c80,H⟩:=H
     refine zb U U (zI (v:=.int .i64 x74) U U sz_3 U c80 ?_)
     refine⟨[(Value.slice (some ⟨b68,o69,none⟩) x6n x6c),(Value.int .i64 x42),(Value.slice (some ⟨b68,o69,none⟩) x6n x6c),(Value.int .i64 x42),(Value.int .i64 (x42 - 1)),(Value.slice (some ⟨b68,o69,none⟩) x6n x6c),(Value.int .i64 x42),(Value.int .i64 (x42 - 1)),(Value.pointer (some ⟨b68,o69+(x42 - 1).toNat * 1,none⟩)),(Value.int .i64 x71),(Value.slice (some ⟨b68,o69,none⟩) x6n x6c),(Value.int .i64 x42),(Value.pointer (some ⟨b68,o69+x42.toNat * 1,none⟩)),(Value.int .i64 x74),(Value.pointer (some ⟨b68,o69+x42.toNat * 1,none⟩)),undef,(Value.pointer (some ⟨b68,o69+(x42 - 1).toNat * 1,none⟩)),undef],rfl,(zH [0,1,2,3,4,5,6,7,8,9,10,11,12,13,14,15,16] rfl ⟨rfl,rfl,rfl,rfl,rfl,rfl,rfl,rfl,rfl,rfl,rfl,rfl,rfl,rfl,rfl,rfl,rfl,trivial⟩),?_⟩
     refine zJ U (zw [] U V) U ?_
     refine zc U ?_
     refine za (zd (v:=.int .i64 x42) a45_0 ?_)
     obtain⟨c82,H⟩:=H
     refine za (op_sub U U (zU c82) ?_)
     refine za (zg (v:=.int .i64 (x42 - 1)) U ?_)
     refine zh ?_
     exact And.intro (hin45 _ _ _ rfl a45_1 a45_2 a45_3 a45_4 H.1) (yk (hmu45 _ _ _ rfl) (hmu45 _ _ _ a45_0) H.2)
    ·intro hb
     replace H:=H.2 hb
     refine ya ?_
     refine zc U ?_
     obtain⟨c83,H⟩:=H
     refine za (yf a45_4 U (zU c83) ?_)
     refine za (zd (v:=.int .i64 (x36+1)) U ?_)
     refine zh ?_
     exact And.intro (hin39 _ _ _ rfl a45_1 a45_2 a45_3 H.1) (yk (hmu39 _ _ _ rfl) (hmu39 _ _ _ a39_0) H.2)
   ·intro hb
    refine zG (vs:=[.pointer p0,.int .i64 x52,.int .i64 x59]) en_185 (zm (gv hb) (zm (gv hb) (zm (gv hb) zy))) (CallsH.mono (HT (zo hb)) ?_)
    rintro _ h61 ⟨x63,rfl,hJ⟩
    exact⟨x63,zs hb,hJ⟩
   ·intro hb
    obtain⟨x63,hJ⟩:=HF (zn hb)
    exact⟨x63,zp hb,hJ⟩
  ·intro hb
   replace H:=H.2 (zn hb)
   refine ya ?_
   refine ze ?_
   refine zc U ?_
   refine za (zd (v:=.slice x6a x6n x6c) a39_2 ?_)
   refine za (zg (v:=.slice x6a x6n x6c) U ?_)
   refine zh ?_
   refine zx ?_
   exact zv (zq U zu) H
def Gg5:Cert:=⟨[[],[0],[0,1],[0,1,2],[],[0,1,2,3,4],[0,1,2,3,4,5],[],[7],[7,8],[7,8,9],[],[7,8,9,10,11],[7,8,9,10,11,12],[0,1,2,3,4,5,6],[0,1,2,3,4,5,6,7,8,9,10,11,12,13,14]],[false,false,false,false,false,false,false,false,false,false,false,false,false,false,false,false]⟩
def Gbe (p0:Option Addr) (p1:Int) (p2:Int) (K:Bool→Heap→Prop) (h:Heap):Prop:=
 ∃ (b1:Nat) (o2:Nat),p0=some ⟨b1,o2,none⟩∧∃ (x4:Option Nat),cellH h b1 (o2+2)=some (.map x4)∧∃ (l6:List (ME Int)) (n7:Nat),mapAt (Value.int .i64) h x4 l6 n7∧∃ (x9_0:Int) (x9_1:Int),(mlook l6 p1).getD (Value.agg #[.int .i64 0,.int .u64 0])=(Value.agg #[.int .i64 x9_0,.int .u64 x9_1])∧∃ (x11:Option Nat),cellH h b1 (o2+2)=some (.map x11)∧∃ (l13:List (ME Int)) (n14:Nat),mapAt (Value.int .i64) h x11 l13 n14∧∃ (x16_0:Int) (x16_1:Int),(mlook l13 p2).getD (Value.agg #[.int .i64 0,.int .u64 0])=(Value.agg #[.int .i64 x16_0,.int .u64 x16_1])∧K ((decide (x9_1<x16_1)) || ((decide (x9_1=x16_1)) && (decide (p1<p2)))) h
theorem Gbf (p0:Option Addr) (p1:Int) (p2:Int) (R:Value→Heap→Prop) (h:Heap) (H:Gbe p0 p1 p2 (fun r0 h'=>R (Value.bool r0) h') h):CallsH PR Giq #[.pointer p0,.int .i64 p1,.int .i64 p2] h R:=by
 refine zD (args:=[.pointer p0,.int .i64 p1,.int .i64 p2]) Tryz.func185 U U ?_
 intro f hf
 have e0:=hf 0 _ rfl
 have e1:=hf 1 _ rfl
 have e2:=hf 2 _ rfl
 clear hf
 unfold Gbe at H
 refine ze ?_
 refine zc U ?_
 refine za (zg (v:=.bool false) U ?_)
 refine zh ?_
 refine ze ?_
 obtain⟨b1,o2,rfl,H⟩:=H
 obtain⟨x4,c5,H⟩:=H
 obtain⟨l6,n7,c8,H⟩:=H
 obtain⟨x9_0,x9_1,c10,H⟩:=H
 obtain⟨x11,c12,H⟩:=H
 obtain⟨l13,n14,c15,H⟩:=H
 obtain⟨x16_0,x16_1,c17,H⟩:=H
 refine zO Gg5 0 [(Y (some ⟨b1,o2,none⟩)),(Y (some ⟨b1,o2,none⟩)),(Y (some ⟨b1,o2+2,none⟩)),(Value.map x4),(Z .i64 p1),(X #[.int .i64 x9_0,.int .u64 x9_1]),(Z .u64 x9_1),(Y (some ⟨b1,o2,none⟩)),(Y (some ⟨b1,o2,none⟩)),(Y (some ⟨b1,o2+2,none⟩)),(Value.map x11),(Z .i64 p2),(X #[.int .i64 x16_0,.int .u64 x16_1]),(Z .u64 x16_1),(Z .u64 x9_1),(Z .u64 x16_1)] (by kernel_rfl) U mixed_PR ?_
 refine zJ U (zw [0,1,2,3,4,5,6,7,8,9,10,11,12,13,14,15] U ⟨zb U U (zd (v:=.pointer (some ⟨b1,o2,none⟩)) e0 ⟨U,U⟩),zb U U (zj U ⟨U,U⟩),zb U U (zf U fo_245_2 ⟨U,U⟩),zb U U (zk U ag_241 c5 ⟨U,U⟩),zb U U (zd (v:=.int .i64 p1) e1 ⟨U,U⟩),zb U U (yh (zZ .i64) mt_241 z_238 U U c8 c10 ⟨U,U⟩),zb U U (op_field1 U fp_238_1 U ⟨U,U⟩),zb U U (zd (v:=.pointer (some ⟨b1,o2,none⟩)) e0 ⟨U,U⟩),zb U U (zj U ⟨U,U⟩),zb U U (zf U fo_245_2 ⟨U,U⟩),zb U U (zk U ag_241 c12 ⟨U,U⟩),zb U U (zd (v:=.int .i64 p2) e2 ⟨U,U⟩),zb U U (yh (zZ .i64) mt_241 z_238 U U c15 c17 ⟨U,U⟩),zb U U (op_field1 U fp_238_1 U ⟨U,U⟩),zb U U (zg (v:=.int .u64 x9_1) U ⟨U,U⟩),zb U U (zg (v:=.int .u64 x16_1) U ⟨U,U⟩),V⟩) U ?_
 refine ze ?_
 refine zc U ?_
 refine za (zd (v:=.int .u64 x9_1) U ?_)
 refine za (zd (v:=.int .u64 x16_1) U ?_)
 refine za (zY U U ?_)
 refine za (zd (v:=.bool (decide (x9_1<x16_1))) U ?_)
 refine zF (b:=!(decide (x9_1<x16_1))) (zi U U) (Z .u64 x9_1) (fun hb N hN=>zd (v:=.int .u64 x9_1) U hN) ?_
 refine zF (b:=!(decide (x9_1<x16_1))) (zi U U) (Z .u64 x16_1) (fun hb N hN=>zd (v:=.int .u64 x16_1) U hN) ?_
 refine zF (b:=!(decide (x9_1<x16_1))) (zi U U) (W (decide (x9_1=x16_1))) (fun hb N hN=>op_eql (gv hb) (gv hb) hN) ?_
 refine zF (b:=!(decide (x9_1<x16_1))) (zi U U) (W (decide (x9_1=x16_1))) (fun hb N hN=>zd (v:=.bool (decide (x9_1=x16_1))) (gv hb) hN) ?_
 refine zF (b:=(!(decide (x9_1<x16_1))) && (decide (x9_1=x16_1))) (guard_cond U U) (Z .i64 p1) (fun hb N hN=>zd (v:=.int .i64 p1) e1 hN) ?_
 refine zF (b:=(!(decide (x9_1<x16_1))) && (decide (x9_1=x16_1))) (guard_cond U U) (Z .i64 p2) (fun hb N hN=>zd (v:=.int .i64 p2) e2 hN) ?_
 refine zF (b:=(!(decide (x9_1<x16_1))) && (decide (x9_1=x16_1))) (guard_cond U U) (W (decide (p1<p2))) (fun hb N hN=>zY (gv hb) (gv hb) hN) ?_
 refine zF (b:=!(decide (x9_1<x16_1))) (zi U U) (W ((decide (x9_1=x16_1)) && (decide (p1<p2)))) (fun hb N hN=>zV (gv hb) (fun hq=>(gv (and_i hb hq))) U hN) ?_
 refine za (zR U U (fun hq=>(gv (zP hq))) ?_)
 refine za (zg (v:=.bool ((decide (x9_1<x16_1)) || ((decide (x9_1=x16_1)) && (decide (p1<p2))))) U ?_)
 refine zh ?_
 refine zx ?_
 exact zv (zq U zu) H
def Gg6:Cert:=⟨[[],[0],[0,1],[0,1,2],[],[4],[0,1,2,3,4,5]],[false,false,false,false,false,false,true]⟩
def Gg7:Cert:=⟨[[],[],[1],[0],[0,3],[0,1,2,3,4],[0,1,2,3,4,5]],[false,false,false,false,false,false,true]⟩
def Gbg (p0:Option Addr) (p1:Int) (p2:Int) (p3:Int) (K:Int→Heap→Prop) (h:Heap):Prop:=
 ∃ (b1:Nat) (o2:Nat),p0=some ⟨b1,o2,none⟩∧∃ (x4:Option Nat),cellH h b1 (o2+2)=some (.map x4)∧∃ (l6:List (ME Int)) (n7:Nat),mapAt (Value.int .i64) h x4 l6 n7∧∃ (x9_0:Int) (x9_1:Int),(mlook l6 p1).getD (Value.agg #[.int .i64 0,.int .u64 0])=(Value.agg #[.int .i64 x9_0,.int .u64 x9_1])∧∀ (h11:Heap),h11=h.push (.cells #[.int .i64 0,.int .u64 0] 238 (0,0))→∃ (h14:Heap),stCells h.size h11 0 [.int .i64 x9_0,.int .u64 x9_1]=some h14∧(((mlook l6 p1).isSome)=false→K 6 h14)∧(((mlook l6 p1).isSome)=true→∃ (x15:Option Addr),cellH h14 b1 (o2+1)=some (.pointer x15)∧∃ (x17:Int),cellH h14 h.size 0=some (.int .i64 x17)∧CallsH PR Gnu #[.pointer x15,.int .i64 x17] h14 (fun v h19=>∃ (x21:Int),v=(Value.int .i64 x21)∧∃ (x22:Int),cellH h19 h.size 0=some (.int .i64 x22)∧(0≤x22∧x22<64)∧∃ (h26:Heap),stCells b1 h19 (o2+67+x22.toNat * 1) [.bool false]=some h26∧∃ (x27:Option Nat),cellH h26 b1 (o2+2)=some (.map x27)∧∃ (r29:Nat),x27=some r29∧∃ (l30:List (ME Int)) (n31:Nat),h26[r29]? = some (mobj (Value.int .i64) l30 n31)∧∀ (h34:Heap),h34=h26.setIfInBounds r29 (mobj (Value.int .i64) (mdel l30 p1) n31)→∃ (x36a:Option Addr) (x36n:Nat) (x36c:Nat),cellH h34 b1 (o2+131)=some (.slice x36a x36n x36c)∧∀ (h38:Heap),h38=h34.push (.cells #[.int .i64 p1,.int .i64 p2,.int .i64 p3] 74 (0,0))→appH 74 3 24 (Value.agg #[.int .i64 0,.int .i64 0,.int .i64 0]) x36a x36n x36c 1 ([.int .i64 p1,.int .i64 p2,.int .i64 p3]) h38 (fun a44 n45 q46 h47=>∃ (h49:Heap),stCells b1 h47 (o2+131) [.slice a44 n45 q46]=some h49∧K 0 h49)))
theorem Gbh (p0:Option Addr) (p1:Int) (p2:Int) (p3:Int) (R:Value→Heap→Prop) (h:Heap) (H:Gbg p0 p1 p2 p3 (fun r0 h'=>R (Value.int .i64 r0) h') h):CallsH PR Gir #[.pointer p0,.int .i64 p1,.int .i64 p2,.int .i64 p3] h R:=by
 refine zD (args:=[.pointer p0,.int .i64 p1,.int .i64 p2,.int .i64 p3]) Tryz.func138 U U ?_
 intro f hf
 have e0:=hf 0 _ rfl
 have e1:=hf 1 _ rfl
 have e2:=hf 2 _ rfl
 have e3:=hf 3 _ rfl
 clear hf
 unfold Gbg at H
 refine ze ?_
 refine zc U ?_
 refine za (zg (v:=.int .i64 0) U ?_)
 refine zh ?_
 refine ze ?_
 refine zc U ?_
 refine za (zd (v:=.pointer p0) e0 ?_)
 obtain⟨b1,o2,rfl,H⟩:=H
 refine za (zj U ?_)
 refine za (zf U fo_245_2 ?_)
 obtain⟨x4,c5,H⟩:=H
 refine za (zk U ag_241 c5 ?_)
 refine za (zd (v:=.int .i64 p1) e1 ?_)
 obtain⟨l6,n7,c8,H⟩:=H
 obtain⟨x9_0,x9_1,c10,H⟩:=H
 refine za (op_lookup_ok' (zZ .i64) mt_241 z_238 U U c8 c10 ?_)
 refine za (zd (v:=.tuple #[.agg #[.int .i64 x9_0,.int .u64 x9_1],.bool ((mlook l6 p1).isSome)]) U ?_)
 refine za (zB U U ?_)
 refine za (zB U U ?_)
 obtain⟨h11,c12⟩ : ∃ h11,h11=h.push (.cells #[.int .i64 0,.int .u64 0] 238 (0,0)):=⟨_,rfl⟩
 replace H:=H h11 c12
 refine za (zW z_238 c12 ?_)
 obtain⟨h14,c13,H⟩:=H
 refine za (zI (v:=.agg #[.int .i64 x9_0,.int .u64 x9_1]) U U sz_238 U c13 ?_)
 refine za (zg (v:=.bool ((mlook l6 p1).isSome)) U ?_)
 refine zh ?_
 refine ze ?_
 refine ze ?_
 refine zc U ?_
 refine za (zd (v:=.bool ((mlook l6 p1).isSome)) U ?_)
 refine za (yi U ?_)
 refine zh ?_
 refine zz (!((mlook l6 p1).isSome)) U ?_ ?_
 ·intro hb
  replace H:=H.1 (zt hb)
  refine ze ?_
  refine zc U ?_
  refine za (zg (v:=.int .i64 6) U ?_)
  refine zh ?_
  refine zx ?_
  exact zv (zq U zu) H
 ·intro hb
  replace H:=H.2 (zL hb)
  refine zC ?_
  refine ze ?_
  obtain⟨x15,c16,H⟩:=H
  obtain⟨x17,c18,H⟩:=H
  refine zO Gg6 1 [(Y (some ⟨b1,o2,none⟩)),(Y (some ⟨b1,o2,none⟩)),(Y (some ⟨b1,o2+1,none⟩)),(Y x15),(Y (some ⟨h.size,0,none⟩)),(Z .i64 x17),undef] (by kernel_rfl) U mixed_PR ?_
  refine zA [6] (by decide) U (zw [0,1,2,3,4,5] U ⟨zb U U (zd (v:=.pointer (some ⟨b1,o2,none⟩)) e0 ⟨U,U⟩),zb U U (zj U ⟨U,U⟩),zb U U (zf U fo_245_1 ⟨U,U⟩),zb U U (zk U ag_240 c16 ⟨U,U⟩),zb U U (zf U fo_238_0 ⟨U,U⟩),zb U U (zk U ag_3 c18 ⟨U,U⟩),V⟩) U ⟨?_,V⟩
  refine zb U U (zG (vs:=[.pointer x15,.int .i64 x17]) en_177 (zm U (zm U zy)) (CallsH.mono H ?_))
  clear H
  rintro _ h19 ⟨x21,rfl,H⟩
  refine⟨[(Value.pointer (some ⟨b1,o2,none⟩)),(Value.pointer (some ⟨b1,o2,none⟩)),(Value.pointer (some ⟨b1,o2+1,none⟩)),(Value.pointer x15),(Value.pointer (some ⟨h.size,0,none⟩)),(Value.int .i64 x17),(Value.int .i64 x21)],rfl,(zH [0,1,2,3,4,5] rfl ⟨rfl,rfl,rfl,rfl,rfl,rfl,trivial⟩),?_⟩
  refine zJ U (zw [] U V) U ?_
  refine ze ?_
  obtain⟨x22,c23,H⟩:=H
  obtain⟨c24,H⟩:=H
  refine zO Gg7 1 [(Y (some ⟨b1,o2,none⟩)),(Y (some ⟨h.size,0,none⟩)),(Z .i64 x22),(Y (some ⟨b1,o2,none⟩)),(Y (some ⟨b1,o2+67,none⟩)),(Y (some ⟨b1,o2+67+x22.toNat * 1,none⟩)),undef] (by kernel_rfl) U mixed_PR ?_
  refine zA [6] (by decide) U (zw [0,1,2,3,4,5] U ⟨zb U U (zd (v:=.pointer (some ⟨b1,o2,none⟩)) e0 ⟨U,U⟩),zb U U (zf U fo_238_0 ⟨U,U⟩),zb U U (zk U ag_3 c23 ⟨U,U⟩),zb U U (zj U ⟨U,U⟩),zb U U (zf U fo_245_4 ⟨U,U⟩),zb U U (zQ U U ei_243 c24 ⟨U,U⟩),V⟩) U ⟨?_,V⟩
  obtain⟨h26,c25,H⟩:=H
  refine zb U U (zI (v:=.bool false) U U sz_4 U c25 ?_)
  refine⟨[(Value.pointer (some ⟨b1,o2,none⟩)),(Value.pointer (some ⟨h.size,0,none⟩)),(Value.int .i64 x22),(Value.pointer (some ⟨b1,o2,none⟩)),(Value.pointer (some ⟨b1,o2+67,none⟩)),(Value.pointer (some ⟨b1,o2+67+x22.toNat * 1,none⟩)),undef],rfl,(zH [0,1,2,3,4,5] rfl ⟨rfl,rfl,rfl,rfl,rfl,rfl,trivial⟩),?_⟩
  refine zJ U (zw [] U V) U ?_
  refine ze ?_
  refine zc U ?_
  refine za (zd (v:=.pointer (some ⟨b1,o2,none⟩)) e0 ?_)
  refine za (zj U ?_)
  refine za (zf U fo_245_2 ?_)
  obtain⟨x27,c28,H⟩:=H
  refine za (zk U ag_241 c28 ?_)
  refine za (zd (v:=.int .i64 p1) e1 ?_)
  obtain⟨r29,rfl,H⟩:=H
  obtain⟨l30,n31,c33,H⟩:=H
  obtain⟨h34,c35⟩ : ∃ h34,h34=h26.setIfInBounds r29 (mobj (Value.int .i64) (mdel l30 p1) n31):=⟨_,rfl⟩
  replace H:=H h34 c35
  refine za (op_delete' (zZ .i64) U mt_241 U U c33 c35 ?_)
  refine zh ?_
  refine ze ?_
  refine zc U ?_
  refine za (zd (v:=.pointer (some ⟨b1,o2,none⟩)) e0 ?_)
  refine za (zd (v:=.pointer (some ⟨b1,o2,none⟩)) e0 ?_)
  refine za (zj U ?_)
  refine za (zf U fo_245_5 ?_)
  obtain⟨x36a,x36n,x36c,c37,H⟩:=H
  refine za (zk U ag_70 c37 ?_)
  refine za (zd (v:=.int .i64 p1) e1 ?_)
  refine za (zd (v:=.int .i64 p2) e2 ?_)
  refine za (zd (v:=.int .i64 p3) e3 ?_)
  refine za (zX (vs:=[(0,.int .i64 p1),(1,.int .i64 p2),(2,.int .i64 p3)]) (cs:=#[.int .i64 p1,.int .i64 p2,.int .i64 p3]) z_74 fs_74 (zM U (zM U (zM U zT))) U ?_)
  obtain⟨h38,c39⟩ : ∃ h38,h38=h34.push (.cells #[.int .i64 p1,.int .i64 p2,.int .i64 p3] 74 (0,0)):=⟨_,rfl⟩
  replace H:=H h38 c39
  refine za (yg (cs:=#[.int .i64 p1,.int .i64 p2,.int .i64 p3]) (vs:=[(0,.agg #[.int .i64 p1,.int .i64 p2,.int .i64 p3])]) (zl:=[.int .i64 0,.int .i64 0,.int .i64 0]) ri_70 (by decide) U U (zM U zT) U c39 ?_)
  refine za (op_append' (src:=(T (some ⟨h34.size,0,none⟩) 1 1)) (news:=[.int .i64 p1,.int .i64 p2,.int .i64 p3]) ri_70 (.inl ⟨_,un_70⟩) U U U (first_fresh c39 U U U) (appH.mono H ?_))
  clear H
  intro a44 n45 q46 h47 H
  refine za (zj U ?_)
  refine za (zf U fo_245_5 ?_)
  obtain⟨h49,c48,H⟩:=H
  refine za (zI (v:=.slice a44 n45 q46) U U sz_70 U c48 ?_)
  refine zh ?_
  refine ze ?_
  refine zc U ?_
  refine za (zg (v:=.int .i64 0) U ?_)
  refine zh ?_
  refine zx ?_
  exact zv (zq U zu) H
end Go.Proofs.Vf
