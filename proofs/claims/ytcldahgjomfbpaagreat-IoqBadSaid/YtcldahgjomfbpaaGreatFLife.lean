/- Printed by a program of this claim: for each Go function named below a formula over the heap, and the proof that it gives the call of that function. No conditions. -/
import Derived.Test.YtcldahgjomfbpaaGreatBase
namespace Go.Proofs.Vf
open Go Go.Proofs Go.VC
set_option maxRecDepth 100000
set_option maxHeartbeats 4000000
set_option linter.unusedVariables false
def F_life_New (p0:Int) (K:Option Addr→Int→Heap→Prop) (h:Heap):Prop:=
 (((decide (p0<1)) || (decide (1000<p0)))=true→K none 1 h)∧(((decide (p0<1)) || (decide (1000<p0)))=false→CallsH PR fn_wheel_New #[] h (fun v h3=>∃ (x5:Option Addr),v=(Value.pointer x5)∧∀ (h6:Heap),h6=h3.push (.map #[] 0)→∀ (h8:Heap),h8=h6.push (.cells #[.int .u64 p0,.pointer x5,.map (some h3.size),.int .i64 0,.int .i64 0,.int .i64 0,.int .i64 0,.int .i64 0,.int .i64 0,.int .i64 0,.int .i64 0,.int .i64 0,.int .i64 0,.int .i64 0,.int .i64 0,.int .i64 0,.int .i64 0,.int .i64 0,.int .i64 0,.int .i64 0,.int .i64 0,.int .i64 0,.int .i64 0,.int .i64 0,.int .i64 0,.int .i64 0,.int .i64 0,.int .i64 0,.int .i64 0,.int .i64 0,.int .i64 0,.int .i64 0,.int .i64 0,.int .i64 0,.int .i64 0,.int .i64 0,.int .i64 0,.int .i64 0,.int .i64 0,.int .i64 0,.int .i64 0,.int .i64 0,.int .i64 0,.int .i64 0,.int .i64 0,.int .i64 0,.int .i64 0,.int .i64 0,.int .i64 0,.int .i64 0,.int .i64 0,.int .i64 0,.int .i64 0,.int .i64 0,.int .i64 0,.int .i64 0,.int .i64 0,.int .i64 0,.int .i64 0,.int .i64 0,.int .i64 0,.int .i64 0,.int .i64 0,.int .i64 0,.int .i64 0,.int .i64 0,.int .i64 0,.bool false,.bool false,.bool false,.bool false,.bool false,.bool false,.bool false,.bool false,.bool false,.bool false,.bool false,.bool false,.bool false,.bool false,.bool false,.bool false,.bool false,.bool false,.bool false,.bool false,.bool false,.bool false,.bool false,.bool false,.bool false,.bool false,.bool false,.bool false,.bool false,.bool false,.bool false,.bool false,.bool false,.bool false,.bool false,.bool false,.bool false,.bool false,.bool false,.bool false,.bool false,.bool false,.bool false,.bool false,.bool false,.bool false,.bool false,.bool false,.bool false,.bool false,.bool false,.bool false,.bool false,.bool false,.bool false,.bool false,.bool false,.bool false,.bool false,.bool false,.bool false,.bool false,.bool false,.bool false,.slice none 0 0] 245 (0,0))→K (some ⟨h6.size,0,none⟩) 0 h8))
theorem F_life_New_ok (p0:Int) (R:Value→Heap→Prop) (h:Heap) (H:F_life_New p0 (fun r0 r1 h'=>R (Value.tuple #[.pointer r0,.int .i64 r1]) h') h):CallsH PR fn_life_New #[.int .u64 p0] h R:=by
 refine zF (args:=[.int .u64 p0]) Tryz.func88 rfl rfl ?_
 intro f hf
 have e0:=hf 0 _ rfl
 clear hf
 unfold F_life_New at H
 refine ze ?_
 refine zc rfl ?_
 refine za (zf (v:=.pointer none) rfl ?_)
 refine za (zf (v:=.int .i64 0) rfl ?_)
 refine zi ?_
 refine ze ?_
 refine ze ?_
 refine zc rfl ?_
 refine za (zd (v:=.int .u64 p0) e0 ?_)
 refine za (op_lss rfl rfl ?_)
 refine za (zd (v:=.bool (decide (p0<1))) rfl ?_)
 refine zz (b:=!(decide (p0<1))) (zh rfl rfl) (Value.int .u64 p0) (fun hb N hN=>zd (v:=.int .u64 p0) e0 hN) ?_
 refine zz (b:=!(decide (p0<1))) (zh rfl rfl) (Value.bool (decide (1000<p0))) (fun hb N hN=>op_gtr (gv hb) rfl hN) ?_
 refine za (zN rfl rfl (fun hq=>(gv (zJ hq))) ?_)
 refine zi ?_
 refine zx ((decide (p0<1)) || (decide (1000<p0))) rfl ?_ ?_
 ·intro hb
  replace H:=H.1 hb
  refine ze ?_
  refine zc rfl ?_
  refine za (zf (v:=.pointer none) rfl ?_)
  refine za (zf (v:=.int .i64 1) rfl ?_)
  refine zi ?_
  refine zw ?_
  exact zs (zn rfl (zn rfl zr)) H
 ·intro hb
  replace H:=H.2 hb
  refine zB ?_
  refine ze ?_
  refine zc rfl ?_
  refine za (zd (v:=.int .u64 p0) e0 ?_)
  refine za (zA (vs:=[]) en_146 zu (CallsH.mono H ?_))
  clear H
  rintro _ h3 ⟨x5,rfl,H⟩
  obtain ⟨h6,c7⟩ : ∃ h6,h6=h3.push (.map #[] 0):=⟨_,rfl⟩
  replace H:=H h6 c7
  refine za (op_makeMap' c7 ?_)
  refine za (zT (vs:=[(0,.int .u64 p0),(1,.pointer x5),(2,.map (some h3.size))]) (cs:=#[.int .u64 p0,.pointer x5,.map (some h3.size),.int .i64 0,.int .i64 0,.int .i64 0,.int .i64 0,.int .i64 0,.int .i64 0,.int .i64 0,.int .i64 0,.int .i64 0,.int .i64 0,.int .i64 0,.int .i64 0,.int .i64 0,.int .i64 0,.int .i64 0,.int .i64 0,.int .i64 0,.int .i64 0,.int .i64 0,.int .i64 0,.int .i64 0,.int .i64 0,.int .i64 0,.int .i64 0,.int .i64 0,.int .i64 0,.int .i64 0,.int .i64 0,.int .i64 0,.int .i64 0,.int .i64 0,.int .i64 0,.int .i64 0,.int .i64 0,.int .i64 0,.int .i64 0,.int .i64 0,.int .i64 0,.int .i64 0,.int .i64 0,.int .i64 0,.int .i64 0,.int .i64 0,.int .i64 0,.int .i64 0,.int .i64 0,.int .i64 0,.int .i64 0,.int .i64 0,.int .i64 0,.int .i64 0,.int .i64 0,.int .i64 0,.int .i64 0,.int .i64 0,.int .i64 0,.int .i64 0,.int .i64 0,.int .i64 0,.int .i64 0,.int .i64 0,.int .i64 0,.int .i64 0,.int .i64 0,.bool false,.bool false,.bool false,.bool false,.bool false,.bool false,.bool false,.bool false,.bool false,.bool false,.bool false,.bool false,.bool false,.bool false,.bool false,.bool false,.bool false,.bool false,.bool false,.bool false,.bool false,.bool false,.bool false,.bool false,.bool false,.bool false,.bool false,.bool false,.bool false,.bool false,.bool false,.bool false,.bool false,.bool false,.bool false,.bool false,.bool false,.bool false,.bool false,.bool false,.bool false,.bool false,.bool false,.bool false,.bool false,.bool false,.bool false,.bool false,.bool false,.bool false,.bool false,.bool false,.bool false,.bool false,.bool false,.bool false,.bool false,.bool false,.bool false,.bool false,.bool false,.bool false,.bool false,.bool false,.slice none 0 0]) z_245 fs_245 (zC rfl (zC rfl (zC rfl zP))) rfl ?_)
  obtain ⟨h8,c9⟩ : ∃ h8,h8=h6.push (.cells #[.int .u64 p0,.pointer x5,.map (some h3.size),.int .i64 0,.int .i64 0,.int .i64 0,.int .i64 0,.int .i64 0,.int .i64 0,.int .i64 0,.int .i64 0,.int .i64 0,.int .i64 0,.int .i64 0,.int .i64 0,.int .i64 0,.int .i64 0,.int .i64 0,.int .i64 0,.int .i64 0,.int .i64 0,.int .i64 0,.int .i64 0,.int .i64 0,.int .i64 0,.int .i64 0,.int .i64 0,.int .i64 0,.int .i64 0,.int .i64 0,.int .i64 0,.int .i64 0,.int .i64 0,.int .i64 0,.int .i64 0,.int .i64 0,.int .i64 0,.int .i64 0,.int .i64 0,.int .i64 0,.int .i64 0,.int .i64 0,.int .i64 0,.int .i64 0,.int .i64 0,.int .i64 0,.int .i64 0,.int .i64 0,.int .i64 0,.int .i64 0,.int .i64 0,.int .i64 0,.int .i64 0,.int .i64 0,.int .i64 0,.int .i64 0,.int .i64 0,.int .i64 0,.int .i64 0,.int .i64 0,.int .i64 0,.int .i64 0,.int .i64 0,.int .i64 0,.int .i64 0,.int .i64 0,.int .i64 0,.bool false,.bool false,.bool false,.bool false,.bool false,.bool false,.bool false,.bool false,.bool false,.bool false,.bool false,.bool false,.bool false,.bool false,.bool false,.bool false,.bool false,.bool false,.bool false,.bool false,.bool false,.bool false,.bool false,.bool false,.bool false,.bool false,.bool false,.bool false,.bool false,.bool false,.bool false,.bool false,.bool false,.bool false,.bool false,.bool false,.bool false,.bool false,.bool false,.bool false,.bool false,.bool false,.bool false,.bool false,.bool false,.bool false,.bool false,.bool false,.bool false,.bool false,.bool false,.bool false,.bool false,.bool false,.bool false,.bool false,.bool false,.bool false,.bool false,.bool false,.bool false,.bool false,.bool false,.bool false,.slice none 0 0] 245 (0,0)):=⟨_,rfl⟩
  replace H:=H h8 c9
  refine za (op_box (v:=.agg #[.int .u64 p0,.pointer x5,.map (some h3.size),.int .i64 0,.int .i64 0,.int .i64 0,.int .i64 0,.int .i64 0,.int .i64 0,.int .i64 0,.int .i64 0,.int .i64 0,.int .i64 0,.int .i64 0,.int .i64 0,.int .i64 0,.int .i64 0,.int .i64 0,.int .i64 0,.int .i64 0,.int .i64 0,.int .i64 0,.int .i64 0,.int .i64 0,.int .i64 0,.int .i64 0,.int .i64 0,.int .i64 0,.int .i64 0,.int .i64 0,.int .i64 0,.int .i64 0,.int .i64 0,.int .i64 0,.int .i64 0,.int .i64 0,.int .i64 0,.int .i64 0,.int .i64 0,.int .i64 0,.int .i64 0,.int .i64 0,.int .i64 0,.int .i64 0,.int .i64 0,.int .i64 0,.int .i64 0,.int .i64 0,.int .i64 0,.int .i64 0,.int .i64 0,.int .i64 0,.int .i64 0,.int .i64 0,.int .i64 0,.int .i64 0,.int .i64 0,.int .i64 0,.int .i64 0,.int .i64 0,.int .i64 0,.int .i64 0,.int .i64 0,.int .i64 0,.int .i64 0,.int .i64 0,.int .i64 0,.bool false,.bool false,.bool false,.bool false,.bool false,.bool false,.bool false,.bool false,.bool false,.bool false,.bool false,.bool false,.bool false,.bool false,.bool false,.bool false,.bool false,.bool false,.bool false,.bool false,.bool false,.bool false,.bool false,.bool false,.bool false,.bool false,.bool false,.bool false,.bool false,.bool false,.bool false,.bool false,.bool false,.bool false,.bool false,.bool false,.bool false,.bool false,.bool false,.bool false,.bool false,.bool false,.bool false,.bool false,.bool false,.bool false,.bool false,.bool false,.bool false,.bool false,.bool false,.bool false,.bool false,.bool false,.bool false,.bool false,.bool false,.bool false,.bool false,.bool false,.bool false,.bool false,.bool false,.bool false,.slice none 0 0]) rfl c9 ?_)
  refine za (zf (v:=.pointer (some ⟨h6.size,0,none⟩)) rfl ?_)
  refine za (zf (v:=.int .i64 0) rfl ?_)
  refine zi ?_
  refine zw ?_
  exact zs (zn rfl (zn rfl zr)) H
def cert_life_Book_Open_10:Cert:=⟨[[],[],[1],[1,2],[1,2,3],[0,1,2,3,4],[0,1,2,3,4,5],[0,1,2,3,4,5,6],[0,1,2,3,4,5,6],[0,1,2,3,4,5,6,8],[0,1,2,3,4,5,6,8,9],[0,1,2,3,4,5,6,8,9,10],[0,1,2,3,4,5,6,7,8,9,10,11],[0,1,2,3,4,5,6],[0,1,2,3,4,5,6,13],[0,1,2,3,4,5,6,13,14],[0,1,2,3,4,5,6,13,14,15],[0,1,2,3,4,5,6,13,14,15,16],[0,1,2,3,4,5,6,7,8,9,10,11,12,13,14,15,16,17],[0,1,2,3,4,5,6,7,8,9,10,11,12,13,14,15,16,17,18],[0,1,2,3,4,5,6,7,8,9,10,11,12,13,14,15,16,17,18,19]],[false,false,false,false,false,false,false,false,false,false,false,false,false,false,false,false,false,true,false,false,false]⟩
def cert_life_Book_Open_13:Cert:=⟨[[],[0],[0,1],[0,1,2],[],[],[],[6],[6,7],[6,7,8],[5,6,7,8,9],[0,1,2,3,4,5,6,7,8,9,10]],[false,false,false,false,false,false,false,false,false,false,false,true]⟩
def cert_life_Book_Open_14:Cert:=⟨[[],[],[],[],[],[4],[4,5],[4,5,6],[],[],[],[],[10,11],[0],[0,13],[0,1,4,5,6,7,13,14],[0,1,4,5,6,7,13,14,15],[2],[2,17],[0,1,2,3,4,5,6,7,9,13,14,15,16,17,18],[0,1,2,3,4,5,6,7,9,13,14,15,16,17,18,19],[0,1,2,3,4,5,6,7,8,9,13,14,15,16,17,18,19,20],[0,1,2,3,4,5,6,7,8,9,13,14,15,16,17,18,19,20,21],[0,1,2,3,4,5,6,7,8,9,10,11,12,13,14,15,16,17,18,19,20,21,22]],[false,false,false,false,false,false,false,false,false,false,false,false,false,false,false,false,true,false,false,false,true,true,false,true]⟩
def F_life_Book_Open (p0:Option Addr) (p1:Int) (p2:Int) (K:Int→Heap→Prop) (h:Heap):Prop:=
 ∃ (b1:Nat) (o2:Nat),p0=some ⟨b1,o2,none⟩∧∃ (x4:Option Nat),cellH h b1 (o2+2)=some (.map x4)∧∃ (l6:List (ME Int)) (n7:Nat),mapAt (Value.int .i64) h x4 l6 n7∧∃ (x9_0:Int) (x9_1:Int),(mlook l6 p1).getD (Value.agg #[.int .i64 0,.int .u64 0])=(Value.agg #[.int .i64 x9_0,.int .u64 x9_1])∧∀ (h11:Heap),h11=h.push (.cells #[.int .i64 0,.int .u64 0] 238 (0,0))→∃ (h14:Heap),stCells h.size h11 0 [.int .i64 x9_0,.int .u64 x9_1]=some h14∧(((decide (p1<0)) || (decide (65535<p1)))=true→K 1 h14)∧(((decide (p1<0)) || (decide (65535<p1)))=false→CallsH PR fn_tick_May #[.int .u64 p2] h14 (fun v h17=>∃ (x19:Bool),v=(Value.bool x19)∧(x19=false→K 2 h17)∧(x19=true→(((mlook l6 p1).isSome)=true→K 7 h17)∧(((mlook l6 p1).isSome)=false→∃ (x20:Option Nat),cellH h17 b1 (o2+2)=some (.map x20)∧∃ (l22:List (ME Int)) (n23:Nat),mapAt (Value.int .i64) h17 x20 l22 n23∧(64≤(l22.length:Int)→K 4 h17)∧((¬ (64≤(l22.length:Int)))→∃ (x26:Int),cellH h17 b1 o2=some (.int .u64 x26)∧∃ (x29:Int),((¬ (p2<x26))→cellH h17 b1 o2=some (.int .u64 x29))∧∃ (x32:Option Addr),((¬ (p2<x26))→cellH h17 b1 (o2+1)=some (.pointer x32))∧∃ J37:Int→Heap→Prop,(∀ (x36:Int) (h34:Heap),J37 x36 h34→((¬ (p2<x26))→cellH h34 b1 o2=some (Value.int .u64 x29))∧(((decide (p2<x26)) || (decide ((IntKind.u64.wrap (p2 - x29))≤x36)))=true→K 11 h34)∧(((decide (p2<x26)) || (decide ((IntKind.u64.wrap (p2 - x29))≤x36)))=false→CallsH PR fn_life_Book_timer #[.pointer (some ⟨b1,o2,none⟩)] h34 (fun v h40=>∃ (x42:Int),v=(Value.int .i64 x42)∧∃ (x43:Option Addr),cellH h40 b1 (o2+1)=some (.pointer x43)∧∃ (x45:Int),cellH h40 b1 o2=some (.int .u64 x45)∧CallsH PR fn_wheel_Wheel_Set #[.pointer x43,.int .i64 x42,.int .u64 (IntKind.u64.wrap (p2 - x45))] h40 (fun v h48=>∃ (x50:Int),v=(Value.int .i64 x50)∧∃ (x52:Option Nat),cellH h48 b1 (o2+2)=some (.map x52)∧(0≤x42∧x42<64)∧∃ (h56:Heap),stCells b1 h48 (o2+67+x42.toNat * 1) [.bool true]=some h56∧(0≤x42∧x42<64)∧∃ (h59:Heap),stCells b1 h56 (o2+3+x42.toNat * 1) [.int .i64 p1]=some h59∧∃ (r60:Nat),x52=some r60∧∃ (l61:List (ME Int)) (n62:Nat),h59[r60]? = some (mobj (Value.int .i64) l61 n62)∧∀ (h65:Heap),h65=h59.setIfInBounds r60 (mobj (Value.int .i64) (mput l61 p1 ((mlook l61 p1).getD (Value.agg #[.int .i64 0,.int .u64 0])) n62) (mclk l61 p1 n62))→(h65[r60]? = some (mobj (Value.int .i64) (mput l61 p1 ((mlook l61 p1).getD (Value.agg #[.int .i64 0,.int .u64 0])) n62) (mclk l61 p1 n62))∧mapOk l61 n62)∧∀ (h67:Heap),h67=h65.setIfInBounds r60 (mobj (Value.int .i64) (mput l61 p1 (Value.agg #[.int .i64 x42,.int .u64 p2]) n62) (mclk l61 p1 n62))→K 0 h67))))∧((¬ (p2<x26))→CallsH PR fn_wheel_Wheel_Now #[.pointer x32] h17 (fun v h34=>∃ (x36:Int),v=(Value.int .u64 x36)∧J37 x36 h34))∧((p2<x26)→∃ (x36:Int),J37 x36 h17))))))
theorem F_life_Book_Open_ok (p0:Option Addr) (p1:Int) (p2:Int) (R:Value→Heap→Prop) (h:Heap) (H:F_life_Book_Open p0 p1 p2 (fun r0 h'=>R (Value.int .i64 r0) h') h):CallsH PR fn_life_Book_Open #[.pointer p0,.int .i64 p1,.int .u64 p2] h R:=by
 refine zF (args:=[.pointer p0,.int .i64 p1,.int .u64 p2]) Tryz.func68 rfl rfl ?_
 intro f hf
 have e0:=hf 0 _ rfl
 have e1:=hf 1 _ rfl
 have e2:=hf 2 _ rfl
 clear hf
 unfold F_life_Book_Open at H
 refine ze ?_
 refine zc rfl ?_
 refine za (zf (v:=.int .i64 0) rfl ?_)
 refine zi ?_
 refine ze ?_
 refine zc rfl ?_
 refine za (zd (v:=.pointer p0) e0 ?_)
 obtain ⟨b1,o2,rfl,H⟩:=H
 refine za (zm rfl ?_)
 refine za (zg rfl fo_245_2 ?_)
 obtain ⟨x4,c5,H⟩:=H
 refine za (zk rfl ag_241 c5 ?_)
 refine za (zd (v:=.int .i64 p1) e1 ?_)
 obtain ⟨l6,n7,c8,H⟩:=H
 obtain ⟨x9_0,x9_1,c10,H⟩:=H
 refine za (op_lookup_ok' (int_enc .i64) mt_241 z_238 rfl rfl c8 c10 ?_)
 refine za (zd (v:=.tuple #[.agg #[.int .i64 x9_0,.int .u64 x9_1],.bool ((mlook l6 p1).isSome)]) rfl ?_)
 refine za (zy rfl rfl ?_)
 refine za (zy rfl rfl ?_)
 obtain ⟨h11,c12⟩ : ∃ h11,h11=h.push (.cells #[.int .i64 0,.int .u64 0] 238 (0,0)):=⟨_,rfl⟩
 replace H:=H h11 c12
 refine za (zV z_238 c12 ?_)
 obtain ⟨h14,c13,H⟩:=H
 refine za (zH (v:=.agg #[.int .i64 x9_0,.int .u64 x9_1]) rfl rfl sz_238 rfl c13 ?_)
 refine za (zf (v:=.bool ((mlook l6 p1).isSome)) rfl ?_)
 refine zi ?_
 refine ze ?_
 refine zL ?_
 refine ze ?_
 refine zc rfl ?_
 refine za (zd (v:=.int .i64 p1) e1 ?_)
 refine za (op_lss rfl rfl ?_)
 refine za (zd (v:=.bool (decide (p1<0))) rfl ?_)
 refine zz (b:=!(decide (p1<0))) (zh rfl rfl) (Value.int .i64 p1) (fun hb N hN=>zd (v:=.int .i64 p1) e1 hN) ?_
 refine zz (b:=!(decide (p1<0))) (zh rfl rfl) (Value.bool (decide (65535<p1))) (fun hb N hN=>op_gtr (gv hb) rfl hN) ?_
 refine za (zN rfl rfl (fun hq=>(gv (zJ hq))) ?_)
 refine za (zf (v:=.bool ((decide (p1<0)) || (decide (65535<p1)))) rfl ?_)
 refine zi ?_
 refine zx ((decide (p1<0)) || (decide (65535<p1))) rfl ?_ ?_
 ·intro hb
  replace H:=H.1 hb
  refine ze ?_
  refine zc rfl ?_
  refine za (zf (v:=.int .i64 1) rfl ?_)
  refine zi ?_
  refine zw ?_
  exact zs (zn rfl zr) H
 ·intro hb
  replace H:=H.2 hb
  refine ze ?_
  refine zc rfl ?_
  refine za (zd (v:=.int .u64 p2) e2 ?_)
  refine za (zA (vs:=[.int .u64 p2]) en_117 (zj rfl zu) (CallsH.mono H ?_))
  clear H
  rintro _ h17 ⟨x19,rfl,H⟩
  refine za (op_not rfl ?_)
  refine za (zf (v:=.bool (!x19)) rfl ?_)
  refine zi ?_
  refine zx (!x19) rfl ?_ ?_
  ·intro hb
   replace H:=H.1 (zq hb)
   refine ze ?_
   refine zc rfl ?_
   refine za (zf (v:=.int .i64 2) rfl ?_)
   refine zi ?_
   refine zw ?_
   exact zs (zn rfl zr) H
  ·intro hb
   replace H:=H.2 (zI hb)
   refine ze ?_
   refine zc rfl ?_
   refine za (zd (v:=.bool ((mlook l6 p1).isSome)) rfl ?_)
   refine za (zf (v:=.bool ((mlook l6 p1).isSome)) rfl ?_)
   refine zi ?_
   refine zx ((mlook l6 p1).isSome) rfl ?_ ?_
   ·intro hb
    replace H:=H.1 hb
    refine ze ?_
    refine zc rfl ?_
    refine za (zf (v:=.int .i64 7) rfl ?_)
    refine zi ?_
    refine zw ?_
    exact zs (zn rfl zr) H
   ·intro hb
    replace H:=H.2 hb
    refine ze ?_
    refine zc rfl ?_
    refine za (zd (v:=.pointer (some ⟨b1,o2,none⟩)) e0 ?_)
    refine za (zm rfl ?_)
    refine za (zg rfl fo_245_2 ?_)
    obtain ⟨x20,c21,H⟩:=H
    refine za (zk rfl ag_241 c21 ?_)
    obtain ⟨l22,n23,c24,H⟩:=H
    refine za (op_len_map un_241 rfl c24 ?_)
    refine za (op_geq rfl rfl ?_)
    refine za (zf (v:=.bool (decide (64≤(l22.length:Int)))) rfl ?_)
    refine zi ?_
    refine zx (decide (64≤(l22.length:Int))) rfl ?_ ?_
    ·intro hb
     replace H:=H.1 (of_decide_eq_true hb)
     refine ze ?_
     refine zc rfl ?_
     refine za (zf (v:=.int .i64 4) rfl ?_)
     refine zi ?_
     refine zw ?_
     exact zs (zn rfl zr) H
    ·intro hb
     replace H:=H.2 (of_decide_eq_false hb)
     refine ze ?_
     obtain ⟨x26,c27,H⟩:=H
     obtain ⟨x29,c30,H⟩:=H
     obtain ⟨x32,c33,H⟩:=H
     refine zO cert_life_Book_Open_10 1 [(Value.int .u64 p2),(Value.pointer (some ⟨b1,o2,none⟩)),(Value.pointer (some ⟨b1,o2,none⟩)),(Value.pointer (some ⟨b1,o2,none⟩)),(Value.int .u64 x26),(Value.bool (decide (p2<x26))),(Value.bool (decide (p2<x26))),(bif !(decide (p2<x26)) then (Value.int .u64 p2) else undef),(bif !(decide (p2<x26)) then (Value.pointer (some ⟨b1,o2,none⟩)) else undef),(bif !(decide (p2<x26)) then (Value.pointer (some ⟨b1,o2,none⟩)) else undef),(bif !(decide (p2<x26)) then (Value.pointer (some ⟨b1,o2,none⟩)) else undef),(bif !(decide (p2<x26)) then (Value.int .u64 x29) else undef),(bif !(decide (p2<x26)) then (Value.int .u64 (IntKind.u64.wrap (p2 - x29))) else undef),(bif !(decide (p2<x26)) then (Value.pointer (some ⟨b1,o2,none⟩)) else undef),(bif !(decide (p2<x26)) then (Value.pointer (some ⟨b1,o2,none⟩)) else undef),(bif !(decide (p2<x26)) then (Value.pointer (some ⟨b1,o2+1,none⟩)) else undef),(bif !(decide (p2<x26)) then (Value.pointer x32) else undef),undef,undef,undef,undef] (by kernel_rfl) rfl mixed_PR ?_
     refine zD [17] (by decide) rfl (zv [0,1,2,3,4,5,6,7,8,9,10,11,12,13,14,15,16] rfl ⟨zb rfl rfl (zd (v:=.int .u64 p2) e2 ⟨rfl,rfl⟩),zb rfl rfl (zd (v:=.pointer (some ⟨b1,o2,none⟩)) e0 ⟨rfl,rfl⟩),zb rfl rfl (zm rfl ⟨rfl,rfl⟩),zb rfl rfl (zg rfl fo_245_0 ⟨rfl,rfl⟩),zb rfl rfl (zk rfl ag_37 c27 ⟨rfl,rfl⟩),zb rfl rfl (op_lss rfl rfl ⟨rfl,rfl⟩),zb rfl rfl (zd (v:=.bool (decide (p2<x26))) rfl ⟨rfl,rfl⟩),zp (b:=!(decide (p2<x26))) rfl rfl (zh rfl rfl) (fun hb=>zd (v:=.int .u64 p2) e2 ⟨zt hb,rfl⟩) (fun hb=>⟨zo hb,rfl⟩),zp (b:=!(decide (p2<x26))) rfl rfl (zh rfl rfl) (fun hb=>zd (v:=.pointer (some ⟨b1,o2,none⟩)) e0 ⟨zt hb,rfl⟩) (fun hb=>⟨zo hb,rfl⟩),zp (b:=!(decide (p2<x26))) rfl rfl (zh rfl rfl) (fun hb=>zm (gv hb) ⟨zt hb,rfl⟩) (fun hb=>⟨zo hb,rfl⟩),zp (b:=!(decide (p2<x26))) rfl rfl (zh rfl rfl) (fun hb=>zg (gv hb) fo_245_0 ⟨zt hb,rfl⟩) (fun hb=>⟨zo hb,rfl⟩),zp (b:=!(decide (p2<x26))) rfl rfl (zh rfl rfl) (fun hb=>zk (gv hb) ag_37 (c30 (of_decide_eq_false (zq hb))) ⟨zt hb,rfl⟩) (fun hb=>⟨zo hb,rfl⟩),zp (b:=!(decide (p2<x26))) rfl rfl (zh rfl rfl) (fun hb=>op_sub (gv hb) (gv hb) rfl ⟨zt hb,rfl⟩) (fun hb=>⟨zo hb,rfl⟩),zp (b:=!(decide (p2<x26))) rfl rfl (zh rfl rfl) (fun hb=>zd (v:=.pointer (some ⟨b1,o2,none⟩)) e0 ⟨zt hb,rfl⟩) (fun hb=>⟨zo hb,rfl⟩),zp (b:=!(decide (p2<x26))) rfl rfl (zh rfl rfl) (fun hb=>zm (gv hb) ⟨zt hb,rfl⟩) (fun hb=>⟨zo hb,rfl⟩),zp (b:=!(decide (p2<x26))) rfl rfl (zh rfl rfl) (fun hb=>zg (gv hb) fo_245_1 ⟨zt hb,rfl⟩) (fun hb=>⟨zo hb,rfl⟩),zp (b:=!(decide (p2<x26))) rfl rfl (zh rfl rfl) (fun hb=>zk (gv hb) ag_240 (c33 (of_decide_eq_false (zq hb))) ⟨zt hb,rfl⟩) (fun hb=>⟨zo hb,rfl⟩),trivial⟩) rfl ⟨?_,trivial⟩
     obtain ⟨J37,HR,HT,HF⟩:=H
     refine stepAt_gl (b:=!(decide (p2<x26))) rfl rfl (zh rfl rfl) (fun v h34=>∃ (x36:Int),v=(bif !(decide (p2<x26)) then (Value.int .u64 x36) else undef)∧J37 x36 h34) ?_ ?_ ?_
     ·rintro _ h34 ⟨x36,rfl,hJ⟩
      have H:=HR x36 h34 hJ
      obtain ⟨c38,H⟩:=H
      refine ⟨[(Value.int .u64 p2),(Value.pointer (some ⟨b1,o2,none⟩)),(Value.pointer (some ⟨b1,o2,none⟩)),(Value.pointer (some ⟨b1,o2,none⟩)),(Value.int .u64 x26),(Value.bool (decide (p2<x26))),(Value.bool (decide (p2<x26))),(bif !(decide (p2<x26)) then (Value.int .u64 p2) else undef),(bif !(decide (p2<x26)) then (Value.pointer (some ⟨b1,o2,none⟩)) else undef),(bif !(decide (p2<x26)) then (Value.pointer (some ⟨b1,o2,none⟩)) else undef),(bif !(decide (p2<x26)) then (Value.pointer (some ⟨b1,o2,none⟩)) else undef),(bif !(decide (p2<x26)) then (Value.int .u64 x29) else undef),(bif !(decide (p2<x26)) then (Value.int .u64 (IntKind.u64.wrap (p2 - x29))) else undef),(bif !(decide (p2<x26)) then (Value.pointer (some ⟨b1,o2,none⟩)) else undef),(bif !(decide (p2<x26)) then (Value.pointer (some ⟨b1,o2,none⟩)) else undef),(bif !(decide (p2<x26)) then (Value.pointer (some ⟨b1,o2+1,none⟩)) else undef),(bif !(decide (p2<x26)) then (Value.pointer x32) else undef),(bif !(decide (p2<x26)) then (Value.int .u64 x36) else undef),(bif !(decide (p2<x26)) then (Value.bool (decide ((IntKind.u64.wrap (p2 - x29))≤x36))) else undef),(Value.bool ((decide (p2<x26)) || (decide ((IntKind.u64.wrap (p2 - x29))≤x36)))),(Value.bool ((decide (p2<x26)) || (decide ((IntKind.u64.wrap (p2 - x29))≤x36))))],rfl,(zG [0,1,2,3,4,5,6,7,8,9,10,11,12,13,14,15,16] rfl ⟨rfl,rfl,rfl,rfl,rfl,rfl,rfl,rfl,rfl,rfl,rfl,rfl,rfl,rfl,rfl,rfl,rfl,trivial⟩),?_⟩
      refine zK rfl (zv [7,8,9,10,11,12,18,19,20] rfl ⟨zp (b:=!(decide (p2<x26))) rfl rfl (zh rfl rfl) (fun hb=>zd (v:=.int .u64 p2) e2 ⟨zt hb,rfl⟩) (fun hb=>⟨zo hb,rfl⟩),zp (b:=!(decide (p2<x26))) rfl rfl (zh rfl rfl) (fun hb=>zd (v:=.pointer (some ⟨b1,o2,none⟩)) e0 ⟨zt hb,rfl⟩) (fun hb=>⟨zo hb,rfl⟩),zp (b:=!(decide (p2<x26))) rfl rfl (zh rfl rfl) (fun hb=>zm (gv hb) ⟨zt hb,rfl⟩) (fun hb=>⟨zo hb,rfl⟩),zp (b:=!(decide (p2<x26))) rfl rfl (zh rfl rfl) (fun hb=>zg (gv hb) fo_245_0 ⟨zt hb,rfl⟩) (fun hb=>⟨zo hb,rfl⟩),zp (b:=!(decide (p2<x26))) rfl rfl (zh rfl rfl) (fun hb=>zk (gv hb) ag_37 (c38 (of_decide_eq_false (zq hb))) ⟨zt hb,rfl⟩) (fun hb=>⟨zo hb,rfl⟩),zp (b:=!(decide (p2<x26))) rfl rfl (zh rfl rfl) (fun hb=>op_sub (gv hb) (gv hb) rfl ⟨zt hb,rfl⟩) (fun hb=>⟨zo hb,rfl⟩),zp (b:=!(decide (p2<x26))) rfl rfl (zh rfl rfl) (fun hb=>op_leq (gv hb) (gv hb) ⟨zt hb,rfl⟩) (fun hb=>⟨zo hb,rfl⟩),zb rfl rfl (zN rfl rfl (fun hq=>(gv (zJ hq))) ⟨rfl,rfl⟩),zb rfl rfl (zf (v:=.bool ((decide (p2<x26)) || (decide ((IntKind.u64.wrap (p2 - x29))≤x36)))) rfl ⟨rfl,rfl⟩),trivial⟩) rfl ?_
      refine zx ((decide (p2<x26)) || (decide ((IntKind.u64.wrap (p2 - x29))≤x36))) rfl ?_ ?_
      ·intro hb
       replace H:=H.1 hb
       refine ze ?_
       refine zc rfl ?_
       refine za (zf (v:=.int .i64 11) rfl ?_)
       refine zi ?_
       refine zw ?_
       exact zs (zn rfl zr) H
      ·intro hb
       replace H:=H.2 hb
       refine zB ?_
       refine ze ?_
       refine zc rfl ?_
       refine za (zd (v:=.pointer (some ⟨b1,o2,none⟩)) e0 ?_)
       refine za (zA (vs:=[.pointer (some ⟨b1,o2,none⟩)]) en_126 (zj rfl zu) (CallsH.mono H ?_))
       clear H
       rintro _ h40 ⟨x42,rfl,H⟩
       refine za (zf (v:=.int .i64 x42) rfl ?_)
       refine zi ?_
       refine ze ?_
       obtain ⟨x43,c44,H⟩:=H
       obtain ⟨x45,c46,H⟩:=H
       refine zO cert_life_Book_Open_13 1 [(Value.pointer (some ⟨b1,o2,none⟩)),(Value.pointer (some ⟨b1,o2,none⟩)),(Value.pointer (some ⟨b1,o2+1,none⟩)),(Value.pointer x43),(Value.int .i64 x42),(Value.int .u64 p2),(Value.pointer (some ⟨b1,o2,none⟩)),(Value.pointer (some ⟨b1,o2,none⟩)),(Value.pointer (some ⟨b1,o2,none⟩)),(Value.int .u64 x45),(Value.int .u64 (IntKind.u64.wrap (p2 - x45))),undef] (by kernel_rfl) rfl mixed_PR ?_
       refine zD [11] (by decide) rfl (zv [0,1,2,3,4,5,6,7,8,9,10] rfl ⟨zb rfl rfl (zd (v:=.pointer (some ⟨b1,o2,none⟩)) e0 ⟨rfl,rfl⟩),zb rfl rfl (zm rfl ⟨rfl,rfl⟩),zb rfl rfl (zg rfl fo_245_1 ⟨rfl,rfl⟩),zb rfl rfl (zk rfl ag_240 c44 ⟨rfl,rfl⟩),zb rfl rfl (zd (v:=.int .i64 x42) rfl ⟨rfl,rfl⟩),zb rfl rfl (zd (v:=.int .u64 p2) e2 ⟨rfl,rfl⟩),zb rfl rfl (zd (v:=.pointer (some ⟨b1,o2,none⟩)) e0 ⟨rfl,rfl⟩),zb rfl rfl (zm rfl ⟨rfl,rfl⟩),zb rfl rfl (zg rfl fo_245_0 ⟨rfl,rfl⟩),zb rfl rfl (zk rfl ag_37 c46 ⟨rfl,rfl⟩),zb rfl rfl (op_sub rfl rfl rfl ⟨rfl,rfl⟩),trivial⟩) rfl ⟨?_,trivial⟩
       refine zb rfl rfl (zA (vs:=[.pointer x43,.int .i64 x42,.int .u64 (IntKind.u64.wrap (p2 - x45))]) en_127 (zj rfl (zj rfl (zj rfl zu))) (CallsH.mono H ?_))
       clear H
       rintro _ h48 ⟨x50,rfl,H⟩
       refine ⟨[(Value.pointer (some ⟨b1,o2,none⟩)),(Value.pointer (some ⟨b1,o2,none⟩)),(Value.pointer (some ⟨b1,o2+1,none⟩)),(Value.pointer x43),(Value.int .i64 x42),(Value.int .u64 p2),(Value.pointer (some ⟨b1,o2,none⟩)),(Value.pointer (some ⟨b1,o2,none⟩)),(Value.pointer (some ⟨b1,o2,none⟩)),(Value.int .u64 x45),(Value.int .u64 (IntKind.u64.wrap (p2 - x45))),(Value.int .i64 x50)],rfl,(zG [0,1,2,3,4,5,6,7,8,9,10] rfl ⟨rfl,rfl,rfl,rfl,rfl,rfl,rfl,rfl,rfl,rfl,rfl,trivial⟩),?_⟩
       refine zK rfl (zv [] rfl trivial) rfl ?_
       refine ze ?_
       refine wpf_forget ?_
       intro fg51 hfg51
       have ag51_0:fg51 0=(Value.pointer (some ⟨b1,o2,none⟩)):=by rw [hfg51]; exact e0
       have ag51_1:fg51 1=(Value.int .i64 p1):=by rw [hfg51]; exact e1
       have ag51_2:fg51 2=(Value.int .u64 p2):=by rw [hfg51]; exact e2
       have ag51_3:fg51 9=(Value.int .i64 x42):=by rw [hfg51]; exact rfl
       clear hfg51
       obtain ⟨x52,c53,H⟩:=H
       obtain ⟨c54,H⟩:=H
       refine zO cert_life_Book_Open_14 4 [(Value.pointer (some ⟨b1,o2,none⟩)),(Value.int .i64 x42),(Value.pointer (some ⟨b1,o2,none⟩)),(Value.int .i64 x42),(Value.pointer (some ⟨b1,o2,none⟩)),(Value.pointer (some ⟨b1,o2,none⟩)),(Value.pointer (some ⟨b1,o2+2,none⟩)),(Value.map x52),(Value.int .i64 p1),(Value.int .i64 p1),(Value.int .i64 x42),(Value.int .u64 p2),(Value.agg #[.int .i64 x42,.int .u64 p2]),(Value.pointer (some ⟨b1,o2,none⟩)),(Value.pointer (some ⟨b1,o2+67,none⟩)),(Value.pointer (some ⟨b1,o2+67+x42.toNat * 1,none⟩)),undef,(Value.pointer (some ⟨b1,o2,none⟩)),(Value.pointer (some ⟨b1,o2+3,none⟩)),undef,undef,undef,undef,undef] (by kernel_rfl) rfl mixed_PR ?_
       refine zD [16] (by decide) rfl (zv [0,1,2,3,4,5,6,7,8,9,10,11,12,13,14,15,17,18] rfl ⟨zb rfl rfl (zd (v:=.pointer (some ⟨b1,o2,none⟩)) ag51_0 ⟨rfl,rfl⟩),zb rfl rfl (zd (v:=.int .i64 x42) ag51_3 ⟨rfl,rfl⟩),zb rfl rfl (zd (v:=.pointer (some ⟨b1,o2,none⟩)) ag51_0 ⟨rfl,rfl⟩),zb rfl rfl (zd (v:=.int .i64 x42) ag51_3 ⟨rfl,rfl⟩),zb rfl rfl (zd (v:=.pointer (some ⟨b1,o2,none⟩)) ag51_0 ⟨rfl,rfl⟩),zb rfl rfl (zm rfl ⟨rfl,rfl⟩),zb rfl rfl (zg rfl fo_245_2 ⟨rfl,rfl⟩),zb rfl rfl (zk rfl ag_241 c53 ⟨rfl,rfl⟩),zb rfl rfl (zd (v:=.int .i64 p1) ag51_1 ⟨rfl,rfl⟩),zb rfl rfl (zd (v:=.int .i64 p1) ag51_1 ⟨rfl,rfl⟩),zb rfl rfl (zd (v:=.int .i64 x42) ag51_3 ⟨rfl,rfl⟩),zb rfl rfl (zd (v:=.int .u64 p2) ag51_2 ⟨rfl,rfl⟩),zb rfl rfl (zT (vs:=[(0,.int .i64 x42),(1,.int .u64 p2)]) (cs:=#[.int .i64 x42,.int .u64 p2]) z_238 fs_238 (zC rfl (zC rfl zP)) rfl ⟨rfl,rfl⟩),zb rfl rfl (zm rfl ⟨rfl,rfl⟩),zb rfl rfl (zg rfl fo_245_4 ⟨rfl,rfl⟩),zb rfl rfl (zS rfl rfl ei_243 c54 ⟨rfl,rfl⟩),zb rfl rfl (zm rfl ⟨rfl,rfl⟩),zb rfl rfl (zg rfl fo_245_3 ⟨rfl,rfl⟩),trivial⟩) rfl ⟨?_,trivial⟩
       obtain ⟨h56,c55,H⟩:=H
       refine zb rfl rfl (zH (v:=.bool true) rfl rfl sz_4 rfl c55 ?_)
       obtain ⟨c57,H⟩:=H
       refine ⟨[(Value.pointer (some ⟨b1,o2,none⟩)),(Value.int .i64 x42),(Value.pointer (some ⟨b1,o2,none⟩)),(Value.int .i64 x42),(Value.pointer (some ⟨b1,o2,none⟩)),(Value.pointer (some ⟨b1,o2,none⟩)),(Value.pointer (some ⟨b1,o2+2,none⟩)),(Value.map x52),(Value.int .i64 p1),(Value.int .i64 p1),(Value.int .i64 x42),(Value.int .u64 p2),(Value.agg #[.int .i64 x42,.int .u64 p2]),(Value.pointer (some ⟨b1,o2,none⟩)),(Value.pointer (some ⟨b1,o2+67,none⟩)),(Value.pointer (some ⟨b1,o2+67+x42.toNat * 1,none⟩)),undef,(Value.pointer (some ⟨b1,o2,none⟩)),(Value.pointer (some ⟨b1,o2+3,none⟩)),(Value.pointer (some ⟨b1,o2+3+x42.toNat * 1,none⟩)),undef,undef,undef,undef],rfl,(zG [0,1,2,3,4,5,6,7,8,9,10,11,12,13,14,15,17,18] rfl ⟨rfl,rfl,rfl,rfl,rfl,rfl,rfl,rfl,rfl,rfl,rfl,rfl,rfl,rfl,rfl,rfl,rfl,rfl,trivial⟩),?_⟩
       refine zD [20] (by decide) rfl (zv [2,3,8,9,10,11,12,17,18,19] rfl ⟨zb rfl rfl (zd (v:=.pointer (some ⟨b1,o2,none⟩)) ag51_0 ⟨rfl,rfl⟩),zb rfl rfl (zd (v:=.int .i64 x42) ag51_3 ⟨rfl,rfl⟩),zb rfl rfl (zd (v:=.int .i64 p1) ag51_1 ⟨rfl,rfl⟩),zb rfl rfl (zd (v:=.int .i64 p1) ag51_1 ⟨rfl,rfl⟩),zb rfl rfl (zd (v:=.int .i64 x42) ag51_3 ⟨rfl,rfl⟩),zb rfl rfl (zd (v:=.int .u64 p2) ag51_2 ⟨rfl,rfl⟩),zb rfl rfl (zT (vs:=[(0,.int .i64 x42),(1,.int .u64 p2)]) (cs:=#[.int .i64 x42,.int .u64 p2]) z_238 fs_238 (zC rfl (zC rfl zP)) rfl ⟨rfl,rfl⟩),zb rfl rfl (zm rfl ⟨rfl,rfl⟩),zb rfl rfl (zg rfl fo_245_3 ⟨rfl,rfl⟩),zb rfl rfl (zS rfl rfl ei_242 c57 ⟨rfl,rfl⟩),trivial⟩) rfl ⟨?_,trivial⟩
       obtain ⟨h59,c58,H⟩:=H
       refine zb rfl rfl (zH (v:=.int .i64 p1) rfl rfl sz_3 rfl c58 ?_)
       refine ⟨[(Value.pointer (some ⟨b1,o2,none⟩)),(Value.int .i64 x42),(Value.pointer (some ⟨b1,o2,none⟩)),(Value.int .i64 x42),(Value.pointer (some ⟨b1,o2,none⟩)),(Value.pointer (some ⟨b1,o2,none⟩)),(Value.pointer (some ⟨b1,o2+2,none⟩)),(Value.map x52),(Value.int .i64 p1),(Value.int .i64 p1),(Value.int .i64 x42),(Value.int .u64 p2),(Value.agg #[.int .i64 x42,.int .u64 p2]),(Value.pointer (some ⟨b1,o2,none⟩)),(Value.pointer (some ⟨b1,o2+67,none⟩)),(Value.pointer (some ⟨b1,o2+67+x42.toNat * 1,none⟩)),undef,(Value.pointer (some ⟨b1,o2,none⟩)),(Value.pointer (some ⟨b1,o2+3,none⟩)),(Value.pointer (some ⟨b1,o2+3+x42.toNat * 1,none⟩)),undef,undef,undef,undef],rfl,(zG [0,1,2,3,4,5,6,7,8,9,10,11,12,13,14,15,16,17,18,19] rfl ⟨rfl,rfl,rfl,rfl,rfl,rfl,rfl,rfl,rfl,rfl,rfl,rfl,rfl,rfl,rfl,rfl,rfl,rfl,rfl,rfl,trivial⟩),?_⟩
       refine zD [21] (by decide) rfl (zv [8,10,11,12] rfl ⟨zb rfl rfl (zd (v:=.int .i64 p1) ag51_1 ⟨rfl,rfl⟩),zb rfl rfl (zd (v:=.int .i64 x42) ag51_3 ⟨rfl,rfl⟩),zb rfl rfl (zd (v:=.int .u64 p2) ag51_2 ⟨rfl,rfl⟩),zb rfl rfl (zT (vs:=[(0,.int .i64 x42),(1,.int .u64 p2)]) (cs:=#[.int .i64 x42,.int .u64 p2]) z_238 fs_238 (zC rfl (zC rfl zP)) rfl ⟨rfl,rfl⟩),trivial⟩) rfl ⟨?_,trivial⟩
       obtain ⟨r60,rfl,H⟩:=H
       obtain ⟨l61,n62,c64,H⟩:=H
       obtain ⟨h65,c66⟩ : ∃ h65,h65=h59.setIfInBounds r60 (mobj (Value.int .i64) (mput l61 p1 ((mlook l61 p1).getD (Value.agg #[.int .i64 0,.int .u64 0])) n62) (mclk l61 p1 n62)):=⟨_,rfl⟩
       replace H:=H h65 c66
       refine zb rfl rfl (op_mapEntry2 (int_enc .i64) mt_241 z_238 rfl rfl c64 rfl c66 ?_)
       refine ⟨[(Value.pointer (some ⟨b1,o2,none⟩)),(Value.int .i64 x42),(Value.pointer (some ⟨b1,o2,none⟩)),(Value.int .i64 x42),(Value.pointer (some ⟨b1,o2,none⟩)),(Value.pointer (some ⟨b1,o2,none⟩)),(Value.pointer (some ⟨b1,o2+2,none⟩)),(Value.map (some r60)),(Value.int .i64 p1),(Value.int .i64 p1),(Value.int .i64 x42),(Value.int .u64 p2),(Value.agg #[.int .i64 x42,.int .u64 p2]),(Value.pointer (some ⟨b1,o2,none⟩)),(Value.pointer (some ⟨b1,o2+67,none⟩)),(Value.pointer (some ⟨b1,o2+67+x42.toNat * 1,none⟩)),undef,(Value.pointer (some ⟨b1,o2,none⟩)),(Value.pointer (some ⟨b1,o2+3,none⟩)),(Value.pointer (some ⟨b1,o2+3+x42.toNat * 1,none⟩)),undef,(Value.tuple #[((mlook l61 p1).getD (Value.agg #[.int .i64 0,.int .u64 0])),.int .i64 ((mstamp l61 p1 n62:Nat):Int)]),(Value.int .i64 ((mstamp l61 p1 n62:Nat):Int)),undef],rfl,(zG [0,1,2,3,4,5,6,7,8,9,10,11,12,13,14,15,16,17,18,19,20] rfl ⟨rfl,rfl,rfl,rfl,rfl,rfl,rfl,rfl,rfl,rfl,rfl,rfl,rfl,rfl,rfl,rfl,rfl,rfl,rfl,rfl,rfl,trivial⟩),?_⟩
       refine zD [23] (by decide) rfl (zv [10,11,12,22] rfl ⟨zb rfl rfl (zd (v:=.int .i64 x42) ag51_3 ⟨rfl,rfl⟩),zb rfl rfl (zd (v:=.int .u64 p2) ag51_2 ⟨rfl,rfl⟩),zb rfl rfl (zT (vs:=[(0,.int .i64 x42),(1,.int .u64 p2)]) (cs:=#[.int .i64 x42,.int .u64 p2]) z_238 fs_238 (zC rfl (zC rfl zP)) rfl ⟨rfl,rfl⟩),zb rfl rfl (zy rfl rfl ⟨rfl,rfl⟩),trivial⟩) rfl ⟨?_,trivial⟩
       obtain ⟨c68,H⟩:=H
       obtain ⟨h67,c69⟩ : ∃ h67,h67=h65.setIfInBounds r60 (mobj (Value.int .i64) (mput l61 p1 (Value.agg #[.int .i64 x42,.int .u64 p2]) n62) (mclk l61 p1 n62)):=⟨_,rfl⟩
       replace H:=H h67 c69
       refine zb rfl rfl (op_entryStore2 (v:=.agg #[.int .i64 x42,.int .u64 p2]) rfl rfl rfl c68 c69 ?_)
       refine ⟨[(Value.pointer (some ⟨b1,o2,none⟩)),(Value.int .i64 x42),(Value.pointer (some ⟨b1,o2,none⟩)),(Value.int .i64 x42),(Value.pointer (some ⟨b1,o2,none⟩)),(Value.pointer (some ⟨b1,o2,none⟩)),(Value.pointer (some ⟨b1,o2+2,none⟩)),(Value.map (some r60)),(Value.int .i64 p1),(Value.int .i64 p1),(Value.int .i64 x42),(Value.int .u64 p2),(Value.agg #[.int .i64 x42,.int .u64 p2]),(Value.pointer (some ⟨b1,o2,none⟩)),(Value.pointer (some ⟨b1,o2+67,none⟩)),(Value.pointer (some ⟨b1,o2+67+x42.toNat * 1,none⟩)),undef,(Value.pointer (some ⟨b1,o2,none⟩)),(Value.pointer (some ⟨b1,o2+3,none⟩)),(Value.pointer (some ⟨b1,o2+3+x42.toNat * 1,none⟩)),undef,(Value.tuple #[((mlook l61 p1).getD (Value.agg #[.int .i64 0,.int .u64 0])),.int .i64 ((mstamp l61 p1 n62:Nat):Int)]),(Value.int .i64 ((mstamp l61 p1 n62:Nat):Int)),undef],rfl,(zG [0,1,2,3,4,5,6,7,8,9,10,11,12,13,14,15,16,17,18,19,20,21,22] rfl ⟨rfl,rfl,rfl,rfl,rfl,rfl,rfl,rfl,rfl,rfl,rfl,rfl,rfl,rfl,rfl,rfl,rfl,rfl,rfl,rfl,rfl,rfl,rfl,trivial⟩),?_⟩
       refine zK rfl (zv [] rfl trivial) rfl ?_
       refine ze ?_
       refine zc rfl ?_
       refine za (zf (v:=.int .i64 0) rfl ?_)
       refine zi ?_
       refine zw ?_
       exact zs (zn rfl zr) H
     ·intro hb
      refine zA (vs:=[.pointer x32]) en_125 (zj (gv hb) zu) (CallsH.mono (HT (of_decide_eq_false (zq hb))) ?_)
      rintro _ h34 ⟨x36,rfl,hJ⟩
      exact ⟨x36,zt hb,hJ⟩
     ·intro hb
      obtain ⟨x36,hJ⟩:=HF (of_decide_eq_true (zI hb))
      exact ⟨x36,zo hb,hJ⟩
def F_life_Book_Go (p0:Option Addr) (p1:Int) (K:Option Addr→Nat→Nat→Int→Heap→Prop) (h:Heap):Prop:=
 ∃ (b1:Nat) (o2:Nat),p0=some ⟨b1,o2,none⟩∧∃ (x4:Option Addr),cellH h b1 (o2+1)=some (.pointer x4)∧CallsH PR fn_wheel_Wheel_Go #[.pointer x4,.int .u64 p1] h (fun v h6=>∃ (x8a:Option Addr) (x8n:Nat) (x8c:Nat) (x9:Int),v=(Value.tuple #[.slice x8a x8n x8c,.int .i64 x9])∧((¬ (x9=0))→K none 0 0 x9 h6)∧(x9=0→CallsH PR fn_life_Book_sorted #[.pointer (some ⟨b1,o2,none⟩),.slice x8a x8n x8c] h6 (fun v h11=>∃ (x13a:Option Addr) (x13n:Nat) (x13c:Nat),v=(Value.slice x13a x13n x13c)∧∃ (I15:Int→Heap→Prop) (mu16:Int→Heap→Nat),I15 0 h11∧∀ (x14:Int) (h18:Heap),I15 x14 h18→(x14<(x13n:Int)→∃ (b21:Nat) (o22:Nat),x13a=some ⟨b21,o22,none⟩∧(0≤x14∧x14<(x13n:Int))∧∃ (x24:Int),cellH h18 b21 (o22+x14.toNat * 1)=some (.int .i64 x24)∧CallsH PR fn_life_Book_out #[.pointer (some ⟨b1,o2,none⟩),.int .i64 x24,.int .i64 2,.int .i64 1] h18 (fun v h26=>∃ (x28:Int),v=(Value.int .i64 x28)∧(-9223372036854775808≤x14+1∧x14+1<9223372036854775808)∧(I15 (x14+1) h26∧mu16 (x14+1) h26<mu16 x14 h18)))∧((¬ (x14<(x13n:Int)))→∃ (x30a:Option Addr) (x30n:Nat) (x30c:Nat),cellH h18 b1 (o2+131)=some (.slice x30a x30n x30c)∧∃ (h33:Heap),stCells b1 h18 (o2+131) [.slice none 0 0]=some h33∧K x30a x30n x30c 0 h33))))
theorem F_life_Book_Go_ok (p0:Option Addr) (p1:Int) (R:Value→Heap→Prop) (h:Heap) (H:F_life_Book_Go p0 p1 (fun r0a r0n r0c r1 h'=>R (Value.tuple #[.slice r0a r0n r0c,.int .i64 r1]) h') h):CallsH PR fn_life_Book_Go #[.pointer p0,.int .u64 p1] h R:=by
 refine zF (args:=[.pointer p0,.int .u64 p1]) Tryz.func94 rfl rfl ?_
 intro f hf
 have e0:=hf 0 _ rfl
 have e1:=hf 1 _ rfl
 clear hf
 unfold F_life_Book_Go at H
 refine ze ?_
 refine zc rfl ?_
 refine za (zf (v:=.slice none 0 0) rfl ?_)
 refine za (zf (v:=.int .i64 0) rfl ?_)
 refine zi ?_
 refine ze ?_
 refine zc rfl ?_
 refine za (zd (v:=.pointer p0) e0 ?_)
 obtain ⟨b1,o2,rfl,H⟩:=H
 refine za (zm rfl ?_)
 refine za (zg rfl fo_245_1 ?_)
 obtain ⟨x4,c5,H⟩:=H
 refine za (zk rfl ag_240 c5 ?_)
 refine za (zd (v:=.int .u64 p1) e1 ?_)
 refine za (zA (vs:=[.pointer x4,.int .u64 p1]) en_148 (zj rfl (zj rfl zu)) (CallsH.mono H ?_))
 clear H
 rintro _ h6 ⟨x8a,x8n,x8c,x9,rfl,H⟩
 refine za (zd (v:=.tuple #[.slice x8a x8n x8c,.int .i64 x9]) rfl ?_)
 refine za (zy rfl rfl ?_)
 refine za (zy rfl rfl ?_)
 refine za (zf (v:=.slice x8a x8n x8c) rfl ?_)
 refine za (zf (v:=.int .i64 x9) rfl ?_)
 refine zi ?_
 refine ze ?_
 refine ze ?_
 refine zc rfl ?_
 refine za (zd (v:=.int .i64 x9) rfl ?_)
 refine za (op_neq rfl rfl ?_)
 refine zi ?_
 refine zx (!decide (x9=0)) rfl ?_ ?_
 ·intro hb
  replace H:=H.1 (of_decide_eq_false (zq hb))
  refine ze ?_
  refine zc rfl ?_
  refine za (zd (v:=.int .i64 x9) rfl ?_)
  refine za (zf (v:=.slice none 0 0) rfl ?_)
  refine za (zf (v:=.int .i64 x9) rfl ?_)
  refine zi ?_
  refine zw ?_
  exact zs (zn rfl (zn rfl zr)) H
 ·intro hb
  replace H:=H.2 (of_decide_eq_true (zI hb))
  refine zB ?_
  refine ze ?_
  refine ze ?_
  refine zc rfl ?_
  refine za (zd (v:=.pointer (some ⟨b1,o2,none⟩)) e0 ?_)
  refine za (zd (v:=.slice x8a x8n x8c) rfl ?_)
  refine za (zA (vs:=[.pointer (some ⟨b1,o2,none⟩),.slice x8a x8n x8c]) en_149 (zj rfl (zj rfl zu)) (CallsH.mono H ?_))
  clear H
  rintro _ h11 ⟨x13a,x13n,x13c,rfl,H⟩
  refine za (zM rfl un_34 ?_)
  refine za (zd (v:=.int .i64 0) rfl ?_)
  refine zi ?_
  refine zL ?_
  obtain ⟨I15,mu16,hI,H⟩:=H
  obtain ⟨I17,mu17,hin17,hout17,hmu17⟩ : ∃ (J17:Fr→Heap→Prop) (m:Fr→Heap→Nat),(∀ f hz (x14:Int),f 27 = .int .i64 x14→f 0 = .pointer (some ⟨b1,o2,none⟩)→f 25 = .slice x13a x13n x13c→f 26 = .int .i64 (x13n:Int)→I15 x14 hz→J17 f hz)∧(∀ f hz,J17 f hz→∃ (x14:Int),f 27 = .int .i64 x14∧f 0 = .pointer (some ⟨b1,o2,none⟩)∧f 25 = .slice x13a x13n x13c∧f 26 = .int .i64 (x13n:Int)∧I15 x14 hz)∧(∀ f hz (x14:Int),f 27 = .int .i64 x14→m f hz=mu16 x14 hz):=⟨fun f hz=>∃ (x14:Int),f 27 = .int .i64 x14∧f 0 = .pointer (some ⟨b1,o2,none⟩)∧f 25 = .slice x13a x13n x13c∧f 26 = .int .i64 (x13n:Int)∧I15 x14 hz,fun f hz=>mu16 (dInt (f 27)) hz,fun _ _ x14 a0 a1 a2 a3 z=>⟨x14,a0,a1,a2,a3,z⟩,fun _ _ hz=>hz,fun f hz x14 a0=>by simp only [a0]; rfl⟩
  refine wpf_loop I17 mu17 (hin17 _ _ _ rfl e0 rfl rfl hI) ?_
  clear hI
  intro f h18 hf
  obtain ⟨x14,a17_0,a17_1,a17_2,a17_3,hJ⟩:=hout17 _ _ hf
  replace H:=H x14 h18 hJ
  refine ze ?_
  refine zc rfl ?_
  refine za (op_lss a17_0 a17_3 ?_)
  refine zi ?_
  refine ze ?_
  refine zx (decide (x14<(x13n:Int))) rfl ?_ ?_
  ·intro hb
   replace H:=H.1 (of_decide_eq_true hb)
   refine zB ?_
   refine ze ?_
   refine zL ?_
   refine ze ?_
   refine zc rfl ?_
   obtain ⟨b21,o22,rfl,H⟩:=H
   obtain ⟨c20,H⟩:=H
   refine za (zE a17_2 a17_0 ei_34 c20 ?_)
   obtain ⟨x24,c25,H⟩:=H
   refine za (zk rfl ag_3 c25 ?_)
   refine za (zf (v:=.int .i64 x24) rfl ?_)
   refine zi ?_
   refine zc rfl ?_
   refine za (zd (v:=.pointer (some ⟨b1,o2,none⟩)) a17_1 ?_)
   refine za (zd (v:=.int .i64 x24) rfl ?_)
   refine za (zA (vs:=[.pointer (some ⟨b1,o2,none⟩),.int .i64 x24,.int .i64 2,.int .i64 1]) en_138 (zj rfl (zj rfl (zj rfl (zj rfl zu)))) (CallsH.mono H ?_))
   clear H
   rintro _ h26 ⟨x28,rfl,H⟩
   refine zi ?_
   refine zc rfl ?_
   obtain ⟨c29,H⟩:=H
   refine za (op_add a17_0 rfl (zU c29) ?_)
   refine za (zd (v:=.int .i64 (x14+1)) rfl ?_)
   refine zi ?_
   exact And.intro (hin17 _ _ _ rfl a17_1 a17_2 a17_3 H.1) (lt_of (hmu17 _ _ _ rfl) (hmu17 _ _ _ a17_0) H.2)
  ·intro hb
   replace H:=H.2 (of_decide_eq_false hb)
   refine wpf_exit ?_
   refine ze ?_
   refine zc rfl ?_
   refine za (zd (v:=.pointer (some ⟨b1,o2,none⟩)) a17_1 ?_)
   refine za (zm rfl ?_)
   refine za (zg rfl fo_245_5 ?_)
   obtain ⟨x30a,x30n,x30c,c31,H⟩:=H
   refine za (zk rfl ag_70 c31 ?_)
   refine za (zf (v:=.slice x30a x30n x30c) rfl ?_)
   refine zi ?_
   refine ze ?_
   refine zc rfl ?_
   refine za (zd (v:=.pointer (some ⟨b1,o2,none⟩)) a17_1 ?_)
   refine za (zm rfl ?_)
   refine za (zg rfl fo_245_5 ?_)
   obtain ⟨h33,c32,H⟩:=H
   refine za (zH (v:=.slice none 0 0) rfl rfl sz_70 rfl c32 ?_)
   refine zi ?_
   refine ze ?_
   refine zc rfl ?_
   refine za (zd (v:=.slice x30a x30n x30c) rfl ?_)
   refine za (zf (v:=.slice x30a x30n x30c) rfl ?_)
   refine za (zf (v:=.int .i64 0) rfl ?_)
   refine zi ?_
   refine zw ?_
   exact zs (zn rfl (zn rfl zr)) H
def F_life_Book_Answer (p0:Option Addr) (p1:Int) (p2:Int) (p3:Bool) (K:Int→Heap→Prop) (h:Heap):Prop:=
 (((decide (p2<0)) || (decide (255<p2)))=true→K 1 h)∧(((decide (p2<0)) || (decide (255<p2)))=false→(p3=true→CallsH PR fn_life_Book_out #[.pointer p0,.int .i64 p1,.int .i64 2,.int .i64 2] h (fun v h3=>∃ (x5:Int),v=(Value.int .i64 x5)∧K x5 h3))∧(p3=false→CallsH PR fn_life_Book_out #[.pointer p0,.int .i64 p1,.int .i64 1,.int .i64 p2] h (fun v h6=>∃ (x8:Int),v=(Value.int .i64 x8)∧K x8 h6)))
theorem F_life_Book_Answer_ok (p0:Option Addr) (p1:Int) (p2:Int) (p3:Bool) (R:Value→Heap→Prop) (h:Heap) (H:F_life_Book_Answer p0 p1 p2 p3 (fun r0 h'=>R (Value.int .i64 r0) h') h):CallsH PR fn_life_Book_Answer #[.pointer p0,.int .i64 p1,.int .i64 p2,.bool p3] h R:=by
 refine zF (args:=[.pointer p0,.int .i64 p1,.int .i64 p2,.bool p3]) Tryz.func76 rfl rfl ?_
 intro f hf
 have e0:=hf 0 _ rfl
 have e1:=hf 1 _ rfl
 have e2:=hf 2 _ rfl
 have e3:=hf 3 _ rfl
 clear hf
 unfold F_life_Book_Answer at H
 refine ze ?_
 refine zc rfl ?_
 refine za (zf (v:=.int .i64 0) rfl ?_)
 refine zi ?_
 refine ze ?_
 refine zL ?_
 refine ze ?_
 refine zc rfl ?_
 refine za (zd (v:=.int .i64 p2) e2 ?_)
 refine za (op_lss rfl rfl ?_)
 refine za (zd (v:=.bool (decide (p2<0))) rfl ?_)
 refine zz (b:=!(decide (p2<0))) (zh rfl rfl) (Value.int .i64 p2) (fun hb N hN=>zd (v:=.int .i64 p2) e2 hN) ?_
 refine zz (b:=!(decide (p2<0))) (zh rfl rfl) (Value.bool (decide (255<p2))) (fun hb N hN=>op_gtr (gv hb) rfl hN) ?_
 refine za (zN rfl rfl (fun hq=>(gv (zJ hq))) ?_)
 refine za (zf (v:=.bool ((decide (p2<0)) || (decide (255<p2)))) rfl ?_)
 refine zi ?_
 refine zx ((decide (p2<0)) || (decide (255<p2))) rfl ?_ ?_
 ·intro hb
  replace H:=H.1 hb
  refine ze ?_
  refine zc rfl ?_
  refine za (zf (v:=.int .i64 1) rfl ?_)
  refine zi ?_
  refine zw ?_
  exact zs (zn rfl zr) H
 ·intro hb
  replace H:=H.2 hb
  refine ze ?_
  refine zc rfl ?_
  refine za (zd (v:=.bool p3) e3 ?_)
  refine za (zf (v:=.bool p3) rfl ?_)
  refine zi ?_
  refine zx (p3) rfl ?_ ?_
  ·intro hb
   replace H:=H.1 hb
   refine ze ?_
   refine zc rfl ?_
   refine za (zd (v:=.pointer p0) e0 ?_)
   refine za (zd (v:=.int .i64 p1) e1 ?_)
   refine za (zA (vs:=[.pointer p0,.int .i64 p1,.int .i64 2,.int .i64 2]) en_138 (zj rfl (zj rfl (zj rfl (zj rfl zu)))) (CallsH.mono H ?_))
   clear H
   rintro _ h3 ⟨x5,rfl,H⟩
   refine za (zf (v:=.int .i64 x5) rfl ?_)
   refine zi ?_
   refine zw ?_
   exact zs (zn rfl zr) H
  ·intro hb
   replace H:=H.2 hb
   refine zB ?_
   refine ze ?_
   refine zc rfl ?_
   refine za (zd (v:=.pointer p0) e0 ?_)
   refine za (zd (v:=.int .i64 p1) e1 ?_)
   refine za (zd (v:=.int .i64 p2) e2 ?_)
   refine za (zA (vs:=[.pointer p0,.int .i64 p1,.int .i64 1,.int .i64 p2]) en_138 (zj rfl (zj rfl (zj rfl (zj rfl zu)))) (CallsH.mono H ?_))
   clear H
   rintro _ h6 ⟨x8,rfl,H⟩
   refine za (zf (v:=.int .i64 x8) rfl ?_)
   refine zi ?_
   refine zw ?_
   exact zs (zn rfl zr) H
def F_life_Book_Cancel (p0:Option Addr) (p1:Int) (K:Int→Heap→Prop) (h:Heap):Prop:=
 CallsH PR fn_life_Book_out #[.pointer p0,.int .i64 p1,.int .i64 2,.int .i64 3] h (fun v h1=>∃ (x3:Int),v=(Value.int .i64 x3)∧K x3 h1)
theorem F_life_Book_Cancel_ok (p0:Option Addr) (p1:Int) (R:Value→Heap→Prop) (h:Heap) (H:F_life_Book_Cancel p0 p1 (fun r0 h'=>R (Value.int .i64 r0) h') h):CallsH PR fn_life_Book_Cancel #[.pointer p0,.int .i64 p1] h R:=by
 refine zF (args:=[.pointer p0,.int .i64 p1]) Tryz.func96 rfl rfl ?_
 intro f hf
 have e0:=hf 0 _ rfl
 have e1:=hf 1 _ rfl
 clear hf
 unfold F_life_Book_Cancel at H
 refine ze ?_
 refine zc rfl ?_
 refine za (zf (v:=.int .i64 0) rfl ?_)
 refine zi ?_
 refine ze ?_
 refine zc rfl ?_
 refine za (zd (v:=.pointer p0) e0 ?_)
 refine za (zd (v:=.int .i64 p1) e1 ?_)
 refine za (zA (vs:=[.pointer p0,.int .i64 p1,.int .i64 2,.int .i64 3]) en_138 (zj rfl (zj rfl (zj rfl (zj rfl zu)))) (CallsH.mono H ?_))
 clear H
 rintro _ h1 ⟨x3,rfl,H⟩
 refine za (zf (v:=.int .i64 x3) rfl ?_)
 refine zi ?_
 refine zw ?_
 exact zs (zn rfl zr) H
def F_life_Book_Has (p0:Option Addr) (p1:Int) (K:Int→Bool→Heap→Prop) (h:Heap):Prop:=
 ∃ (b1:Nat) (o2:Nat),p0=some ⟨b1,o2,none⟩∧∃ (x4:Option Nat),cellH h b1 (o2+2)=some (.map x4)∧∃ (l6:List (ME Int)) (n7:Nat),mapAt (Value.int .i64) h x4 l6 n7∧∃ (x9_0:Int) (x9_1:Int),(mlook l6 p1).getD (Value.agg #[.int .i64 0,.int .u64 0])=(Value.agg #[.int .i64 x9_0,.int .u64 x9_1])∧∀ (h11:Heap),h11=h.push (.cells #[.int .i64 0,.int .u64 0] 238 (0,0))→∃ (h14:Heap),stCells h.size h11 0 [.int .i64 x9_0,.int .u64 x9_1]=some h14∧∃ (x15:Int),cellH h14 h.size 1=some (.int .u64 x15)∧K x15 ((mlook l6 p1).isSome) h14
theorem F_life_Book_Has_ok (p0:Option Addr) (p1:Int) (R:Value→Heap→Prop) (h:Heap) (H:F_life_Book_Has p0 p1 (fun r0 r1 h'=>R (Value.tuple #[.int .u64 r0,.bool r1]) h') h):CallsH PR fn_life_Book_Has #[.pointer p0,.int .i64 p1] h R:=by
 refine zF (args:=[.pointer p0,.int .i64 p1]) Tryz.func95 rfl rfl ?_
 intro f hf
 have e0:=hf 0 _ rfl
 have e1:=hf 1 _ rfl
 clear hf
 unfold F_life_Book_Has at H
 refine ze ?_
 refine zc rfl ?_
 refine za (zf (v:=.int .u64 0) rfl ?_)
 refine za (zf (v:=.bool false) rfl ?_)
 refine zi ?_
 refine ze ?_
 refine zc rfl ?_
 refine za (zd (v:=.pointer p0) e0 ?_)
 obtain ⟨b1,o2,rfl,H⟩:=H
 refine za (zm rfl ?_)
 refine za (zg rfl fo_245_2 ?_)
 obtain ⟨x4,c5,H⟩:=H
 refine za (zk rfl ag_241 c5 ?_)
 refine za (zd (v:=.int .i64 p1) e1 ?_)
 obtain ⟨l6,n7,c8,H⟩:=H
 obtain ⟨x9_0,x9_1,c10,H⟩:=H
 refine za (op_lookup_ok' (int_enc .i64) mt_241 z_238 rfl rfl c8 c10 ?_)
 refine za (zd (v:=.tuple #[.agg #[.int .i64 x9_0,.int .u64 x9_1],.bool ((mlook l6 p1).isSome)]) rfl ?_)
 refine za (zy rfl rfl ?_)
 refine za (zy rfl rfl ?_)
 obtain ⟨h11,c12⟩ : ∃ h11,h11=h.push (.cells #[.int .i64 0,.int .u64 0] 238 (0,0)):=⟨_,rfl⟩
 replace H:=H h11 c12
 refine za (zV z_238 c12 ?_)
 obtain ⟨h14,c13,H⟩:=H
 refine za (zH (v:=.agg #[.int .i64 x9_0,.int .u64 x9_1]) rfl rfl sz_238 rfl c13 ?_)
 refine za (zf (v:=.bool ((mlook l6 p1).isSome)) rfl ?_)
 refine zi ?_
 refine ze ?_
 refine zc rfl ?_
 refine za (zg rfl fo_238_1 ?_)
 obtain ⟨x15,c16,H⟩:=H
 refine za (zk rfl ag_37 c16 ?_)
 refine za (zd (v:=.bool ((mlook l6 p1).isSome)) rfl ?_)
 refine za (zf (v:=.int .u64 x15) rfl ?_)
 refine za (zf (v:=.bool ((mlook l6 p1).isSome)) rfl ?_)
 refine zi ?_
 refine zw ?_
 exact zs (zn rfl (zn rfl zr)) H
def F_life_Book_timer (p0:Option Addr) (K:Int→Heap→Prop) (h:Heap):Prop:=
 ∃ (b1:Nat) (o2:Nat),p0=some ⟨b1,o2,none⟩∧∃ (x4:List Value),ldCells h b1 (o2+67) 64=some x4∧∃ (I7:Int→Heap→Prop) (mu8:Int→Heap→Nat),I7 0 h∧∀ (x6:Int) (h10:Heap),I7 x6 h10→(x6<64→∃ (x13:Bool),((0≤x6∧x6<64)∧(x4:List Value)[x6.toNat * 1]? = some (Value.bool x13))∧(x13=false→K x6 h10)∧(x13=true→(-9223372036854775808≤x6+1∧x6+1<9223372036854775808)∧(I7 (x6+1) h10∧mu8 (x6+1) h10<mu8 x6 h10)))∧((¬ (x6<64))→K 64 h10)
theorem F_life_Book_timer_ok (p0:Option Addr) (R:Value→Heap→Prop) (h:Heap) (H:F_life_Book_timer p0 (fun r0 h'=>R (Value.int .i64 r0) h') h):CallsH PR fn_life_Book_timer #[.pointer p0] h R:=by
 refine zF (args:=[.pointer p0]) Tryz.func126 rfl rfl ?_
 intro f hf
 have e0:=hf 0 _ rfl
 clear hf
 unfold F_life_Book_timer at H
 refine ze ?_
 refine zc rfl ?_
 refine za (zf (v:=.int .i64 0) rfl ?_)
 refine zi ?_
 refine ze ?_
 refine ze ?_
 refine zc rfl ?_
 refine za (zd (v:=.pointer p0) e0 ?_)
 obtain ⟨b1,o2,rfl,H⟩:=H
 refine za (zm rfl ?_)
 refine za (zg rfl fo_245_4 ?_)
 obtain ⟨x4,c5,H⟩:=H
 refine za (zQ rfl ag_243 c5 ?_)
 refine za (zd (v:=.int .i64 0) rfl ?_)
 refine zi ?_
 refine zL ?_
 obtain ⟨I7,mu8,hI,H⟩:=H
 obtain ⟨I9,mu9,hin9,hout9,hmu9⟩ : ∃ (J9:Fr→Heap→Prop) (m:Fr→Heap→Nat),(∀ f hz (x6:Int),f 9 = .int .i64 x6→f 8 = .agg (List.toArray x4)→I7 x6 hz→J9 f hz)∧(∀ f hz,J9 f hz→∃ (x6:Int),f 9 = .int .i64 x6∧f 8 = .agg (List.toArray x4)∧I7 x6 hz)∧(∀ f hz (x6:Int),f 9 = .int .i64 x6→m f hz=mu8 x6 hz):=⟨fun f hz=>∃ (x6:Int),f 9 = .int .i64 x6∧f 8 = .agg (List.toArray x4)∧I7 x6 hz,fun f hz=>mu8 (dInt (f 9)) hz,fun _ _ x6 a0 a1 z=>⟨x6,a0,a1,z⟩,fun _ _ hz=>hz,fun f hz x6 a0=>by simp only [a0]; rfl⟩
 refine wpf_loop I9 mu9 (hin9 _ _ _ rfl rfl hI) ?_
 clear hI
 intro f h10 hf
 obtain ⟨x6,a9_0,a9_1,hJ⟩:=hout9 _ _ hf
 replace H:=H x6 h10 hJ
 refine ze ?_
 refine zc rfl ?_
 refine za (op_lss a9_0 rfl ?_)
 refine zi ?_
 refine ze ?_
 refine zx (decide (x6<64)) rfl ?_ ?_
 ·intro hb
  replace H:=H.1 (of_decide_eq_true hb)
  refine zB ?_
  refine ze ?_
  refine zL ?_
  refine ze ?_
  refine zc rfl ?_
  refine za (zd (v:=.int .i64 x6) a9_0 ?_)
  obtain ⟨x13,c12,H⟩:=H
  refine za (op_index_array1 (cs:=x4) a9_1 a9_0 ei_243 ag_4 c12.1 c12.2 ?_)
  refine za (zf (v:=.int .i64 x6) rfl ?_)
  refine za (zf (v:=.bool x13) rfl ?_)
  refine zi ?_
  refine ze ?_
  refine zc rfl ?_
  refine za (zd (v:=.bool x13) rfl ?_)
  refine za (op_not rfl ?_)
  refine zi ?_
  refine zx (!x13) rfl ?_ ?_
  ·intro hb
   replace H:=H.1 (zq hb)
   refine ze ?_
   refine zc rfl ?_
   refine za (zd (v:=.int .i64 x6) rfl ?_)
   refine za (zf (v:=.int .i64 x6) rfl ?_)
   refine zi ?_
   refine zw ?_
   exact zs (zn rfl zr) H
  ·intro hb
   replace H:=H.2 (zI hb)
   refine zB ?_
   refine zc rfl ?_
   obtain ⟨c14,H⟩:=H
   refine za (op_add a9_0 rfl (zU c14) ?_)
   refine za (zd (v:=.int .i64 (x6+1)) rfl ?_)
   refine zi ?_
   exact And.intro (hin9 _ _ _ rfl a9_1 H.1) (lt_of (hmu9 _ _ _ rfl) (hmu9 _ _ _ a9_0) H.2)
 ·intro hb
  replace H:=H.2 (of_decide_eq_false hb)
  refine wpf_exit ?_
  refine ze ?_
  refine zc rfl ?_
  refine za (zf (v:=.int .i64 64) rfl ?_)
  refine zi ?_
  refine zw ?_
  exact zs (zn rfl zr) H
def cert_life_Book_sorted_11:Cert:=⟨[[],[0],[0,1],[0,1,2],[0,1,2],[0,1,2],[0,1,2,4,5],[0,1,2,4,5,6],[0,1,2],[0,1,2],[0,1,2,9],[0,1,2,8,9,10],[0,1,2,8,9,10,11],[0,1,2,3,4,5,6,7,8,9,10,11,12],[0,1,2,3,4,5,6,7,8,9,10,11,12,13]],[false,false,false,false,false,false,false,false,false,false,false,false,false,true,false]⟩
def cert_life_Book_sorted_13:Cert:=⟨[[],[],[],[],[3],[],[],[6],[5,6,7],[5,6,7,8],[],[],[10,11],[10,11,12],[0,1,5,6,7,8,9,10,11,12,13],[0,1,5,6,7,8,9,10,11,12,13,14],[0,1,2,3,4,5,6,7,8,9,10,11,12,13,14,15],[0,1,2,3,4,5,6,7,8,9,10,11,12,13,14,15,16]],[false,false,false,false,false,false,false,false,false,false,false,false,false,false,false,true,false,true]⟩
def F_life_Book_sorted (p0:Option Addr) (p1a:Option Addr) (p1n:Nat) (p1c:Nat) (K:Option Addr→Nat→Nat→Heap→Prop) (h:Heap):Prop:=
 ∃ (n3:Nat),(p1n:Int)=(n3:Int)∧(0≤n3∧8 * n3≤281474976710656∧n3≤9223372036854775807)∧∀ (h1:Heap),h1=h.push (.cells (madeCells ((Value.int .i64 0)).cells (n3 * 1)) 3 (0,0))→∃ (I8:Option Addr→Nat→Nat→Int→Heap→Prop) (mu9:Option Addr→Nat→Nat→Int→Heap→Nat),I8 (some ⟨h.size,0,none⟩) 0 n3 0 h1∧∀ (x6a:Option Addr) (x6n:Nat) (x6c:Nat) (x7:Int) (h11:Heap),I8 x6a x6n x6c x7 h11→(x7<(p1n:Int)→∃ (b14:Nat) (o15:Nat),p1a=some ⟨b14,o15,none⟩∧(0≤x7∧x7<(p1n:Int))∧∃ (x17:Int),cellH h11 b14 (o15+x7.toNat * 1)=some (.int .i64 x17)∧∃ (b19:Nat) (o20:Nat),p0=some ⟨b19,o20,none⟩∧(0≤x17∧x17<64)∧∃ (x23:Int),cellH h11 b19 (o20+3+x17.toNat * 1)=some (.int .i64 x23)∧∀ (h25:Heap),h25=h11.push (.cells #[.int .i64 x23] 3 (0,0))→appH 3 1 8 (Value.int .i64 0) x6a x6n x6c 1 ([.int .i64 x23]) h25 (fun a31 n32 q33 h34=>(-9223372036854775808≤x7+1∧x7+1<9223372036854775808)∧(I8 a31 n32 q33 (x7+1) h34∧mu9 a31 n32 q33 (x7+1) h34<mu9 x6a x6n x6c x7 h11)))∧((¬ (x7<(p1n:Int)))→∃ (I37:Int→Heap→Prop) (mu38:Int→Heap→Nat),I37 0 h11∧∀ (x36:Int) (h40:Heap),I37 x36 h40→(x36<(x6n:Int)→∃ (I43:Int→Heap→Prop) (mu44:Int→Heap→Nat),I43 x36 h40∧∀ (x42:Int) (h46:Heap),I43 x42 h46→∃ (b49:Nat) (o50:Nat),((0<x42)→x6a=some ⟨b49,o50,none⟩)∧((0<x42)→0≤x42∧x42<(x6n:Int))∧∃ (x52:Int),((0<x42)→cellH h46 b49 (o50+x42.toNat * 1)=some (.int .i64 x52))∧∃ (b56:Nat) (o57:Nat),((0<x42)→x6a=some ⟨b56,o57,none⟩)∧((0<x42)→0≤IntKind.i64.wrap (x42 - 1)∧IntKind.i64.wrap (x42 - 1)<(x6n:Int))∧∃ (x59:Int),((0<x42)→cellH h46 b56 (o57+(IntKind.i64.wrap (x42 - 1)).toNat * 1)=some (.int .i64 x59))∧∃ J64:Bool→Heap→Prop,(∀ (x63:Bool) (h61:Heap),J64 x63 h61→(((decide (0<x42)) && x63)=true→(-9223372036854775808≤x42 - 1∧x42 - 1<9223372036854775808)∧(-9223372036854775808≤x42 - 1∧x42 - 1<9223372036854775808)∧∃ (b68:Nat) (o69:Nat),x6a=some ⟨b68,o69,none⟩∧(0≤x42 - 1∧x42 - 1<(x6n:Int))∧∃ (x71:Int),cellH h61 b68 (o69+(x42 - 1).toNat * 1)=some (.int .i64 x71)∧(0≤x42∧x42<(x6n:Int))∧∃ (x74:Int),cellH h61 b68 (o69+x42.toNat * 1)=some (.int .i64 x74)∧(0≤x42∧x42<(x6n:Int))∧∃ (h78:Heap),stCells b68 h61 (o69+x42.toNat * 1) [.int .i64 x71]=some h78∧(0≤x42 - 1∧x42 - 1<(x6n:Int))∧∃ (h81:Heap),stCells b68 h78 (o69+(x42 - 1).toNat * 1) [.int .i64 x74]=some h81∧(-9223372036854775808≤x42 - 1∧x42 - 1<9223372036854775808)∧(I43 (x42 - 1) h81∧mu44 (x42 - 1) h81<mu44 x42 h46))∧(((decide (0<x42)) && x63)=false→(-9223372036854775808≤x36+1∧x36+1<9223372036854775808)∧(I37 (x36+1) h61∧mu38 (x36+1) h61<mu38 x36 h40)))∧((0<x42)→CallsH PR fn_life_Book_before #[.pointer p0,.int .i64 x52,.int .i64 x59] h46 (fun v h61=>∃ (x63:Bool),v=(Value.bool x63)∧J64 x63 h61))∧((¬ (0<x42))→∃ (x63:Bool),J64 x63 h46))∧((¬ (x36<(x6n:Int)))→K x6a x6n x6c h40))
theorem F_life_Book_sorted_ok (p0:Option Addr) (p1a:Option Addr) (p1n:Nat) (p1c:Nat) (R:Value→Heap→Prop) (h:Heap) (H:F_life_Book_sorted p0 p1a p1n p1c (fun r0a r0n r0c h'=>R (Value.slice r0a r0n r0c) h') h):CallsH PR fn_life_Book_sorted #[.pointer p0,.slice p1a p1n p1c] h R:=by
 refine zF (args:=[.pointer p0,.slice p1a p1n p1c]) Tryz.func149 rfl rfl ?_
 intro f hf
 have e0:=hf 0 _ rfl
 have e1:=hf 1 _ rfl
 clear hf
 unfold F_life_Book_sorted at H
 refine ze ?_
 refine zc rfl ?_
 refine za (zf (v:=.slice none 0 0) rfl ?_)
 refine zi ?_
 refine ze ?_
 refine zc rfl ?_
 refine za (zd (v:=.slice p1a p1n p1c) e1 ?_)
 refine za (zM rfl un_34 ?_)
 obtain ⟨n3,c4,H⟩:=H
 obtain ⟨c5,H⟩:=H
 obtain ⟨h1,c2⟩ : ∃ h1,h1=h.push (.cells (madeCells ((Value.int .i64 0)).cells (n3 * 1)) 3 (0,0)):=⟨_,rfl⟩
 replace H:=H h1 c2
 refine za (op_makeSlice ri_34 rfl (Eq.trans rfl (congrArg (Value.int .i64) c4)) c5.1 c5.2.1 c5.2.2 c2 ?_)
 refine za (zf (v:=.slice (some ⟨h.size,0,none⟩) 0 n3) rfl ?_)
 refine zi ?_
 refine ze ?_
 refine ze ?_
 refine zc rfl ?_
 refine za (zd (v:=.slice p1a p1n p1c) e1 ?_)
 refine za (zM rfl un_34 ?_)
 refine za (zd (v:=.int .i64 0) rfl ?_)
 refine zi ?_
 refine zL ?_
 obtain ⟨I8,mu9,hI,H⟩:=H
 obtain ⟨I10,mu10,hin10,hout10,hmu10⟩ : ∃ (J10:Fr→Heap→Prop) (m:Fr→Heap→Nat),(∀ f hz (x6a:Option Addr) (x6n:Nat) (x6c:Nat) (x7:Int),f 5 = .slice x6a x6n x6c→f 15 = .int .i64 x7→f 0 = .pointer p0→f 13 = .slice p1a p1n p1c→f 14 = .int .i64 (p1n:Int)→I8 x6a x6n x6c x7 hz→J10 f hz)∧(∀ f hz,J10 f hz→∃ (x6a:Option Addr) (x6n:Nat) (x6c:Nat) (x7:Int),f 5 = .slice x6a x6n x6c∧f 15 = .int .i64 x7∧f 0 = .pointer p0∧f 13 = .slice p1a p1n p1c∧f 14 = .int .i64 (p1n:Int)∧I8 x6a x6n x6c x7 hz)∧(∀ f hz (x6a:Option Addr) (x6n:Nat) (x6c:Nat) (x7:Int),f 5 = .slice x6a x6n x6c→f 15 = .int .i64 x7→m f hz=mu9 x6a x6n x6c x7 hz):=⟨fun f hz=>∃ (x6a:Option Addr) (x6n:Nat) (x6c:Nat) (x7:Int),f 5 = .slice x6a x6n x6c∧f 15 = .int .i64 x7∧f 0 = .pointer p0∧f 13 = .slice p1a p1n p1c∧f 14 = .int .i64 (p1n:Int)∧I8 x6a x6n x6c x7 hz,fun f hz=>mu9 (dSlA (f 5)) (dSlN (f 5)) (dSlC (f 5)) (dInt (f 15)) hz,fun _ _ x6a x6n x6c x7 a0 a1 a2 a3 a4 z=>⟨x6a,x6n,x6c,x7,a0,a1,a2,a3,a4,z⟩,fun _ _ hz=>hz,fun f hz x6a x6n x6c x7 a0 a1=>by simp only [a0,a1]; rfl⟩
 refine wpf_loop I10 mu10 (hin10 _ _ _ _ _ _ rfl rfl e0 rfl rfl hI) ?_
 clear hI
 intro f h11 hf
 obtain ⟨x6a,x6n,x6c,x7,a10_0,a10_1,a10_2,a10_3,a10_4,hJ⟩:=hout10 _ _ hf
 replace H:=H x6a x6n x6c x7 h11 hJ
 refine ze ?_
 refine zc rfl ?_
 refine za (op_lss a10_1 a10_4 ?_)
 refine zi ?_
 refine ze ?_
 refine zx (decide (x7<(p1n:Int))) rfl ?_ ?_
 ·intro hb
  replace H:=H.1 (of_decide_eq_true hb)
  refine zB ?_
  refine ze ?_
  refine zL ?_
  refine ze ?_
  refine zc rfl ?_
  obtain ⟨b14,o15,rfl,H⟩:=H
  obtain ⟨c13,H⟩:=H
  refine za (zE a10_3 a10_1 ei_34 c13 ?_)
  obtain ⟨x17,c18,H⟩:=H
  refine za (zk rfl ag_3 c18 ?_)
  refine za (zf (v:=.int .i64 x17) rfl ?_)
  refine zi ?_
  refine zc rfl ?_
  refine za (zd (v:=.slice x6a x6n x6c) a10_0 ?_)
  refine za (zd (v:=.pointer p0) a10_2 ?_)
  refine za (zd (v:=.int .i64 x17) rfl ?_)
  obtain ⟨b19,o20,rfl,H⟩:=H
  refine za (zm rfl ?_)
  refine za (zg rfl fo_245_3 ?_)
  obtain ⟨c22,H⟩:=H
  refine za (zS rfl rfl ei_242 c22 ?_)
  obtain ⟨x23,c24,H⟩:=H
  refine za (zk rfl ag_3 c24 ?_)
  obtain ⟨h25,c26⟩ : ∃ h25,h25=h11.push (.cells #[.int .i64 x23] 3 (0,0)):=⟨_,rfl⟩
  replace H:=H h25 c26
  refine za (op_buildSlice' (cs:=#[.int .i64 x23]) (vs:=[(0,.int .i64 x23)]) (zl:=[.int .i64 0]) ri_34 (by decide) rfl rfl (zC rfl zP) rfl c26 ?_)
  refine za (op_append' (src:=(Value.slice (some ⟨h11.size,0,none⟩) 1 1)) (news:=[.int .i64 x23]) ri_34 (.inl ⟨_,un_34⟩) rfl rfl rfl (first_fresh c26 rfl rfl rfl) (appH.mono H ?_))
  clear H
  intro a31 n32 q33 h34 H
  refine za (zf (v:=.slice a31 n32 q33) rfl ?_)
  refine zi ?_
  refine zc rfl ?_
  obtain ⟨c35,H⟩:=H
  refine za (op_add a10_1 rfl (zU c35) ?_)
  refine za (zd (v:=.int .i64 (x7+1)) rfl ?_)
  refine zi ?_
  exact And.intro (hin10 _ _ _ _ _ _ rfl rfl a10_2 a10_3 a10_4 H.1) (lt_of (hmu10 _ _ _ _ _ _ rfl rfl) (hmu10 _ _ _ _ _ _ a10_0 a10_1) H.2)
 ·intro hb
  replace H:=H.2 (of_decide_eq_false hb)
  refine wpf_exit ?_
  refine ze ?_
  refine ze ?_
  refine zc rfl ?_
  refine za (zd (v:=.slice x6a x6n x6c) a10_0 ?_)
  refine za (zM rfl un_34 ?_)
  refine za (zd (v:=.int .i64 0) rfl ?_)
  refine zi ?_
  refine zL ?_
  obtain ⟨I37,mu38,hI,H⟩:=H
  obtain ⟨I39,mu39,hin39,hout39,hmu39⟩ : ∃ (J39:Fr→Heap→Prop) (m:Fr→Heap→Nat),(∀ f hz (x36:Int),f 31 = .int .i64 x36→f 0 = .pointer p0→f 5 = .slice x6a x6n x6c→f 30 = .int .i64 (x6n:Int)→I37 x36 hz→J39 f hz)∧(∀ f hz,J39 f hz→∃ (x36:Int),f 31 = .int .i64 x36∧f 0 = .pointer p0∧f 5 = .slice x6a x6n x6c∧f 30 = .int .i64 (x6n:Int)∧I37 x36 hz)∧(∀ f hz (x36:Int),f 31 = .int .i64 x36→m f hz=mu38 x36 hz):=⟨fun f hz=>∃ (x36:Int),f 31 = .int .i64 x36∧f 0 = .pointer p0∧f 5 = .slice x6a x6n x6c∧f 30 = .int .i64 (x6n:Int)∧I37 x36 hz,fun f hz=>mu38 (dInt (f 31)) hz,fun _ _ x36 a0 a1 a2 a3 z=>⟨x36,a0,a1,a2,a3,z⟩,fun _ _ hz=>hz,fun f hz x36 a0=>by simp only [a0]; rfl⟩
  refine wpf_loop I39 mu39 (hin39 _ _ _ rfl a10_2 a10_0 rfl hI) ?_
  clear hI
  intro f h40 hf
  obtain ⟨x36,a39_0,a39_1,a39_2,a39_3,hJ⟩:=hout39 _ _ hf
  replace H:=H x36 h40 hJ
  refine ze ?_
  refine zc rfl ?_
  refine za (op_lss a39_0 a39_3 ?_)
  refine zi ?_
  refine ze ?_
  refine zx (decide (x36<(x6n:Int))) rfl ?_ ?_
  ·intro hb
   replace H:=H.1 (of_decide_eq_true hb)
   refine zB ?_
   refine ze ?_
   refine zL ?_
   refine ze ?_
   refine zc rfl ?_
   refine za (zd (v:=.int .i64 x36) a39_0 ?_)
   refine za (zf (v:=.int .i64 x36) rfl ?_)
   refine zi ?_
   refine ze ?_
   refine zc rfl ?_
   refine za (zd (v:=.int .i64 x36) rfl ?_)
   refine za (zf (v:=.int .i64 x36) rfl ?_)
   refine zi ?_
   refine zL ?_
   obtain ⟨I43,mu44,hI,H⟩:=H
   obtain ⟨I45,mu45,hin45,hout45,hmu45⟩ : ∃ (J45:Fr→Heap→Prop) (m:Fr→Heap→Nat),(∀ f hz (x42:Int),f 9 = .int .i64 x42→f 0 = .pointer p0→f 5 = .slice x6a x6n x6c→f 30 = .int .i64 (x6n:Int)→f 31 = .int .i64 x36→I43 x42 hz→J45 f hz)∧(∀ f hz,J45 f hz→∃ (x42:Int),f 9 = .int .i64 x42∧f 0 = .pointer p0∧f 5 = .slice x6a x6n x6c∧f 30 = .int .i64 (x6n:Int)∧f 31 = .int .i64 x36∧I43 x42 hz)∧(∀ f hz (x42:Int),f 9 = .int .i64 x42→m f hz=mu44 x42 hz):=⟨fun f hz=>∃ (x42:Int),f 9 = .int .i64 x42∧f 0 = .pointer p0∧f 5 = .slice x6a x6n x6c∧f 30 = .int .i64 (x6n:Int)∧f 31 = .int .i64 x36∧I43 x42 hz,fun f hz=>mu44 (dInt (f 9)) hz,fun _ _ x42 a0 a1 a2 a3 a4 z=>⟨x42,a0,a1,a2,a3,a4,z⟩,fun _ _ hz=>hz,fun f hz x42 a0=>by simp only [a0]; rfl⟩
   refine wpf_loop I45 mu45 (hin45 _ _ _ rfl a39_1 a39_2 a39_3 a39_0 hI) ?_
   clear hI
   intro f h46 hf
   obtain ⟨x42,a45_0,a45_1,a45_2,a45_3,a45_4,hJ⟩:=hout45 _ _ hf
   replace H:=H x42 h46 hJ
   refine ze ?_
   refine ze ?_
   obtain ⟨b49,o50,c51,H⟩:=H
   obtain ⟨c48,H⟩:=H
   obtain ⟨x52,c53,H⟩:=H
   obtain ⟨b56,o57,c58,H⟩:=H
   obtain ⟨c55,H⟩:=H
   obtain ⟨x59,c60,H⟩:=H
   refine zO cert_life_Book_sorted_11 1 [(Value.int .i64 x42),(Value.bool (decide (0<x42))),(Value.bool (decide (0<x42))),(bif decide (0<x42) then (Value.pointer p0) else undef),(bif decide (0<x42) then (Value.slice x6a x6n x6c) else undef),(bif decide (0<x42) then (Value.int .i64 x42) else undef),(bif decide (0<x42) then (Value.pointer (some ⟨b49,o50+x42.toNat * 1,none⟩)) else undef),(bif decide (0<x42) then (Value.int .i64 x52) else undef),(bif decide (0<x42) then (Value.slice x6a x6n x6c) else undef),(bif decide (0<x42) then (Value.int .i64 x42) else undef),(bif decide (0<x42) then (Value.int .i64 (IntKind.i64.wrap (x42 - 1))) else undef),(bif decide (0<x42) then (Value.pointer (some ⟨b56,o57+(IntKind.i64.wrap (x42 - 1)).toNat * 1,none⟩)) else undef),(bif decide (0<x42) then (Value.int .i64 x59) else undef),undef,undef] (by kernel_rfl) rfl mixed_PR ?_
   refine zD [13] (by decide) rfl (zv [0,1,2,3,4,5,6,7,8,9,10,11,12] rfl ⟨zb rfl rfl (zd (v:=.int .i64 x42) a45_0 ⟨rfl,rfl⟩),zb rfl rfl (op_gtr rfl rfl ⟨rfl,rfl⟩),zb rfl rfl (zd (v:=.bool (decide (0<x42))) rfl ⟨rfl,rfl⟩),zp (b:=decide (0<x42)) rfl rfl (zh rfl rfl) (fun hb=>zd (v:=.pointer p0) a45_1 ⟨zt hb,rfl⟩) (fun hb=>⟨zo hb,rfl⟩),zp (b:=decide (0<x42)) rfl rfl (zh rfl rfl) (fun hb=>zd (v:=.slice x6a x6n x6c) a45_2 ⟨zt hb,rfl⟩) (fun hb=>⟨zo hb,rfl⟩),zp (b:=decide (0<x42)) rfl rfl (zh rfl rfl) (fun hb=>zd (v:=.int .i64 x42) a45_0 ⟨zt hb,rfl⟩) (fun hb=>⟨zo hb,rfl⟩),zp (b:=decide (0<x42)) rfl rfl (zh rfl rfl) (fun hb=>zE (Eq.trans (gv hb) (congrArg (fun a=>Value.slice a x6n x6c) (c51 (of_decide_eq_true hb)))) (gv hb) ei_34 (c48 (of_decide_eq_true hb)) ⟨zt hb,rfl⟩) (fun hb=>⟨zo hb,rfl⟩),zp (b:=decide (0<x42)) rfl rfl (zh rfl rfl) (fun hb=>zk (gv hb) ag_3 (c53 (of_decide_eq_true hb)) ⟨zt hb,rfl⟩) (fun hb=>⟨zo hb,rfl⟩),zp (b:=decide (0<x42)) rfl rfl (zh rfl rfl) (fun hb=>zd (v:=.slice x6a x6n x6c) a45_2 ⟨zt hb,rfl⟩) (fun hb=>⟨zo hb,rfl⟩),zp (b:=decide (0<x42)) rfl rfl (zh rfl rfl) (fun hb=>zd (v:=.int .i64 x42) a45_0 ⟨zt hb,rfl⟩) (fun hb=>⟨zo hb,rfl⟩),zp (b:=decide (0<x42)) rfl rfl (zh rfl rfl) (fun hb=>op_sub (gv hb) rfl rfl ⟨zt hb,rfl⟩) (fun hb=>⟨zo hb,rfl⟩),zp (b:=decide (0<x42)) rfl rfl (zh rfl rfl) (fun hb=>zE (Eq.trans (gv hb) (congrArg (fun a=>Value.slice a x6n x6c) (c58 (of_decide_eq_true hb)))) (gv hb) ei_34 (c55 (of_decide_eq_true hb)) ⟨zt hb,rfl⟩) (fun hb=>⟨zo hb,rfl⟩),zp (b:=decide (0<x42)) rfl rfl (zh rfl rfl) (fun hb=>zk (gv hb) ag_3 (c60 (of_decide_eq_true hb)) ⟨zt hb,rfl⟩) (fun hb=>⟨zo hb,rfl⟩),trivial⟩) rfl ⟨?_,trivial⟩
   obtain ⟨J64,HR,HT,HF⟩:=H
   refine stepAt_gl (b:=decide (0<x42)) rfl rfl (zh rfl rfl) (fun v h61=>∃ (x63:Bool),v=(bif decide (0<x42) then (Value.bool x63) else undef)∧J64 x63 h61) ?_ ?_ ?_
   ·rintro _ h61 ⟨x63,rfl,hJ⟩
    have H:=HR x63 h61 hJ
    refine ⟨[(Value.int .i64 x42),(Value.bool (decide (0<x42))),(Value.bool (decide (0<x42))),(bif decide (0<x42) then (Value.pointer p0) else undef),(bif decide (0<x42) then (Value.slice x6a x6n x6c) else undef),(bif decide (0<x42) then (Value.int .i64 x42) else undef),(bif decide (0<x42) then (Value.pointer (some ⟨b49,o50+x42.toNat * 1,none⟩)) else undef),(bif decide (0<x42) then (Value.int .i64 x52) else undef),(bif decide (0<x42) then (Value.slice x6a x6n x6c) else undef),(bif decide (0<x42) then (Value.int .i64 x42) else undef),(bif decide (0<x42) then (Value.int .i64 (IntKind.i64.wrap (x42 - 1))) else undef),(bif decide (0<x42) then (Value.pointer (some ⟨b56,o57+(IntKind.i64.wrap (x42 - 1)).toNat * 1,none⟩)) else undef),(bif decide (0<x42) then (Value.int .i64 x59) else undef),(bif decide (0<x42) then (Value.bool x63) else undef),(Value.bool ((decide (0<x42)) && x63))],rfl,(zG [0,1,2,3,4,5,6,7,8,9,10,11,12] rfl ⟨rfl,rfl,rfl,rfl,rfl,rfl,rfl,rfl,rfl,rfl,rfl,rfl,rfl,trivial⟩),?_⟩
    refine zK rfl (zv [14] rfl ⟨zb rfl rfl (zR rfl (fun hq=>(gv hq)) rfl ⟨rfl,rfl⟩),trivial⟩) rfl ?_
    refine zx ((decide (0<x42)) && x63) rfl ?_ ?_
    ·intro hb
     replace H:=H.1 hb
     refine zB ?_
     refine ze ?_
     refine zL ?_
     obtain ⟨c65,H⟩:=H
     obtain ⟨c66,H⟩:=H
     obtain ⟨b68,o69,rfl,H⟩:=H
     obtain ⟨c67,H⟩:=H
     obtain ⟨x71,c72,H⟩:=H
     obtain ⟨c73,H⟩:=H
     obtain ⟨x74,c75,H⟩:=H
     obtain ⟨c76,H⟩:=H
     refine zO cert_life_Book_sorted_13 2 [(Value.slice (some ⟨b68,o69,none⟩) x6n x6c),(Value.int .i64 x42),(Value.slice (some ⟨b68,o69,none⟩) x6n x6c),(Value.int .i64 x42),(Value.int .i64 (x42 - 1)),(Value.slice (some ⟨b68,o69,none⟩) x6n x6c),(Value.int .i64 x42),(Value.int .i64 (x42 - 1)),(Value.pointer (some ⟨b68,o69+(x42 - 1).toNat * 1,none⟩)),(Value.int .i64 x71),(Value.slice (some ⟨b68,o69,none⟩) x6n x6c),(Value.int .i64 x42),(Value.pointer (some ⟨b68,o69+x42.toNat * 1,none⟩)),(Value.int .i64 x74),(Value.pointer (some ⟨b68,o69+x42.toNat * 1,none⟩)),undef,undef,undef] (by kernel_rfl) rfl mixed_PR ?_
     refine zD [15] (by decide) rfl (zv [0,1,2,3,4,5,6,7,8,9,10,11,12,13,14] rfl ⟨zb rfl rfl (zd (v:=.slice (some ⟨b68,o69,none⟩) x6n x6c) a45_2 ⟨rfl,rfl⟩),zb rfl rfl (zd (v:=.int .i64 x42) a45_0 ⟨rfl,rfl⟩),zb rfl rfl (zd (v:=.slice (some ⟨b68,o69,none⟩) x6n x6c) a45_2 ⟨rfl,rfl⟩),zb rfl rfl (zd (v:=.int .i64 x42) a45_0 ⟨rfl,rfl⟩),zb rfl rfl (op_sub rfl rfl (zU c65) ⟨rfl,rfl⟩),zb rfl rfl (zd (v:=.slice (some ⟨b68,o69,none⟩) x6n x6c) a45_2 ⟨rfl,rfl⟩),zb rfl rfl (zd (v:=.int .i64 x42) a45_0 ⟨rfl,rfl⟩),zb rfl rfl (op_sub rfl rfl (zU c66) ⟨rfl,rfl⟩),zb rfl rfl (zE rfl rfl ei_34 c67 ⟨rfl,rfl⟩),zb rfl rfl (zk rfl ag_3 c72 ⟨rfl,rfl⟩),zb rfl rfl (zd (v:=.slice (some ⟨b68,o69,none⟩) x6n x6c) a45_2 ⟨rfl,rfl⟩),zb rfl rfl (zd (v:=.int .i64 x42) a45_0 ⟨rfl,rfl⟩),zb rfl rfl (zE rfl rfl ei_34 c73 ⟨rfl,rfl⟩),zb rfl rfl (zk rfl ag_3 c75 ⟨rfl,rfl⟩),zb rfl rfl (zE rfl rfl ei_34 c76 ⟨rfl,rfl⟩),trivial⟩) rfl ⟨?_,trivial⟩
     obtain ⟨h78,c77,H⟩:=H
     refine zb rfl rfl (zH (v:=.int .i64 x71) rfl rfl sz_3 rfl c77 ?_)
     obtain ⟨c79,H⟩:=H
     refine ⟨[(Value.slice (some ⟨b68,o69,none⟩) x6n x6c),(Value.int .i64 x42),(Value.slice (some ⟨b68,o69,none⟩) x6n x6c),(Value.int .i64 x42),(Value.int .i64 (x42 - 1)),(Value.slice (some ⟨b68,o69,none⟩) x6n x6c),(Value.int .i64 x42),(Value.int .i64 (x42 - 1)),(Value.pointer (some ⟨b68,o69+(x42 - 1).toNat * 1,none⟩)),(Value.int .i64 x71),(Value.slice (some ⟨b68,o69,none⟩) x6n x6c),(Value.int .i64 x42),(Value.pointer (some ⟨b68,o69+x42.toNat * 1,none⟩)),(Value.int .i64 x74),(Value.pointer (some ⟨b68,o69+x42.toNat * 1,none⟩)),undef,(Value.pointer (some ⟨b68,o69+(x42 - 1).toNat * 1,none⟩)),undef],rfl,(zG [0,1,2,3,4,5,6,7,8,9,10,11,12,13,14] rfl ⟨rfl,rfl,rfl,rfl,rfl,rfl,rfl,rfl,rfl,rfl,rfl,rfl,rfl,rfl,rfl,trivial⟩),?_⟩
     refine zD [17] (by decide) rfl (zv [2,3,4,16] rfl ⟨zb rfl rfl (zd (v:=.slice (some ⟨b68,o69,none⟩) x6n x6c) a45_2 ⟨rfl,rfl⟩),zb rfl rfl (zd (v:=.int .i64 x42) a45_0 ⟨rfl,rfl⟩),zb rfl rfl (op_sub rfl rfl (zU c65) ⟨rfl,rfl⟩),zb rfl rfl (zE rfl rfl ei_34 c79 ⟨rfl,rfl⟩),trivial⟩) rfl ⟨?_,trivial⟩
     obtain ⟨h81,c80,H⟩:=H
     refine zb rfl rfl (zH (v:=.int .i64 x74) rfl rfl sz_3 rfl c80 ?_)
     refine ⟨[(Value.slice (some ⟨b68,o69,none⟩) x6n x6c),(Value.int .i64 x42),(Value.slice (some ⟨b68,o69,none⟩) x6n x6c),(Value.int .i64 x42),(Value.int .i64 (x42 - 1)),(Value.slice (some ⟨b68,o69,none⟩) x6n x6c),(Value.int .i64 x42),(Value.int .i64 (x42 - 1)),(Value.pointer (some ⟨b68,o69+(x42 - 1).toNat * 1,none⟩)),(Value.int .i64 x71),(Value.slice (some ⟨b68,o69,none⟩) x6n x6c),(Value.int .i64 x42),(Value.pointer (some ⟨b68,o69+x42.toNat * 1,none⟩)),(Value.int .i64 x74),(Value.pointer (some ⟨b68,o69+x42.toNat * 1,none⟩)),undef,(Value.pointer (some ⟨b68,o69+(x42 - 1).toNat * 1,none⟩)),undef],rfl,(zG [0,1,2,3,4,5,6,7,8,9,10,11,12,13,14,15,16] rfl ⟨rfl,rfl,rfl,rfl,rfl,rfl,rfl,rfl,rfl,rfl,rfl,rfl,rfl,rfl,rfl,rfl,rfl,trivial⟩),?_⟩
     refine zK rfl (zv [] rfl trivial) rfl ?_
     refine zc rfl ?_
     refine za (zd (v:=.int .i64 x42) a45_0 ?_)
     obtain ⟨c82,H⟩:=H
     refine za (op_sub rfl rfl (zU c82) ?_)
     refine za (zf (v:=.int .i64 (x42 - 1)) rfl ?_)
     refine zi ?_
     exact And.intro (hin45 _ _ _ rfl a45_1 a45_2 a45_3 a45_4 H.1) (lt_of (hmu45 _ _ _ rfl) (hmu45 _ _ _ a45_0) H.2)
    ·intro hb
     replace H:=H.2 hb
     refine wpf_exit ?_
     refine zc rfl ?_
     obtain ⟨c83,H⟩:=H
     refine za (op_add a45_4 rfl (zU c83) ?_)
     refine za (zd (v:=.int .i64 (x36+1)) rfl ?_)
     refine zi ?_
     exact And.intro (hin39 _ _ _ rfl a45_1 a45_2 a45_3 H.1) (lt_of (hmu39 _ _ _ rfl) (hmu39 _ _ _ a39_0) H.2)
   ·intro hb
    refine zA (vs:=[.pointer p0,.int .i64 x52,.int .i64 x59]) en_185 (zj (gv hb) (zj (gv hb) (zj (gv hb) zu))) (CallsH.mono (HT (of_decide_eq_true hb)) ?_)
    rintro _ h61 ⟨x63,rfl,hJ⟩
    exact ⟨x63,zt hb,hJ⟩
   ·intro hb
    obtain ⟨x63,hJ⟩:=HF (of_decide_eq_false hb)
    exact ⟨x63,zo hb,hJ⟩
  ·intro hb
   replace H:=H.2 (of_decide_eq_false hb)
   refine wpf_exit ?_
   refine ze ?_
   refine zc rfl ?_
   refine za (zd (v:=.slice x6a x6n x6c) a39_2 ?_)
   refine za (zf (v:=.slice x6a x6n x6c) rfl ?_)
   refine zi ?_
   refine zw ?_
   exact zs (zn rfl zr) H
def cert_life_Book_before_1:Cert:=⟨[[],[0],[0,1],[0,1,2],[],[0,1,2,3,4],[0,1,2,3,4,5],[],[7],[7,8],[7,8,9],[],[7,8,9,10,11],[7,8,9,10,11,12],[0,1,2,3,4,5,6],[0,1,2,3,4,5,6,7,8,9,10,11,12,13,14]],[false,false,false,false,false,false,false,false,false,false,false,false,false,false,false,false]⟩
def F_life_Book_before (p0:Option Addr) (p1:Int) (p2:Int) (K:Bool→Heap→Prop) (h:Heap):Prop:=
 ∃ (b1:Nat) (o2:Nat),p0=some ⟨b1,o2,none⟩∧∃ (x4:Option Nat),cellH h b1 (o2+2)=some (.map x4)∧∃ (l6:List (ME Int)) (n7:Nat),mapAt (Value.int .i64) h x4 l6 n7∧∃ (x9_0:Int) (x9_1:Int),(mlook l6 p1).getD (Value.agg #[.int .i64 0,.int .u64 0])=(Value.agg #[.int .i64 x9_0,.int .u64 x9_1])∧∃ (x11:Option Nat),cellH h b1 (o2+2)=some (.map x11)∧∃ (l13:List (ME Int)) (n14:Nat),mapAt (Value.int .i64) h x11 l13 n14∧∃ (x16_0:Int) (x16_1:Int),(mlook l13 p2).getD (Value.agg #[.int .i64 0,.int .u64 0])=(Value.agg #[.int .i64 x16_0,.int .u64 x16_1])∧K ((decide (x9_1<x16_1)) || ((decide (x9_1=x16_1)) && (decide (p1<p2)))) h
theorem F_life_Book_before_ok (p0:Option Addr) (p1:Int) (p2:Int) (R:Value→Heap→Prop) (h:Heap) (H:F_life_Book_before p0 p1 p2 (fun r0 h'=>R (Value.bool r0) h') h):CallsH PR fn_life_Book_before #[.pointer p0,.int .i64 p1,.int .i64 p2] h R:=by
 refine zF (args:=[.pointer p0,.int .i64 p1,.int .i64 p2]) Tryz.func185 rfl rfl ?_
 intro f hf
 have e0:=hf 0 _ rfl
 have e1:=hf 1 _ rfl
 have e2:=hf 2 _ rfl
 clear hf
 unfold F_life_Book_before at H
 refine ze ?_
 refine zc rfl ?_
 refine za (zf (v:=.bool false) rfl ?_)
 refine zi ?_
 refine ze ?_
 obtain ⟨b1,o2,rfl,H⟩:=H
 obtain ⟨x4,c5,H⟩:=H
 obtain ⟨l6,n7,c8,H⟩:=H
 obtain ⟨x9_0,x9_1,c10,H⟩:=H
 obtain ⟨x11,c12,H⟩:=H
 obtain ⟨l13,n14,c15,H⟩:=H
 obtain ⟨x16_0,x16_1,c17,H⟩:=H
 refine zO cert_life_Book_before_1 0 [(Value.pointer (some ⟨b1,o2,none⟩)),(Value.pointer (some ⟨b1,o2,none⟩)),(Value.pointer (some ⟨b1,o2+2,none⟩)),(Value.map x4),(Value.int .i64 p1),(Value.agg #[.int .i64 x9_0,.int .u64 x9_1]),(Value.int .u64 x9_1),(Value.pointer (some ⟨b1,o2,none⟩)),(Value.pointer (some ⟨b1,o2,none⟩)),(Value.pointer (some ⟨b1,o2+2,none⟩)),(Value.map x11),(Value.int .i64 p2),(Value.agg #[.int .i64 x16_0,.int .u64 x16_1]),(Value.int .u64 x16_1),(Value.int .u64 x9_1),(Value.int .u64 x16_1)] (by kernel_rfl) rfl mixed_PR ?_
 refine zK rfl (zv [0,1,2,3,4,5,6,7,8,9,10,11,12,13,14,15] rfl ⟨zb rfl rfl (zd (v:=.pointer (some ⟨b1,o2,none⟩)) e0 ⟨rfl,rfl⟩),zb rfl rfl (zm rfl ⟨rfl,rfl⟩),zb rfl rfl (zg rfl fo_245_2 ⟨rfl,rfl⟩),zb rfl rfl (zk rfl ag_241 c5 ⟨rfl,rfl⟩),zb rfl rfl (zd (v:=.int .i64 p1) e1 ⟨rfl,rfl⟩),zb rfl rfl (op_lookup' (int_enc .i64) mt_241 z_238 rfl rfl c8 c10 ⟨rfl,rfl⟩),zb rfl rfl (op_field1 rfl fp_238_1 rfl ⟨rfl,rfl⟩),zb rfl rfl (zd (v:=.pointer (some ⟨b1,o2,none⟩)) e0 ⟨rfl,rfl⟩),zb rfl rfl (zm rfl ⟨rfl,rfl⟩),zb rfl rfl (zg rfl fo_245_2 ⟨rfl,rfl⟩),zb rfl rfl (zk rfl ag_241 c12 ⟨rfl,rfl⟩),zb rfl rfl (zd (v:=.int .i64 p2) e2 ⟨rfl,rfl⟩),zb rfl rfl (op_lookup' (int_enc .i64) mt_241 z_238 rfl rfl c15 c17 ⟨rfl,rfl⟩),zb rfl rfl (op_field1 rfl fp_238_1 rfl ⟨rfl,rfl⟩),zb rfl rfl (zf (v:=.int .u64 x9_1) rfl ⟨rfl,rfl⟩),zb rfl rfl (zf (v:=.int .u64 x16_1) rfl ⟨rfl,rfl⟩),trivial⟩) rfl ?_
 refine ze ?_
 refine zc rfl ?_
 refine za (zd (v:=.int .u64 x9_1) rfl ?_)
 refine za (zd (v:=.int .u64 x16_1) rfl ?_)
 refine za (op_lss rfl rfl ?_)
 refine za (zd (v:=.bool (decide (x9_1<x16_1))) rfl ?_)
 refine zz (b:=!(decide (x9_1<x16_1))) (zh rfl rfl) (Value.int .u64 x9_1) (fun hb N hN=>zd (v:=.int .u64 x9_1) rfl hN) ?_
 refine zz (b:=!(decide (x9_1<x16_1))) (zh rfl rfl) (Value.int .u64 x16_1) (fun hb N hN=>zd (v:=.int .u64 x16_1) rfl hN) ?_
 refine zz (b:=!(decide (x9_1<x16_1))) (zh rfl rfl) (Value.bool (decide (x9_1=x16_1))) (fun hb N hN=>op_eql (gv hb) (gv hb) hN) ?_
 refine zz (b:=!(decide (x9_1<x16_1))) (zh rfl rfl) (Value.bool (decide (x9_1=x16_1))) (fun hb N hN=>zd (v:=.bool (decide (x9_1=x16_1))) (gv hb) hN) ?_
 refine zz (b:=(!(decide (x9_1<x16_1))) && (decide (x9_1=x16_1))) (guard_cond rfl rfl) (Value.int .i64 p1) (fun hb N hN=>zd (v:=.int .i64 p1) e1 hN) ?_
 refine zz (b:=(!(decide (x9_1<x16_1))) && (decide (x9_1=x16_1))) (guard_cond rfl rfl) (Value.int .i64 p2) (fun hb N hN=>zd (v:=.int .i64 p2) e2 hN) ?_
 refine zz (b:=(!(decide (x9_1<x16_1))) && (decide (x9_1=x16_1))) (guard_cond rfl rfl) (Value.bool (decide (p1<p2))) (fun hb N hN=>op_lss (gv hb) (gv hb) hN) ?_
 refine zz (b:=!(decide (x9_1<x16_1))) (zh rfl rfl) (Value.bool ((decide (x9_1=x16_1)) && (decide (p1<p2)))) (fun hb N hN=>zR (gv hb) (fun hq=>(gv (and_i hb hq))) rfl hN) ?_
 refine za (zN rfl rfl (fun hq=>(gv (zJ hq))) ?_)
 refine za (zf (v:=.bool ((decide (x9_1<x16_1)) || ((decide (x9_1=x16_1)) && (decide (p1<p2))))) rfl ?_)
 refine zi ?_
 refine zw ?_
 exact zs (zn rfl zr) H
def cert_life_Book_out_4:Cert:=⟨[[],[0],[0,1],[0,1,2],[],[4],[0,1,2,3,4,5]],[false,false,false,false,false,false,true]⟩
def cert_life_Book_out_5:Cert:=⟨[[],[],[1],[0],[0,3],[0,1,2,3,4],[0,1,2,3,4,5]],[false,false,false,false,false,false,true]⟩
def F_life_Book_out (p0:Option Addr) (p1:Int) (p2:Int) (p3:Int) (K:Int→Heap→Prop) (h:Heap):Prop:=
 ∃ (b1:Nat) (o2:Nat),p0=some ⟨b1,o2,none⟩∧∃ (x4:Option Nat),cellH h b1 (o2+2)=some (.map x4)∧∃ (l6:List (ME Int)) (n7:Nat),mapAt (Value.int .i64) h x4 l6 n7∧∃ (x9_0:Int) (x9_1:Int),(mlook l6 p1).getD (Value.agg #[.int .i64 0,.int .u64 0])=(Value.agg #[.int .i64 x9_0,.int .u64 x9_1])∧∀ (h11:Heap),h11=h.push (.cells #[.int .i64 0,.int .u64 0] 238 (0,0))→∃ (h14:Heap),stCells h.size h11 0 [.int .i64 x9_0,.int .u64 x9_1]=some h14∧(((mlook l6 p1).isSome)=false→K 6 h14)∧(((mlook l6 p1).isSome)=true→∃ (x15:Option Addr),cellH h14 b1 (o2+1)=some (.pointer x15)∧∃ (x17:Int),cellH h14 h.size 0=some (.int .i64 x17)∧CallsH PR fn_wheel_Wheel_Cancel #[.pointer x15,.int .i64 x17] h14 (fun v h19=>∃ (x21:Int),v=(Value.int .i64 x21)∧∃ (x22:Int),cellH h19 h.size 0=some (.int .i64 x22)∧(0≤x22∧x22<64)∧∃ (h26:Heap),stCells b1 h19 (o2+67+x22.toNat * 1) [.bool false]=some h26∧∃ (x27:Option Nat),cellH h26 b1 (o2+2)=some (.map x27)∧∃ (r29:Nat),x27=some r29∧∃ (l30:List (ME Int)) (n31:Nat),h26[r29]? = some (mobj (Value.int .i64) l30 n31)∧∀ (h34:Heap),h34=h26.setIfInBounds r29 (mobj (Value.int .i64) (mdel l30 p1) n31)→∃ (x36a:Option Addr) (x36n:Nat) (x36c:Nat),cellH h34 b1 (o2+131)=some (.slice x36a x36n x36c)∧∀ (h38:Heap),h38=h34.push (.cells #[.int .i64 p1,.int .i64 p2,.int .i64 p3] 74 (0,0))→appH 74 3 24 (Value.agg #[.int .i64 0,.int .i64 0,.int .i64 0]) x36a x36n x36c 1 ([.int .i64 p1,.int .i64 p2,.int .i64 p3]) h38 (fun a44 n45 q46 h47=>∃ (h49:Heap),stCells b1 h47 (o2+131) [.slice a44 n45 q46]=some h49∧K 0 h49)))
theorem F_life_Book_out_ok (p0:Option Addr) (p1:Int) (p2:Int) (p3:Int) (R:Value→Heap→Prop) (h:Heap) (H:F_life_Book_out p0 p1 p2 p3 (fun r0 h'=>R (Value.int .i64 r0) h') h):CallsH PR fn_life_Book_out #[.pointer p0,.int .i64 p1,.int .i64 p2,.int .i64 p3] h R:=by
 refine zF (args:=[.pointer p0,.int .i64 p1,.int .i64 p2,.int .i64 p3]) Tryz.func138 rfl rfl ?_
 intro f hf
 have e0:=hf 0 _ rfl
 have e1:=hf 1 _ rfl
 have e2:=hf 2 _ rfl
 have e3:=hf 3 _ rfl
 clear hf
 unfold F_life_Book_out at H
 refine ze ?_
 refine zc rfl ?_
 refine za (zf (v:=.int .i64 0) rfl ?_)
 refine zi ?_
 refine ze ?_
 refine zc rfl ?_
 refine za (zd (v:=.pointer p0) e0 ?_)
 obtain ⟨b1,o2,rfl,H⟩:=H
 refine za (zm rfl ?_)
 refine za (zg rfl fo_245_2 ?_)
 obtain ⟨x4,c5,H⟩:=H
 refine za (zk rfl ag_241 c5 ?_)
 refine za (zd (v:=.int .i64 p1) e1 ?_)
 obtain ⟨l6,n7,c8,H⟩:=H
 obtain ⟨x9_0,x9_1,c10,H⟩:=H
 refine za (op_lookup_ok' (int_enc .i64) mt_241 z_238 rfl rfl c8 c10 ?_)
 refine za (zd (v:=.tuple #[.agg #[.int .i64 x9_0,.int .u64 x9_1],.bool ((mlook l6 p1).isSome)]) rfl ?_)
 refine za (zy rfl rfl ?_)
 refine za (zy rfl rfl ?_)
 obtain ⟨h11,c12⟩ : ∃ h11,h11=h.push (.cells #[.int .i64 0,.int .u64 0] 238 (0,0)):=⟨_,rfl⟩
 replace H:=H h11 c12
 refine za (zV z_238 c12 ?_)
 obtain ⟨h14,c13,H⟩:=H
 refine za (zH (v:=.agg #[.int .i64 x9_0,.int .u64 x9_1]) rfl rfl sz_238 rfl c13 ?_)
 refine za (zf (v:=.bool ((mlook l6 p1).isSome)) rfl ?_)
 refine zi ?_
 refine ze ?_
 refine ze ?_
 refine zc rfl ?_
 refine za (zd (v:=.bool ((mlook l6 p1).isSome)) rfl ?_)
 refine za (op_not rfl ?_)
 refine zi ?_
 refine zx (!((mlook l6 p1).isSome)) rfl ?_ ?_
 ·intro hb
  replace H:=H.1 (zq hb)
  refine ze ?_
  refine zc rfl ?_
  refine za (zf (v:=.int .i64 6) rfl ?_)
  refine zi ?_
  refine zw ?_
  exact zs (zn rfl zr) H
 ·intro hb
  replace H:=H.2 (zI hb)
  refine zB ?_
  refine ze ?_
  obtain ⟨x15,c16,H⟩:=H
  obtain ⟨x17,c18,H⟩:=H
  refine zO cert_life_Book_out_4 1 [(Value.pointer (some ⟨b1,o2,none⟩)),(Value.pointer (some ⟨b1,o2,none⟩)),(Value.pointer (some ⟨b1,o2+1,none⟩)),(Value.pointer x15),(Value.pointer (some ⟨h.size,0,none⟩)),(Value.int .i64 x17),undef] (by kernel_rfl) rfl mixed_PR ?_
  refine zD [6] (by decide) rfl (zv [0,1,2,3,4,5] rfl ⟨zb rfl rfl (zd (v:=.pointer (some ⟨b1,o2,none⟩)) e0 ⟨rfl,rfl⟩),zb rfl rfl (zm rfl ⟨rfl,rfl⟩),zb rfl rfl (zg rfl fo_245_1 ⟨rfl,rfl⟩),zb rfl rfl (zk rfl ag_240 c16 ⟨rfl,rfl⟩),zb rfl rfl (zg rfl fo_238_0 ⟨rfl,rfl⟩),zb rfl rfl (zk rfl ag_3 c18 ⟨rfl,rfl⟩),trivial⟩) rfl ⟨?_,trivial⟩
  refine zb rfl rfl (zA (vs:=[.pointer x15,.int .i64 x17]) en_177 (zj rfl (zj rfl zu)) (CallsH.mono H ?_))
  clear H
  rintro _ h19 ⟨x21,rfl,H⟩
  refine ⟨[(Value.pointer (some ⟨b1,o2,none⟩)),(Value.pointer (some ⟨b1,o2,none⟩)),(Value.pointer (some ⟨b1,o2+1,none⟩)),(Value.pointer x15),(Value.pointer (some ⟨h.size,0,none⟩)),(Value.int .i64 x17),(Value.int .i64 x21)],rfl,(zG [0,1,2,3,4,5] rfl ⟨rfl,rfl,rfl,rfl,rfl,rfl,trivial⟩),?_⟩
  refine zK rfl (zv [] rfl trivial) rfl ?_
  refine ze ?_
  obtain ⟨x22,c23,H⟩:=H
  obtain ⟨c24,H⟩:=H
  refine zO cert_life_Book_out_5 1 [(Value.pointer (some ⟨b1,o2,none⟩)),(Value.pointer (some ⟨h.size,0,none⟩)),(Value.int .i64 x22),(Value.pointer (some ⟨b1,o2,none⟩)),(Value.pointer (some ⟨b1,o2+67,none⟩)),(Value.pointer (some ⟨b1,o2+67+x22.toNat * 1,none⟩)),undef] (by kernel_rfl) rfl mixed_PR ?_
  refine zD [6] (by decide) rfl (zv [0,1,2,3,4,5] rfl ⟨zb rfl rfl (zd (v:=.pointer (some ⟨b1,o2,none⟩)) e0 ⟨rfl,rfl⟩),zb rfl rfl (zg rfl fo_238_0 ⟨rfl,rfl⟩),zb rfl rfl (zk rfl ag_3 c23 ⟨rfl,rfl⟩),zb rfl rfl (zm rfl ⟨rfl,rfl⟩),zb rfl rfl (zg rfl fo_245_4 ⟨rfl,rfl⟩),zb rfl rfl (zS rfl rfl ei_243 c24 ⟨rfl,rfl⟩),trivial⟩) rfl ⟨?_,trivial⟩
  obtain ⟨h26,c25,H⟩:=H
  refine zb rfl rfl (zH (v:=.bool false) rfl rfl sz_4 rfl c25 ?_)
  refine ⟨[(Value.pointer (some ⟨b1,o2,none⟩)),(Value.pointer (some ⟨h.size,0,none⟩)),(Value.int .i64 x22),(Value.pointer (some ⟨b1,o2,none⟩)),(Value.pointer (some ⟨b1,o2+67,none⟩)),(Value.pointer (some ⟨b1,o2+67+x22.toNat * 1,none⟩)),undef],rfl,(zG [0,1,2,3,4,5] rfl ⟨rfl,rfl,rfl,rfl,rfl,rfl,trivial⟩),?_⟩
  refine zK rfl (zv [] rfl trivial) rfl ?_
  refine ze ?_
  refine zc rfl ?_
  refine za (zd (v:=.pointer (some ⟨b1,o2,none⟩)) e0 ?_)
  refine za (zm rfl ?_)
  refine za (zg rfl fo_245_2 ?_)
  obtain ⟨x27,c28,H⟩:=H
  refine za (zk rfl ag_241 c28 ?_)
  refine za (zd (v:=.int .i64 p1) e1 ?_)
  obtain ⟨r29,rfl,H⟩:=H
  obtain ⟨l30,n31,c33,H⟩:=H
  obtain ⟨h34,c35⟩ : ∃ h34,h34=h26.setIfInBounds r29 (mobj (Value.int .i64) (mdel l30 p1) n31):=⟨_,rfl⟩
  replace H:=H h34 c35
  refine za (op_delete' (int_enc .i64) rfl mt_241 rfl rfl c33 c35 ?_)
  refine zi ?_
  refine ze ?_
  refine zc rfl ?_
  refine za (zd (v:=.pointer (some ⟨b1,o2,none⟩)) e0 ?_)
  refine za (zd (v:=.pointer (some ⟨b1,o2,none⟩)) e0 ?_)
  refine za (zm rfl ?_)
  refine za (zg rfl fo_245_5 ?_)
  obtain ⟨x36a,x36n,x36c,c37,H⟩:=H
  refine za (zk rfl ag_70 c37 ?_)
  refine za (zd (v:=.int .i64 p1) e1 ?_)
  refine za (zd (v:=.int .i64 p2) e2 ?_)
  refine za (zd (v:=.int .i64 p3) e3 ?_)
  refine za (zT (vs:=[(0,.int .i64 p1),(1,.int .i64 p2),(2,.int .i64 p3)]) (cs:=#[.int .i64 p1,.int .i64 p2,.int .i64 p3]) z_74 fs_74 (zC rfl (zC rfl (zC rfl zP))) rfl ?_)
  obtain ⟨h38,c39⟩ : ∃ h38,h38=h34.push (.cells #[.int .i64 p1,.int .i64 p2,.int .i64 p3] 74 (0,0)):=⟨_,rfl⟩
  replace H:=H h38 c39
  refine za (op_buildSlice' (cs:=#[.int .i64 p1,.int .i64 p2,.int .i64 p3]) (vs:=[(0,.agg #[.int .i64 p1,.int .i64 p2,.int .i64 p3])]) (zl:=[.int .i64 0,.int .i64 0,.int .i64 0]) ri_70 (by decide) rfl rfl (zC rfl zP) rfl c39 ?_)
  refine za (op_append' (src:=(Value.slice (some ⟨h34.size,0,none⟩) 1 1)) (news:=[.int .i64 p1,.int .i64 p2,.int .i64 p3]) ri_70 (.inl ⟨_,un_70⟩) rfl rfl rfl (first_fresh c39 rfl rfl rfl) (appH.mono H ?_))
  clear H
  intro a44 n45 q46 h47 H
  refine za (zm rfl ?_)
  refine za (zg rfl fo_245_5 ?_)
  obtain ⟨h49,c48,H⟩:=H
  refine za (zH (v:=.slice a44 n45 q46) rfl rfl sz_70 rfl c48 ?_)
  refine zi ?_
  refine ze ?_
  refine zc rfl ?_
  refine za (zf (v:=.int .i64 0) rfl ?_)
  refine zi ?_
  refine zw ?_
  exact zs (zn rfl zr) H
end Go.Proofs.Vf
