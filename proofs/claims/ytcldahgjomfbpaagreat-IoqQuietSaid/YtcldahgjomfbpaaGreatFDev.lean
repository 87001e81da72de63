/- Printed by a program of this claim: for each Go function named below a formula over the heap, and the proof that it gives the call of that function. No conditions. -/
import Derived.Test.YtcldahgjomfbpaaGreatBase
import Derived.Test.YtcldahgjomfbpaaGreatV3
namespace Go.Proofs.Vf
open Go Go.Proofs Go.VC
set_option maxRecDepth 100000
set_option maxHeartbeats 4000000
set_option linter.unusedVariables false
def Gb2 (p0:Option Addr) (p1:Int) (p2:Int) (K:Option Addr→Int→Heap→Prop) (h:Heap):Prop:=
 CallsH PR Gm5 #[.int .i64 p1] h (fun v h1=>∃ (x3:Option Addr) (x4:Int),v=(Value.tuple #[.pointer x3,.int .i64 x4])∧((¬ (x4=0))→K none x4 h1)∧(x4=0→CallsH PR Giu #[.int .u64 p2] h1 (fun v h6=>∃ (x8:Option Addr) (x9:Int),v=(Value.tuple #[.pointer x8,.int .i64 x9])∧((¬ (x9=0))→K none x9 h6)∧(x9=0→CallsH PR Gl6 #[] h6 (fun v h11=>∃ (x13:Option Addr),v=(Value.pointer x13)∧∀ (h14:Heap),h14=h11.push (.map #[] 0)→∀ (h16:Heap),h16=h14.push (.map #[] 0)→∀ (h18:Heap),h18=h16.push (.cells #[.pointer p0,.pointer x13,.pointer x3,.pointer x8,.map (some h11.size),.map (some h14.size)] 156 (0,0))→K (some ⟨h16.size,0,none⟩) 0 h18)))))
theorem Gb3 (p0:Option Addr) (p1:Int) (p2:Int) (R:Value→Heap→Prop) (h:Heap) (H:Gb2 p0 p1 p2 (fun r0 r1 h'=>R (Value.tuple #[.pointer r0,.int .i64 r1]) h') h):CallsH PR Gij #[.pointer p0,.int .i64 p1,.int .u64 p2] h R:=by
 refine zD (args:=[.pointer p0,.int .i64 p1,.int .u64 p2]) Tryz.func24 U U ?_
 intro f hf
 have e0:=hf 0 _ rfl
 have e1:=hf 1 _ rfl
 have e2:=hf 2 _ rfl
 clear hf
 unfold Gb2 at H
 refine ze ?_
 refine zc U ?_
 refine za (zg (v:=.pointer none) U ?_)
 refine za (zg (v:=.int .i64 0) U ?_)
 refine zh ?_
 refine ze ?_
 refine zc U ?_
 refine za (zd (v:=.int .i64 p1) e1 ?_)
 refine za (zG (vs:=[.int .i64 p1]) en_87 (zm U zy) (CallsH.mono H ?_))
 clear H
 rintro _ h1 ⟨x3,x4,rfl,H⟩
 refine za (zd (v:=.tuple #[.pointer x3,.int .i64 x4]) U ?_)
 refine za (zB U U ?_)
 refine za (zB U U ?_)
 refine za (zg (v:=.pointer x3) U ?_)
 refine za (zg (v:=.int .i64 x4) U ?_)
 refine zh ?_
 refine ze ?_
 refine ze ?_
 refine zc U ?_
 refine za (zd (v:=.int .i64 x4) U ?_)
 refine za (op_neq U U ?_)
 refine zh ?_
 refine zz (!decide (x4=0)) U ?_ ?_
 ·intro hb
  replace H:=H.1 (zn (zt hb))
  refine ze ?_
  refine zc U ?_
  refine za (zd (v:=.int .i64 x4) U ?_)
  refine za (zg (v:=.pointer none) U ?_)
  refine za (zg (v:=.int .i64 x4) U ?_)
  refine zh ?_
  refine zx ?_
  exact zv (zq U (zq U zu)) H
 ·intro hb
  replace H:=H.2 (zo (zL hb))
  refine zC ?_
  refine ze ?_
  refine zc U ?_
  refine za (zd (v:=.int .u64 p2) e2 ?_)
  refine za (zG (vs:=[.int .u64 p2]) en_88 (zm U zy) (CallsH.mono H ?_))
  clear H
  rintro _ h6 ⟨x8,x9,rfl,H⟩
  refine za (zd (v:=.tuple #[.pointer x8,.int .i64 x9]) U ?_)
  refine za (zB U U ?_)
  refine za (zB U U ?_)
  refine za (zg (v:=.pointer x8) U ?_)
  refine za (zg (v:=.int .i64 x9) U ?_)
  refine zh ?_
  refine ze ?_
  refine ze ?_
  refine zc U ?_
  refine za (zd (v:=.int .i64 x9) U ?_)
  refine za (op_neq U U ?_)
  refine zh ?_
  refine zz (!decide (x9=0)) U ?_ ?_
  ·intro hb
   replace H:=H.1 (zn (zt hb))
   refine ze ?_
   refine zc U ?_
   refine za (zd (v:=.int .i64 x9) U ?_)
   refine za (zg (v:=.pointer none) U ?_)
   refine za (zg (v:=.int .i64 x9) U ?_)
   refine zh ?_
   refine zx ?_
   exact zv (zq U (zq U zu)) H
  ·intro hb
   replace H:=H.2 (zo (zL hb))
   refine zC ?_
   refine ze ?_
   refine zc U ?_
   refine za (zd (v:=.pointer p0) e0 ?_)
   refine za (zG (vs:=[]) en_89 zy (CallsH.mono H ?_))
   clear H
   rintro _ h11 ⟨x13,rfl,H⟩
   refine za (zd (v:=.pointer x3) U ?_)
   refine za (zd (v:=.pointer x8) U ?_)
   obtain⟨h14,c15⟩ : ∃ h14,h14=h11.push (.map #[] 0):=⟨_,rfl⟩
   replace H:=H h14 c15
   refine za (op_makeMap' c15 ?_)
   obtain⟨h16,c17⟩ : ∃ h16,h16=h14.push (.map #[] 0):=⟨_,rfl⟩
   replace H:=H h16 c17
   refine za (op_makeMap' c17 ?_)
   refine za (zX (vs:=[(0,.pointer p0),(1,.pointer x13),(2,.pointer x3),(3,.pointer x8),(4,.map (some h11.size)),(5,.map (some h14.size))]) (cs:=#[.pointer p0,.pointer x13,.pointer x3,.pointer x8,.map (some h11.size),.map (some h14.size)]) z_156 fs_156 (zM U (zM U (zM U (zM U (zM U (zM U zT)))))) U ?_)
   obtain⟨h18,c19⟩ : ∃ h18,h18=h16.push (.cells #[.pointer p0,.pointer x13,.pointer x3,.pointer x8,.map (some h11.size),.map (some h14.size)] 156 (0,0)):=⟨_,rfl⟩
   replace H:=H h18 c19
   refine za (yd (v:=.agg #[.pointer p0,.pointer x13,.pointer x3,.pointer x8,.map (some h11.size),.map (some h14.size)]) U c19 ?_)
   refine za (zg (v:=.pointer (some ⟨h16.size,0,none⟩)) U ?_)
   refine za (zg (v:=.int .i64 0) U ?_)
   refine zh ?_
   refine zx ?_
   exact zv (zq U (zq U zu)) H
def Gay (p0:Option Addr) (p1:Int) (K:Bool→Heap→Prop) (h:Heap):Prop:=
 ∃ (b1:Nat) (o2:Nat),p0=some ⟨b1,o2,none⟩∧∃ (x4:Option Nat),cellH h b1 (o2+5)=some (.map x4)∧∃ (l6:List (ME Int)) (n7:Nat),mapAt (Value.int .i64) h x4 l6 n7∧∀ (h8:Heap),((∀ x,x<h.size→h8[x]? = h[x]?)∧h8.size=h.size+1∧iterAt (Value.int .i64) h8 h.size l6 n7 #[])→∃ (I11:Heap→Prop) (mu12:Heap→Nat),I11 h8∧∀ (h14:Heap),I11 h14→∃ (l15:List (ME Int)) (n16:Nat) (sn17:Array Nat),iterAt (Value.int .i64) h14 h.size l15 n16 sn17∧(∀ e∈l15,e.born<n16)∧((∀ e∈l15,e.born∈sn17)→K false h14)∧(∀ e18∈l15,e18.born ∉ sn17→∀ h19:Heap,((∀ x,x≠h.size→h19[x]? = h14[x]?)∧h19.size=h14.size∧iterAt (Value.int .i64) h19 h.size l15 n16 (sn17.push e18.born))→(iterAt (Value.int .i64) h19 h.size l15 n16 (sn17.push e18.born)∧(l15.map (·.born)).Nodup)∧∃ (x20:Option Addr),e18.val=(Value.pointer x20)∧∃ (b23:Nat) (o24:Nat),x20=some ⟨b23,o24,none⟩∧∃ (x26:Int),cellH h19 b23 o24=some (.int .i64 x26)∧(x26=p1→K true h19)∧((¬ (x26=p1))→(I11 h19∧mu12 h19<mu12 h14)))
theorem Gaz (p0:Option Addr) (p1:Int) (R:Value→Heap→Prop) (h:Heap) (H:Gay p0 p1 (fun r0 h'=>R (Value.bool r0) h') h):CallsH PR Gih #[.pointer p0,.int .i64 p1] h R:=by
 refine zD (args:=[.pointer p0,.int .i64 p1]) Tryz.func66 U U ?_
 intro f hf
 have e0:=hf 0 _ rfl
 have e1:=hf 1 _ rfl
 clear hf
 unfold Gay at H
 refine ze ?_
 refine zc U ?_
 refine za (zg (v:=.bool false) U ?_)
 refine zh ?_
 refine ze ?_
 refine ze ?_
 refine zc U ?_
 refine za (zd (v:=.pointer p0) e0 ?_)
 obtain⟨b1,o2,rfl,H⟩:=H
 refine za (zj U ?_)
 refine za (zf U fo_156_5 ?_)
 obtain⟨x4,c5,H⟩:=H
 refine za (zk U ag_154 c5 ?_)
 obtain⟨l6,n7,c9,H⟩:=H
 refine za (op_range_any un_154 U c9 ?_)
 intro h8 c10
 replace H:=H h8 c10
 refine zh ?_
 refine zK ?_
 obtain⟨I11,mu12,hI,H⟩:=H
 obtain⟨I13,mu13,hin13,hout13,hmu13⟩ : ∃ (J13:Fr→Heap→Prop) (m:Fr→Heap→Nat),(∀ f hz,f 1 = .int .i64 p1→f 11 = .pointer (some ⟨h.size,0,none⟩)→I11 hz→J13 f hz)∧(∀ f hz,J13 f hz→f 1 = .int .i64 p1∧f 11 = .pointer (some ⟨h.size,0,none⟩)∧I11 hz)∧(∀ f hz,m f hz=mu12 hz):=⟨fun f hz=>f 1 = .int .i64 p1∧f 11 = .pointer (some ⟨h.size,0,none⟩)∧I11 hz,fun f hz=>mu12 hz,fun _ _ a0 a1 z=>⟨a0,a1,z⟩,fun _ _ hz=>hz,fun f hz  => by rfl⟩
 refine yb I13 mu13 (hin13 _ _ e1 U hI) ?_
 clear hI
 intro f h14 hf
 obtain⟨a13_0,a13_1,hJ⟩:=hout13 _ _ hf
 replace H:=H h14 hJ
 refine ze ?_
 refine zc U ?_
 obtain⟨l15,n16,sn17,c29,c30,H0,H1⟩:=H
 refine za (op_next_any a13_1 c29 c30 ?_ ?_)
 ·intro hd
  have H:=H0 hd
  refine za (zB U U ?_)
  refine zh ?_
  refine ze ?_
  refine zz false U (fun hq=>by cases hq) (fun _=>?_)
  refine ya ?_
  refine ze ?_
  refine zc U ?_
  refine za (zg (v:=.bool false) U ?_)
  refine zh ?_
  refine zx ?_
  exact zv (zq U zu) H
 ·intro e18 hee18 hne h19 hnh
  have H:=H1 e18 hee18 hne h19 hnh
  refine za (zB U U ?_)
  refine zh ?_
  refine ze ?_
  refine zz true U (fun _=>?_) (fun hq=>by cases hq)
  refine zC ?_
  refine zK ?_
  refine ze ?_
  refine zc U ?_
  obtain⟨c21,H⟩:=H
  obtain⟨x20,c22,H⟩:=H
  refine za (op_entry_any a13_1 c21.1 hee18 c21.2 c22 ?_)
  refine za (zB U U ?_)
  refine za (zg (v:=.pointer x20) U ?_)
  refine zh ?_
  refine ze ?_
  refine zc U ?_
  refine za (zd (v:=.pointer x20) U ?_)
  obtain⟨b23,o24,rfl,H⟩:=H
  refine za (zj U ?_)
  refine za (zf U fo_172_0 ?_)
  obtain⟨x26,c27,H⟩:=H
  refine za (zk U ag_3 c27 ?_)
  refine za (zd (v:=.int .i64 p1) a13_0 ?_)
  refine za (op_eql U U ?_)
  refine zh ?_
  refine zz (decide (x26=p1)) U ?_ ?_
  ·intro hb
   replace H:=H.1 (zo hb)
   refine ze ?_
   refine zc U ?_
   refine za (zg (v:=.bool true) U ?_)
   refine zh ?_
   refine zx ?_
   exact zv (zq U zu) H
  ·intro hb
   replace H:=H.2 (zn hb)
   refine zC ?_
   exact And.intro (hin13 _ _ a13_0 a13_1 H.1) (yk (hmu13 _ _ ) (hmu13 _ _ ) H.2)
def Gfs:Cert:=⟨[[],[0],[0,1],[0,1,2],[],[4],[4,5],[0,1,2,3,4,5,6],[0,1,2,3,4,5,6,7],[0,1,2,3,4,5,6,7,8],[0,1,2,3,4,5,6,7,8,9],[0,1,2,3,4,5,6,7,8,9,10],[0,1,2,3,4,5,6,7,8,9,10,11],[0,1,2,3,4,5,6,7,8,9,10,11,12],[0,1,2,3,4,5,6,7,8,9,10,11,12,13],[0,1,2,3,4,5,6,7,8,9,10,11,12,13,14],[0,1,2,3,4,5,6,7,8,9,10,11,12,13,14,15],[0,1,2,3,4,5,6,7,8,9,10,11,12,13,14,15,16],[0,1,2,3,4,5,6,7,8,9,10,11,12,13,14,15,16,17],[0,1,2,3,4,5,6,7,8,9,10,11,12,13,14,15,16,17,18],[0,1,2,3,4,5,6,7,8,9,10,11,12,13,14,15,16,17,18,19],[0,1,2,3,4,5,6,7,8,9,10,11,12,13,14,15,16,17,18,19,20],[0,1,2,3,4,5,6,7,8,9,10,11,12,13,14,15,16,17,18,19,20,21],[0,1,2,3,4,5,6,7,8,9,10,11,12,13,14,15,16,17,18,19,20,21,22],[0,1,2,3,4,5,6,7,8,9,10,11,12,13,14,15,16,17,18,19,20,21,22,23],[0,1,2,3,4,5,6,7,8,9,10,11,12,13,14,15,16,17,18,19,20,21,22,23,24],[0,1,2,3,4,5,6,7,8,9,10,11,12,13,14,15,16,17,18,19,20,21,22,23,24,25],[0,1,2,3,4,5,6,7,8,9,10,11,12,13,14,15,16,17,18,19,20,21,22,23,24,25,26],[0,1,2,3,4,5,6,7,8,9,10,11,12,13,14,15,16,17,18,19,20,21,22,23,24,25,26,27],[0,1,2,3,4,5,6,7,8,9,10,11,12,13,14,15,16,17,18,19,20,21,22,23,24,25,26,27,28]],[false,false,false,false,false,false,true,true,false,false,false,false,false,false,false,false,false,false,false,false,false,false,false,false,false,false,false,true,false,false]⟩
def Gft:Cert:=⟨[[],[0],[0,1],[0,1,2],[],[4],[4,5],[0,1,2,3,4,5,6],[0,1,2,3,4,5,6,7],[0,1,2,3,4,5,6,7,8],[0,1,2,3,4,5,6,7,8],[0,1,2,3,4,5,6,7,8],[0,1,2,3,4,5,6,7,8,9],[0,1,2,3,4,5,6,7,8,9,10,12],[0,1,2,3,4,5,6,7,8,9,10,11,12,13]],[false,false,false,false,false,false,false,true,false,false,false,false,false,false,false]⟩
def Gfu:Cert:=⟨[[],[0],[0,1],[0,1,2],[0,1,2,3],[0,1,2,3,4],[0,1,2,3,4,5],[0,1,2,3,4,5,6],[0,1,2,3,4,5,6,7],[0,1,2,3,4,5,6,7,8],[0,1,2,3,4,5,6,7,8,9],[0,1,2,3,4,5,6,7,8,9,10],[0,1,2,3,4,5,6,7],[0,1,2,3,4,5,6,7,12],[0,1,2,3,4,5,6,7,8,9,10,11,12,13],[0,1,2,3,4,5,6,7,8,9,10,11,12,13,14],[0,1,2,3,4,5,6,7,8,9,10,11,12,13,14,15],[0,1,2,3,4,5,6,7,8,9,10,11,12,13,14,15,16]],[false,false,false,false,true,false,false,false,false,false,false,false,false,false,false,false,false,false]⟩
def Gfo:Cert:=⟨[[],[0],[0,1],[0,1,2],[],[4],[],[6],[0,1,2,3,4,5,6,7],[0,1,2,3,4,5,6,7,8]],[false,false,false,false,false,false,false,false,true,false]⟩
def Gfp:Cert:=⟨[[],[0],[0,1],[0,1,2],[],[0,1,2,3,4]],[false,false,false,false,false,true]⟩
def Gfq:Cert:=⟨[[],[0],[0,1],[0,1,2],[],[4],[4,5],[0,1,2,3,4,5,6]],[false,false,false,false,false,false,false,true]⟩
def Gfr:Cert:=⟨[[],[0],[0,1],[0,1,2],[],[4],[],[6],[6,7],[0,1,2,3,4,5,6,7,8]],[false,false,false,false,false,false,false,false,true,true]⟩
def Gas (p0:Option Addr) (p1_0:Int) (p1_1:Int) (p1_2:Int) (p1_3:Int) (p1_4:Int) (p1_5:Int) (p1_6:Int) (p1_7:Int) (K:Int→Heap→Prop) (h:Heap):Prop:=
 ∀ (h1:Heap),h1=h.push (.cells #[.int .i64 p1_0,.int .i64 p1_1,.int .u64 p1_2,.int .i64 p1_3,.int .i64 p1_4,.int .u64 p1_5,.int .i64 p1_6,.int .i64 p1_7] 43 (0,0))→∃ (x3:Int),cellH h1 h.size 0=some (.int .i64 x3)∧∃ (x5:Int),cellH h1 h.size 2=some (.int .u64 x5)∧∃ (x7:Int),cellH h1 h.size 3=some (.int .i64 x7)∧∀ (h9:Heap),h9=h1.push (.cells #[.int .i64 0,.int .u64 0,.int .i64 0] 148 (0,0))→∃ (h12:Heap),stCells h1.size h9 0 [.int .i64 x3,.int .u64 x5,.int .i64 x7]=some h12∧∃ (b13:Nat) (o14:Nat),p0=some ⟨b13,o14,none⟩∧∃ (x16:Option Addr),cellH h12 b13 o14=some (.pointer x16)∧∃ (x18_0:Int) (x18_1:Int) (x18_2:Int) (x18_3:Int),ldCells h12 h.size 4 4=some [.int .i64 x18_0,.int .u64 x18_1,.int .i64 x18_2,.int .i64 x18_3]∧∀ (h20:Heap),h20=h12.push (.cells #[.int .i64 x18_0,.int .u64 x18_1,.int .i64 x18_2,.int .i64 x18_3] 41 (0,0))→cellH h20 b13 o14=some (Value.pointer x16)∧CallsH PR Gll #[.pointer x16,.slice (some ⟨h12.size,0,none⟩) 1 1] h20 (fun v h23=>∃ (x25:Bool),v=(Value.bool x25)∧∃ (x26:Int),((x25=true)→cellH h23 h.size 1=some (.int .i64 x26))∧∃ (x29:Int),((((!x25) || (decide (x26<0)))=false)→cellH h23 h.size 1=some (.int .i64 x29))∧∃ (x32:Int),(((((!x25) || (decide (x26<0))) || (decide (15<x29)))=false)→cellH h23 h.size 6=some (.int .i64 x32))∧∃ (x35_0:Int) (x35_1:Int) (x35_2:Int),((((((!x25) || (decide (x26<0))) || (decide (15<x29))) || (decide (65535<x32)))=false)→ldCells h23 h1.size 0 3=some [.int .i64 x35_0,.int .u64 x35_1,.int .i64 x35_2])∧∃ J40:Bool→Heap→Prop,(∀ (x39:Bool) (h37:Heap),J40 x39 h37→((((((!x25) || (decide (x26<0))) || (decide (15<x29))) || (decide (65535<x32))) || (!x39))=true→K 1 h37)∧((((((!x25) || (decide (x26<0))) || (decide (15<x29))) || (decide (65535<x32))) || (!x39))=false→∃ (x41:Option Addr),cellH h37 b13 o14=some (.pointer x41)∧∃ (x43_0:Int) (x43_1:Int),ldCells h37 h.size 4 2=some [.int .i64 x43_0,.int .u64 x43_1]∧CallsH PR Glv #[.pointer x41,.agg #[.int .i64 x43_0,.int .u64 x43_1]] h37 (fun v h45=>∃ (x47:Int) (x48:Int) (x49:Int),v=(Value.tuple #[.int .i64 x47,.int .i64 x48,.int .i64 x49])∧((¬ (x47=1))→K 8 h45)∧(x47=1→∃ (x51:Int),cellH h45 h.size 0=some (.int .i64 x51)∧CallsH PR Gih #[.pointer (some ⟨b13,o14,none⟩),.int .i64 x51] h45 (fun v h53=>∃ (x55:Bool),v=(Value.bool x55)∧(x55=true→K 7 h53)∧(x55=false→∃ (x58:Option Addr),cellH h53 b13 (o14+1)=some (.pointer x58)∧CallsH PR Gl8 #[.pointer x58] h53 (fun v h60=>∃ (x62a:Option Addr) (x62n:Nat) (x62c:Nat),v=(Value.slice x62a x62n x62c)∧∃ (x64:Option Nat),((64≤(x62n:Int))→cellH h60 b13 (o14+4)=some (.map x64))∧∃ (x66:Int),((64≤(x62n:Int))→cellH h60 h.size 0=some (.int .i64 x66))∧∃ (l68:List (ME Int)) (n69:Nat),((64≤(x62n:Int))→mapAt (Value.int .i64) h60 x64 l68 n69)∧∃ (x71:Option Addr),((64≤(x62n:Int))→(mlook l68 x66).getD (Value.pointer none)=(Value.pointer x71))∧(((decide (64≤(x62n:Int))) && x71.isNone)=true→K 4 h60)∧(((decide (64≤(x62n:Int))) && x71.isNone)=false→∃ (x74:Option Addr),cellH h60 b13 (o14+3)=some (.pointer x74)∧∃ (x76:Int),cellH h60 h.size 0=some (.int .i64 x76)∧∃ (x78:Int),cellH h60 h.size 2=some (.int .u64 x78)∧CallsH PR Gip #[.pointer x74,.int .i64 x76,.int .u64 x78] h60 (fun v h80=>∃ (x82:Int),v=(Value.int .i64 x82)∧((¬ (x82=0))→K x82 h80)∧(x82=0→∃ (x84:Option Addr),cellH h80 b13 (o14+1)=some (.pointer x84)∧∃ (x86_0:Int) (x86_1:Int) (x86_2:Int),ldCells h80 h1.size 0 3=some [.int .i64 x86_0,.int .u64 x86_1,.int .i64 x86_2]∧CallsH PR Gl7 #[.pointer x84,.agg #[.int .i64 x86_0,.int .u64 x86_1,.int .i64 x86_2]] h80 (fun v h88=>∃ (x90:Int),v=(Value.int .i64 x90)∧∃ (x91:Option Addr),cellH h88 b13 o14=some (.pointer x91)∧∃ (x93_0:Int) (x93_1:Int),ldCells h88 h.size 4 2=some [.int .i64 x93_0,.int .u64 x93_1]∧CallsH PR Glt #[.pointer x91,.agg #[.int .i64 x93_0,.int .u64 x93_1],.int .i64 1,.int .i64 2] h88 (fun v h95=>∃ (x97:Int),v=(Value.int .i64 x97)∧∃ (x98:Option Nat),cellH h95 b13 (o14+4)=some (.map x98)∧∃ (x100:Int),cellH h95 h.size 0=some (.int .i64 x100)∧∃ (x102_0:Int) (x102_1:Int) (x102_2:Int) (x102_3:Int) (x102_4:Int) (x102_5:Int) (x102_6:Int) (x102_7:Int),ldCells h95 h.size 0 8=some [.int .i64 x102_0,.int .i64 x102_1,.int .u64 x102_2,.int .i64 x102_3,.int .i64 x102_4,.int .u64 x102_5,.int .i64 x102_6,.int .i64 x102_7]∧∀ (h104:Heap),h104=h95.push (.cells #[.int .i64 x102_0,.int .i64 x102_1,.int .u64 x102_2,.int .i64 x102_3,.int .i64 x102_4,.int .u64 x102_5,.int .i64 x102_6,.int .i64 x102_7,.int .i64 (-1),.int .i64 2] 166 (0,0))→cellH h104 b13 (o14+4)=some (Value.map x98)∧cellH h104 h.size 0=some (Value.int .i64 x100)∧∃ (r108:Nat),x98=some r108∧∃ (l109:List (ME Int)) (n110:Nat),h104[r108]? = some (mobj (Value.int .i64) l109 n110)∧∀ (h113:Heap),h113=h104.setIfInBounds r108 (mobj (Value.int .i64) (mput l109 x100 (Value.pointer (some ⟨h95.size,0,none⟩)) n110) (mclk l109 x100 n110))→K 0 h113))))))))))))∧((((((!x25) || (decide (x26<0))) || (decide (15<x29))) || (decide (65535<x32)))=false)→CallsH PR Gl5 #[.agg #[.int .i64 x35_0,.int .u64 x35_1,.int .i64 x35_2]] h23 (fun v h37=>∃ (x39:Bool),v=(Value.bool x39)∧J40 x39 h37))∧((((((!x25) || (decide (x26<0))) || (decide (15<x29))) || (decide (65535<x32)))=true)→∃ (x39:Bool),J40 x39 h23))
theorem Gat (p0:Option Addr) (p1_0:Int) (p1_1:Int) (p1_2:Int) (p1_3:Int) (p1_4:Int) (p1_5:Int) (p1_6:Int) (p1_7:Int) (R:Value→Heap→Prop) (h:Heap) (H:Gas p0 p1_0 p1_1 p1_2 p1_3 p1_4 p1_5 p1_6 p1_7 (fun r0 h'=>R (Value.int .i64 r0) h') h):CallsH PR Gie #[.pointer p0,.agg #[.int .i64 p1_0,.int .i64 p1_1,.int .u64 p1_2,.int .i64 p1_3,.int .i64 p1_4,.int .u64 p1_5,.int .i64 p1_6,.int .i64 p1_7]] h R:=by
 refine zD (args:=[.pointer p0,.agg #[.int .i64 p1_0,.int .i64 p1_1,.int .u64 p1_2,.int .i64 p1_3,.int .i64 p1_4,.int .u64 p1_5,.int .i64 p1_6,.int .i64 p1_7]]) Tryz.func16 U U ?_
 intro f hf
 have e0:=hf 0 _ rfl
 have e1:=hf 1 _ rfl
 clear hf
 unfold Gas at H
 refine ze ?_
 refine zc U ?_
 obtain⟨h1,c2⟩ : ∃ h1,h1=h.push (.cells #[.int .i64 p1_0,.int .i64 p1_1,.int .u64 p1_2,.int .i64 p1_3,.int .i64 p1_4,.int .u64 p1_5,.int .i64 p1_6,.int .i64 p1_7] 43 (0,0)):=⟨_,rfl⟩
 replace H:=H h1 c2
 refine za (yd (v:=.agg #[.int .i64 p1_0,.int .i64 p1_1,.int .u64 p1_2,.int .i64 p1_3,.int .i64 p1_4,.int .u64 p1_5,.int .i64 p1_6,.int .i64 p1_7]) e1 c2 ?_)
 refine za (zg (v:=.int .i64 0) U ?_)
 refine zh ?_
 refine ze ?_
 refine zc U ?_
 refine za (zf U fo_43_0 ?_)
 obtain⟨x3,c4,H⟩:=H
 refine za (zk U ag_3 c4 ?_)
 refine za (zf U fo_43_2 ?_)
 obtain⟨x5,c6,H⟩:=H
 refine za (zk U ag_37 c6 ?_)
 refine za (zf U fo_43_3 ?_)
 obtain⟨x7,c8,H⟩:=H
 refine za (zk U ag_3 c8 ?_)
 refine za (zX (vs:=[(0,.int .i64 x3),(1,.int .u64 x5),(2,.int .i64 x7)]) (cs:=#[.int .i64 x3,.int .u64 x5,.int .i64 x7]) z_148 fs_148 (zM U (zM U (zM U zT))) U ?_)
 obtain⟨h9,c10⟩ : ∃ h9,h9=h1.push (.cells #[.int .i64 0,.int .u64 0,.int .i64 0] 148 (0,0)):=⟨_,rfl⟩
 replace H:=H h9 c10
 refine za (zW z_148 c10 ?_)
 obtain⟨h12,c11,H⟩:=H
 refine za (zI (v:=.agg #[.int .i64 x3,.int .u64 x5,.int .i64 x7]) U U sz_148 U c11 ?_)
 refine zh ?_
 refine ze ?_
 refine ze ?_
 obtain⟨b13,o14,rfl,H⟩:=H
 obtain⟨x16,c17,H⟩:=H
 obtain⟨x18_0,x18_1,x18_2,x18_3,c19,H⟩:=H
 refine zO Gfs 3 [(Y (some ⟨b13,o14,none⟩)),(Y (some ⟨b13,o14,none⟩)),(Y (some ⟨b13,o14,none⟩)),(Y x16),(Y (some ⟨h.size,4,none⟩)),(X #[.int .i64 x18_0,.int .u64 x18_1,.int .i64 x18_2,.int .i64 x18_3]),undef,undef,undef,undef,undef,undef,undef,undef,undef,undef,undef,undef,undef,undef,undef,undef,undef,undef,undef,undef,undef,undef,undef,undef] (by kernel_rfl) U mixed_PR ?_
 refine zA [6] (by decide) U (zw [0,1,2,3,4,5] U ⟨zb U U (zd (v:=.pointer (some ⟨b13,o14,none⟩)) e0 ⟨U,U⟩),zb U U (zj U ⟨U,U⟩),zb U U (zf U fo_156_0 ⟨U,U⟩),zb U U (zk U ag_27 c17 ⟨U,U⟩),zb U U (zf U fo_43_4 ⟨U,U⟩),zb U U (zS U ag_41 c19 ⟨U,U⟩),V⟩) U ⟨?_,V⟩
 obtain⟨h20,c21⟩ : ∃ h20,h20=h12.push (.cells #[.int .i64 x18_0,.int .u64 x18_1,.int .i64 x18_2,.int .i64 x18_3] 41 (0,0)):=⟨_,rfl⟩
 replace H:=H h20 c21
 refine zb U U (yg (cs:=#[.int .i64 x18_0,.int .u64 x18_1,.int .i64 x18_2,.int .i64 x18_3]) (vs:=[(0,.agg #[.int .i64 x18_0,.int .u64 x18_1,.int .i64 x18_2,.int .i64 x18_3])]) (zl:=[.int .i64 0,.int .u64 0,.int .i64 0,.int .i64 0]) ri_157 (by decide) U U (zM U zT) U c21 ?_)
 obtain⟨c22,H⟩:=H
 refine⟨[(Value.pointer (some ⟨b13,o14,none⟩)),(Value.pointer (some ⟨b13,o14,none⟩)),(Value.pointer (some ⟨b13,o14,none⟩)),(Value.pointer x16),(Value.pointer (some ⟨h.size,4,none⟩)),(Value.agg #[.int .i64 x18_0,.int .u64 x18_1,.int .i64 x18_2,.int .i64 x18_3]),(Value.slice (some ⟨h12.size,0,none⟩) 1 1),undef,undef,undef,undef,undef,undef,undef,undef,undef,undef,undef,undef,undef,undef,undef,undef,undef,undef,undef,undef,undef,undef,undef],rfl,(zH [0,1,2,3,4,5] rfl ⟨rfl,rfl,rfl,rfl,rfl,rfl,trivial⟩),?_⟩
 refine zA [7] (by decide) U (zw [0,1,2,3] U ⟨zb U U (zd (v:=.pointer (some ⟨b13,o14,none⟩)) e0 ⟨U,U⟩),zb U U (zj U ⟨U,U⟩),zb U U (zf U fo_156_0 ⟨U,U⟩),zb U U (zk U ag_27 c22 ⟨U,U⟩),V⟩) U ⟨?_,V⟩
 refine zb U U (zG (vs:=[.pointer x16,.slice (some ⟨h12.size,0,none⟩) 1 1]) en_64 (zm U (zm U zy)) (CallsH.mono H ?_))
 clear H
 rintro _ h23 ⟨x25,rfl,H⟩
 obtain⟨x26,c27,H⟩:=H
 obtain⟨x29,c30,H⟩:=H
 obtain⟨x32,c33,H⟩:=H
 obtain⟨x35_0,x35_1,x35_2,c36,H⟩:=H
 refine⟨[(Value.pointer (some ⟨b13,o14,none⟩)),(Value.pointer (some ⟨b13,o14,none⟩)),(Value.pointer (some ⟨b13,o14,none⟩)),(Value.pointer x16),(Value.pointer (some ⟨h.size,4,none⟩)),(Value.agg #[.int .i64 x18_0,.int .u64 x18_1,.int .i64 x18_2,.int .i64 x18_3]),(Value.slice (some ⟨h12.size,0,none⟩) 1 1),(Value.bool x25),(Value.bool (!x25)),(Value.bool (!x25)),(bif !(!x25) then (Value.pointer (some ⟨h.size,1,none⟩)) else undef),(bif !(!x25) then (Value.int .i64 x26) else undef),(bif !(!x25) then (Value.bool (decide (x26<0))) else undef),(Value.bool ((!x25) || (decide (x26<0)))),(Value.bool ((!x25) || (decide (x26<0)))),(bif !((!x25) || (decide (x26<0))) then (Value.pointer (some ⟨h.size,1,none⟩)) else undef),(bif !((!x25) || (decide (x26<0))) then (Value.int .i64 x29) else undef),(bif !((!x25) || (decide (x26<0))) then (Value.bool (decide (15<x29))) else undef),(Value.bool (((!x25) || (decide (x26<0))) || (decide (15<x29)))),(Value.bool (((!x25) || (decide (x26<0))) || (decide (15<x29)))),(bif !(((!x25) || (decide (x26<0))) || (decide (15<x29))) then (Value.pointer (some ⟨h.size,4,none⟩)) else undef),(bif !(((!x25) || (decide (x26<0))) || (decide (15<x29))) then (Value.pointer (some ⟨h.size,6,none⟩)) else undef),(bif !(((!x25) || (decide (x26<0))) || (decide (15<x29))) then (Value.int .i64 x32) else undef),(bif !(((!x25) || (decide (x26<0))) || (decide (15<x29))) then (Value.bool (decide (65535<x32))) else undef),(Value.bool ((((!x25) || (decide (x26<0))) || (decide (15<x29))) || (decide (65535<x32)))),(Value.bool ((((!x25) || (decide (x26<0))) || (decide (15<x29))) || (decide (65535<x32)))),(bif !((((!x25) || (decide (x26<0))) || (decide (15<x29))) || (decide (65535<x32))) then (Value.agg #[.int .i64 x35_0,.int .u64 x35_1,.int .i64 x35_2]) else undef),undef,undef,undef],rfl,(zH [0,1,2,3,4,5,6] rfl ⟨rfl,rfl,rfl,rfl,rfl,rfl,rfl,trivial⟩),?_⟩
 refine zA [27] (by decide) U (zw [8,9,10,11,12,13,14,15,16,17,18,19,20,21,22,23,24,25,26] U ⟨zb U U (yi U ⟨U,U⟩),zb U U (zd (v:=.bool (!x25)) U ⟨U,U⟩),zr (b:=!(!x25)) U U (zi U U) (fun hb=>zf U fo_43_1 ⟨zs hb,U⟩) (fun hb=>⟨zp hb,U⟩),zr (b:=!(!x25)) U U (zi U U) (fun hb=>zk (gv hb) ag_3 (c27 (zL (zt hb))) ⟨zs hb,U⟩) (fun hb=>⟨zp hb,U⟩),zr (b:=!(!x25)) U U (zi U U) (fun hb=>zY (gv hb) U ⟨zs hb,U⟩) (fun hb=>⟨zp hb,U⟩),zb U U (zR U U (fun hq=>(gv (zP hq))) ⟨U,U⟩),zb U U (zd (v:=.bool ((!x25) || (decide (x26<0)))) U ⟨U,U⟩),zr (b:=!((!x25) || (decide (x26<0)))) U U (zi U U) (fun hb=>zf U fo_43_1 ⟨zs hb,U⟩) (fun hb=>⟨zp hb,U⟩),zr (b:=!((!x25) || (decide (x26<0)))) U U (zi U U) (fun hb=>zk (gv hb) ag_3 (c30 (zt hb)) ⟨zs hb,U⟩) (fun hb=>⟨zp hb,U⟩),zr (b:=!((!x25) || (decide (x26<0)))) U U (zi U U) (fun hb=>yj (gv hb) U ⟨zs hb,U⟩) (fun hb=>⟨zp hb,U⟩),zb U U (zR U U (fun hq=>(gv (zP hq))) ⟨U,U⟩),zb U U (zd (v:=.bool (((!x25) || (decide (x26<0))) || (decide (15<x29)))) U ⟨U,U⟩),zr (b:=!(((!x25) || (decide (x26<0))) || (decide (15<x29)))) U U (zi U U) (fun hb=>zf U fo_43_4 ⟨zs hb,U⟩) (fun hb=>⟨zp hb,U⟩),zr (b:=!(((!x25) || (decide (x26<0))) || (decide (15<x29)))) U U (zi U U) (fun hb=>zf (gv hb) fo_41_1 ⟨zs hb,U⟩) (fun hb=>⟨zp hb,U⟩),zr (b:=!(((!x25) || (decide (x26<0))) || (decide (15<x29)))) U U (zi U U) (fun hb=>zk (gv hb) ag_3 (c33 (zt hb)) ⟨zs hb,U⟩) (fun hb=>⟨zp hb,U⟩),zr (b:=!(((!x25) || (decide (x26<0))) || (decide (15<x29)))) U U (zi U U) (fun hb=>yj (gv hb) U ⟨zs hb,U⟩) (fun hb=>⟨zp hb,U⟩),zb U U (zR U U (fun hq=>(gv (zP hq))) ⟨U,U⟩),zb U U (zd (v:=.bool ((((!x25) || (decide (x26<0))) || (decide (15<x29))) || (decide (65535<x32)))) U ⟨U,U⟩),zr (b:=!((((!x25) || (decide (x26<0))) || (decide (15<x29))) || (decide (65535<x32)))) U U (zi U U) (fun hb=>zS U ag_148 (c36 (zt hb)) ⟨zs hb,U⟩) (fun hb=>⟨zp hb,U⟩),V⟩) U ⟨?_,V⟩
 obtain⟨J40,HR,HT,HF⟩:=H
 refine stepAt_gl (b:=!((((!x25) || (decide (x26<0))) || (decide (15<x29))) || (decide (65535<x32)))) U U (zi U U) (fun v h37=>∃ (x39:Bool),v=(bif !((((!x25) || (decide (x26<0))) || (decide (15<x29))) || (decide (65535<x32))) then (W x39) else undef)∧J40 x39 h37) ?_ ?_ ?_
 ·rintro _ h37 ⟨x39,rfl,hJ⟩
  have H:=HR x39 h37 hJ
  refine⟨[(Value.pointer (some ⟨b13,o14,none⟩)),(Value.pointer (some ⟨b13,o14,none⟩)),(Value.pointer (some ⟨b13,o14,none⟩)),(Value.pointer x16),(Value.pointer (some ⟨h.size,4,none⟩)),(Value.agg #[.int .i64 x18_0,.int .u64 x18_1,.int .i64 x18_2,.int .i64 x18_3]),(Value.slice (some ⟨h12.size,0,none⟩) 1 1),(Value.bool x25),(Value.bool (!x25)),(Value.bool (!x25)),(bif !(!x25) then (Value.pointer (some ⟨h.size,1,none⟩)) else undef),(bif !(!x25) then (Value.int .i64 x26) else undef),(bif !(!x25) then (Value.bool (decide (x26<0))) else undef),(Value.bool ((!x25) || (decide (x26<0)))),(Value.bool ((!x25) || (decide (x26<0)))),(bif !((!x25) || (decide (x26<0))) then (Value.pointer (some ⟨h.size,1,none⟩)) else undef),(bif !((!x25) || (decide (x26<0))) then (Value.int .i64 x29) else undef),(bif !((!x25) || (decide (x26<0))) then (Value.bool (decide (15<x29))) else undef),(Value.bool (((!x25) || (decide (x26<0))) || (decide (15<x29)))),(Value.bool (((!x25) || (decide (x26<0))) || (decide (15<x29)))),(bif !(((!x25) || (decide (x26<0))) || (decide (15<x29))) then (Value.pointer (some ⟨h.size,4,none⟩)) else undef),(bif !(((!x25) || (decide (x26<0))) || (decide (15<x29))) then (Value.pointer (some ⟨h.size,6,none⟩)) else undef),(bif !(((!x25) || (decide (x26<0))) || (decide (15<x29))) then (Value.int .i64 x32) else undef),(bif !(((!x25) || (decide (x26<0))) || (decide (15<x29))) then (Value.bool (decide (65535<x32))) else undef),(Value.bool ((((!x25) || (decide (x26<0))) || (decide (15<x29))) || (decide (65535<x32)))),(Value.bool ((((!x25) || (decide (x26<0))) || (decide (15<x29))) || (decide (65535<x32)))),(bif !((((!x25) || (decide (x26<0))) || (decide (15<x29))) || (decide (65535<x32))) then (Value.agg #[.int .i64 x35_0,.int .u64 x35_1,.int .i64 x35_2]) else undef),(bif !((((!x25) || (decide (x26<0))) || (decide (15<x29))) || (decide (65535<x32))) then (Value.bool x39) else undef),(bif !((((!x25) || (decide (x26<0))) || (decide (15<x29))) || (decide (65535<x32))) then (Value.bool (!x39)) else undef),(Value.bool (((((!x25) || (decide (x26<0))) || (decide (15<x29))) || (decide (65535<x32))) || (!x39)))],rfl,(zH [0,1,2,3,4,5,6,7,8,9,10,11,12,13,14,15,16,17,18,19,20,21,22,23,24,25,26] rfl ⟨rfl,rfl,rfl,rfl,rfl,rfl,rfl,rfl,rfl,rfl,rfl,rfl,rfl,rfl,rfl,rfl,rfl,rfl,rfl,rfl,rfl,rfl,rfl,rfl,rfl,rfl,rfl,trivial⟩),?_⟩
  refine zJ U (zw [28,29] U ⟨zr (b:=!((((!x25) || (decide (x26<0))) || (decide (15<x29))) || (decide (65535<x32)))) U U (zi U U) (fun hb=>yi (gv hb) ⟨zs hb,U⟩) (fun hb=>⟨zp hb,U⟩),zb U U (zR U U (fun hq=>(gv (zP hq))) ⟨U,U⟩),V⟩) U ?_
  refine zz (((((!x25) || (decide (x26<0))) || (decide (15<x29))) || (decide (65535<x32))) || (!x39)) U ?_ ?_
  ·intro hb
   replace H:=H.1 hb
   refine ze ?_
   refine zc U ?_
   refine za (zg (v:=.int .i64 1) U ?_)
   refine zh ?_
   refine zx ?_
   exact zv (zq U zu) H
  ·intro hb
   replace H:=H.2 hb
   refine zC ?_
   refine ze ?_
   obtain⟨x41,c42,H⟩:=H
   obtain⟨x43_0,x43_1,c44,H⟩:=H
   refine zO Gft 1 [(Y (some ⟨b13,o14,none⟩)),(Y (some ⟨b13,o14,none⟩)),(Y (some ⟨b13,o14,none⟩)),(Y x41),(Y (some ⟨h.size,4,none⟩)),(Y (some ⟨h.size,4,none⟩)),(X #[.int .i64 x43_0,.int .u64 x43_1]),undef,undef,undef,undef,undef,undef,undef,undef] (by kernel_rfl) U mixed_PR ?_
   refine zA [7] (by decide) U (zw [0,1,2,3,4,5,6] U ⟨zb U U (zd (v:=.pointer (some ⟨b13,o14,none⟩)) e0 ⟨U,U⟩),zb U U (zj U ⟨U,U⟩),zb U U (zf U fo_156_0 ⟨U,U⟩),zb U U (zk U ag_27 c42 ⟨U,U⟩),zb U U (zf U fo_43_4 ⟨U,U⟩),zb U U (zf U fo_41_0 ⟨U,U⟩),zb U U (zS U ag_39 c44 ⟨U,U⟩),V⟩) U ⟨?_,V⟩
   refine zb U U (zG (vs:=[.pointer x41,.agg #[.int .i64 x43_0,.int .u64 x43_1]]) en_27 (zm U (zm U zy)) (CallsH.mono H ?_))
   clear H
   rintro _ h45 ⟨x47,x48,x49,rfl,H⟩
   refine⟨[(Value.pointer (some ⟨b13,o14,none⟩)),(Value.pointer (some ⟨b13,o14,none⟩)),(Value.pointer (some ⟨b13,o14,none⟩)),(Value.pointer x41),(Value.pointer (some ⟨h.size,4,none⟩)),(Value.pointer (some ⟨h.size,4,none⟩)),(Value.agg #[.int .i64 x43_0,.int .u64 x43_1]),(Value.tuple #[.int .i64 x47,.int .i64 x48,.int .i64 x49]),(Value.tuple #[.int .i64 x47,.int .i64 x48,.int .i64 x49]),(Value.int .i64 x47),(Value.int .i64 x48),(Value.int .i64 x49),(Value.int .i64 x47),(Value.int .i64 x48),(Value.int .i64 x49)],rfl,(zH [0,1,2,3,4,5,6] rfl ⟨rfl,rfl,rfl,rfl,rfl,rfl,rfl,trivial⟩),?_⟩
   refine zJ U (zw [8,9,10,11,12,13,14] U ⟨zb U U (zd (v:=.tuple #[.int .i64 x47,.int .i64 x48,.int .i64 x49]) U ⟨U,U⟩),zb U U (zB U U ⟨U,U⟩),zb U U (zB U U ⟨U,U⟩),zb U U (zB U U ⟨U,U⟩),zb U U (zg (v:=.int .i64 x47) U ⟨U,U⟩),zb U U (zg (v:=.int .i64 x48) U ⟨U,U⟩),zb U U (zg (v:=.int .i64 x49) U ⟨U,U⟩),V⟩) U ?_
   refine ze ?_
   refine zK ?_
   refine ze ?_
   refine zc U ?_
   refine za (zd (v:=.int .i64 x47) U ?_)
   refine za (op_neq U U ?_)
   refine za (zg (v:=.bool (!decide (x47=1))) U ?_)
   refine zh ?_
   refine zz (!decide (x47=1)) U ?_ ?_
   ·intro hb
    replace H:=H.1 (zn (zt hb))
    refine ze ?_
    refine zc U ?_
    refine za (zg (v:=.int .i64 8) U ?_)
    refine zh ?_
    refine zx ?_
    exact zv (zq U zu) H
   ·intro hb
    replace H:=H.2 (zo (zL hb))
    refine ze ?_
    refine zc U ?_
    refine za (zd (v:=.pointer (some ⟨b13,o14,none⟩)) e0 ?_)
    refine za (zf U fo_43_0 ?_)
    obtain⟨x51,c52,H⟩:=H
    refine za (zk U ag_3 c52 ?_)
    refine za (zG (vs:=[.pointer (some ⟨b13,o14,none⟩),.int .i64 x51]) en_66 (zm U (zm U zy)) (CallsH.mono H ?_))
    clear H
    rintro _ h53 ⟨x55,rfl,H⟩
    refine za (zg (v:=.bool x55) U ?_)
    refine zh ?_
    refine zz (x55) U ?_ ?_
    ·intro hb
     replace H:=H.1 hb
     refine ze ?_
     refine wpf_forget ?_
     intro fg56 hfg56
     clear hfg56
     refine zc U ?_
     refine za (zg (v:=.int .i64 7) U ?_)
     refine zh ?_
     refine zx ?_
     exact zv (zq U zu) H
    ·intro hb
     replace H:=H.2 hb
     refine ze ?_
     refine wpf_forget ?_
     intro fg57 hfg57
     have ag57_0:fg57 0=(Value.pointer (some ⟨b13,o14,none⟩)):=by rw [hfg57]; exact e0
     have ag57_1:fg57 3=(Value.pointer (some ⟨h.size,0,none⟩)):=by rw [hfg57]; exact rfl
     have ag57_2:fg57 5=(Value.pointer (some ⟨h1.size,0,none⟩)):=by rw [hfg57]; exact rfl
     clear hfg57
     obtain⟨x58,c59,H⟩:=H
     refine zO Gfu 1 [(Y (some ⟨b13,o14,none⟩)),(Y (some ⟨b13,o14,none⟩)),(Y (some ⟨b13,o14+1,none⟩)),(Y x58),undef,undef,undef,undef,undef,undef,undef,undef,undef,undef,undef,undef,undef,undef] (by kernel_rfl) U mixed_PR ?_
     refine zA [4] (by decide) U (zw [0,1,2,3] U ⟨zb U U (zd (v:=.pointer (some ⟨b13,o14,none⟩)) ag57_0 ⟨U,U⟩),zb U U (zj U ⟨U,U⟩),zb U U (zf U fo_156_1 ⟨U,U⟩),zb U U (zk U ag_150 c59 ⟨U,U⟩),V⟩) U ⟨?_,V⟩
     refine zb U U (zG (vs:=[.pointer x58]) en_67 (zm U zy) (CallsH.mono H ?_))
     clear H
     rintro _ h60 ⟨x62a,x62n,x62c,rfl,H⟩
     obtain⟨x64,c65,H⟩:=H
     obtain⟨x66,c67,H⟩:=H
     obtain⟨l68,n69,c70,H⟩:=H
     obtain⟨x71,c72,H⟩:=H
     refine⟨[(Value.pointer (some ⟨b13,o14,none⟩)),(Value.pointer (some ⟨b13,o14,none⟩)),(Value.pointer (some ⟨b13,o14+1,none⟩)),(Value.pointer x58),(Value.slice x62a x62n x62c),(Value.int .i64 (x62n:Int)),(Value.bool (decide (64≤(x62n:Int)))),(Value.bool (decide (64≤(x62n:Int)))),(bif decide (64≤(x62n:Int)) then (Value.pointer (some ⟨b13,o14,none⟩)) else undef),(bif decide (64≤(x62n:Int)) then (Value.pointer (some ⟨b13,o14,none⟩)) else undef),(bif decide (64≤(x62n:Int)) then (Value.pointer (some ⟨b13,o14+4,none⟩)) else undef),(bif decide (64≤(x62n:Int)) then (Value.map x64) else undef),(bif decide (64≤(x62n:Int)) then (Value.pointer (some ⟨h.size,0,none⟩)) else undef),(bif decide (64≤(x62n:Int)) then (Value.int .i64 x66) else undef),(bif decide (64≤(x62n:Int)) then (Value.pointer x71) else undef),(bif decide (64≤(x62n:Int)) then (Value.bool x71.isNone) else undef),(Value.bool ((decide (64≤(x62n:Int))) && x71.isNone)),(Value.bool ((decide (64≤(x62n:Int))) && x71.isNone))],rfl,(zH [0,1,2,3] rfl ⟨rfl,rfl,rfl,rfl,trivial⟩),?_⟩
     refine zJ U (zw [5,6,7,8,9,10,11,12,13,14,15,16,17] U ⟨zb U U (zN U un_107 ⟨U,U⟩),zb U U (op_geq U U ⟨U,U⟩),zb U U (zd (v:=.bool (decide (64≤(x62n:Int)))) U ⟨U,U⟩),zr (b:=decide (64≤(x62n:Int))) U U (zi U U) (fun hb=>zd (v:=.pointer (some ⟨b13,o14,none⟩)) ag57_0 ⟨zs hb,U⟩) (fun hb=>⟨zp hb,U⟩),zr (b:=decide (64≤(x62n:Int))) U U (zi U U) (fun hb=>zj (gv hb) ⟨zs hb,U⟩) (fun hb=>⟨zp hb,U⟩),zr (b:=decide (64≤(x62n:Int))) U U (zi U U) (fun hb=>zf (gv hb) fo_156_4 ⟨zs hb,U⟩) (fun hb=>⟨zp hb,U⟩),zr (b:=decide (64≤(x62n:Int))) U U (zi U U) (fun hb=>zk (gv hb) ag_153 (c65 (zo hb)) ⟨zs hb,U⟩) (fun hb=>⟨zp hb,U⟩),zr (b:=decide (64≤(x62n:Int))) U U (zi U U) (fun hb=>zf ag57_1 fo_43_0 ⟨zs hb,U⟩) (fun hb=>⟨zp hb,U⟩),zr (b:=decide (64≤(x62n:Int))) U U (zi U U) (fun hb=>zk (gv hb) ag_3 (c67 (zo hb)) ⟨zs hb,U⟩) (fun hb=>⟨zp hb,U⟩),zr (b:=decide (64≤(x62n:Int))) U U (zi U U) (fun hb=>yh (zZ .i64) mt_153 z_161 (gv hb) (gv hb) (c70 (zo hb)) (c72 (zo hb)) ⟨zs hb,U⟩) (fun hb=>⟨zp hb,U⟩),zr (b:=decide (64≤(x62n:Int))) U U (zi U U) (fun hb=>op_eq_ptr_nil (gv hb) U un_161 ⟨zs hb,U⟩) (fun hb=>⟨zp hb,U⟩),zb U U (zV U (fun hq=>(gv hq)) U ⟨U,U⟩),zb U U (zg (v:=.bool ((decide (64≤(x62n:Int))) && x71.isNone)) U ⟨U,U⟩),V⟩) U ?_
     refine zz ((decide (64≤(x62n:Int))) && x71.isNone) U ?_ ?_
     ·intro hb
      replace H:=H.1 hb
      refine ze ?_
      refine zc U ?_
      refine za (zg (v:=.int .i64 4) U ?_)
      refine zh ?_
      refine zx ?_
      exact zv (zq U zu) H
     ·intro hb
      replace H:=H.2 hb
      refine zC ?_
      refine ze ?_
      refine ze ?_
      obtain⟨x74,c75,H⟩:=H
      obtain⟨x76,c77,H⟩:=H
      obtain⟨x78,c79,H⟩:=H
      refine zO Gfo 1 [(Y (some ⟨b13,o14,none⟩)),(Y (some ⟨b13,o14,none⟩)),(Y (some ⟨b13,o14+3,none⟩)),(Y x74),(Y (some ⟨h.size,0,none⟩)),(Z .i64 x76),(Y (some ⟨h.size,2,none⟩)),(Z .u64 x78),undef,undef] (by kernel_rfl) U mixed_PR ?_
      refine zA [8] (by decide) U (zw [0,1,2,3,4,5,6,7] U ⟨zb U U (zd (v:=.pointer (some ⟨b13,o14,none⟩)) ag57_0 ⟨U,U⟩),zb U U (zj U ⟨U,U⟩),zb U U (zf U fo_156_3 ⟨U,U⟩),zb U U (zk U ag_152 c75 ⟨U,U⟩),zb U U (zf ag57_1 fo_43_0 ⟨U,U⟩),zb U U (zk U ag_3 c77 ⟨U,U⟩),zb U U (zf ag57_1 fo_43_2 ⟨U,U⟩),zb U U (zk U ag_37 c79 ⟨U,U⟩),V⟩) U ⟨?_,V⟩
      refine zb U U (zG (vs:=[.pointer x74,.int .i64 x76,.int .u64 x78]) en_68 (zm U (zm U (zm U zy))) (CallsH.mono H ?_))
      clear H
      rintro _ h80 ⟨x82,rfl,H⟩
      refine⟨[(Value.pointer (some ⟨b13,o14,none⟩)),(Value.pointer (some ⟨b13,o14,none⟩)),(Value.pointer (some ⟨b13,o14+3,none⟩)),(Value.pointer x74),(Value.pointer (some ⟨h.size,0,none⟩)),(Value.int .i64 x76),(Value.pointer (some ⟨h.size,2,none⟩)),(Value.int .u64 x78),(Value.int .i64 x82),(Value.int .i64 x82)],rfl,(zH [0,1,2,3,4,5,6,7] rfl ⟨rfl,rfl,rfl,rfl,rfl,rfl,rfl,rfl,trivial⟩),?_⟩
      refine zJ U (zw [9] U ⟨zb U U (zg (v:=.int .i64 x82) U ⟨U,U⟩),V⟩) U ?_
      refine ze ?_
      refine zc U ?_
      refine za (zd (v:=.int .i64 x82) U ?_)
      refine za (op_neq U U ?_)
      refine zh ?_
      refine zz (!decide (x82=0)) U ?_ ?_
      ·intro hb
       replace H:=H.1 (zn (zt hb))
       refine ze ?_
       refine zc U ?_
       refine za (zd (v:=.int .i64 x82) U ?_)
       refine za (zg (v:=.int .i64 x82) U ?_)
       refine zh ?_
       refine zx ?_
       exact zv (zq U zu) H
      ·intro hb
       replace H:=H.2 (zo (zL hb))
       refine zC ?_
       refine ze ?_
       obtain⟨x84,c85,H⟩:=H
       obtain⟨x86_0,x86_1,x86_2,c87,H⟩:=H
       refine zO Gfp 1 [(Y (some ⟨b13,o14,none⟩)),(Y (some ⟨b13,o14,none⟩)),(Y (some ⟨b13,o14+1,none⟩)),(Y x84),(X #[.int .i64 x86_0,.int .u64 x86_1,.int .i64 x86_2]),undef] (by kernel_rfl) U mixed_PR ?_
       refine zA [5] (by decide) U (zw [0,1,2,3,4] U ⟨zb U U (zd (v:=.pointer (some ⟨b13,o14,none⟩)) ag57_0 ⟨U,U⟩),zb U U (zj U ⟨U,U⟩),zb U U (zf U fo_156_1 ⟨U,U⟩),zb U U (zk U ag_150 c85 ⟨U,U⟩),zb U U (zS ag57_2 ag_148 c87 ⟨U,U⟩),V⟩) U ⟨?_,V⟩
       refine zb U U (zG (vs:=[.pointer x84,.agg #[.int .i64 x86_0,.int .u64 x86_1,.int .i64 x86_2]]) en_69 (zm U (zm U zy)) (CallsH.mono H ?_))
       clear H
       rintro _ h88 ⟨x90,rfl,H⟩
       refine⟨[(Value.pointer (some ⟨b13,o14,none⟩)),(Value.pointer (some ⟨b13,o14,none⟩)),(Value.pointer (some ⟨b13,o14+1,none⟩)),(Value.pointer x84),(Value.agg #[.int .i64 x86_0,.int .u64 x86_1,.int .i64 x86_2]),(Value.int .i64 x90)],rfl,(zH [0,1,2,3,4] rfl ⟨rfl,rfl,rfl,rfl,rfl,trivial⟩),?_⟩
       refine zJ U (zw [] U V) U ?_
       refine ze ?_
       obtain⟨x91,c92,H⟩:=H
       obtain⟨x93_0,x93_1,c94,H⟩:=H
       refine zO Gfq 1 [(Y (some ⟨b13,o14,none⟩)),(Y (some ⟨b13,o14,none⟩)),(Y (some ⟨b13,o14,none⟩)),(Y x91),(Y (some ⟨h.size,4,none⟩)),(Y (some ⟨h.size,4,none⟩)),(X #[.int .i64 x93_0,.int .u64 x93_1]),undef] (by kernel_rfl) U mixed_PR ?_
       refine zA [7] (by decide) U (zw [0,1,2,3,4,5,6] U ⟨zb U U (zd (v:=.pointer (some ⟨b13,o14,none⟩)) ag57_0 ⟨U,U⟩),zb U U (zj U ⟨U,U⟩),zb U U (zf U fo_156_0 ⟨U,U⟩),zb U U (zk U ag_27 c92 ⟨U,U⟩),zb U U (zf ag57_1 fo_43_4 ⟨U,U⟩),zb U U (zf U fo_41_0 ⟨U,U⟩),zb U U (zS U ag_39 c94 ⟨U,U⟩),V⟩) U ⟨?_,V⟩
       refine zb U U (zG (vs:=[.pointer x91,.agg #[.int .i64 x93_0,.int .u64 x93_1],.int .i64 1,.int .i64 2]) en_70 (zm U (zm U (zm U (zm U zy)))) (CallsH.mono H ?_))
       clear H
       rintro _ h95 ⟨x97,rfl,H⟩
       refine⟨[(Value.pointer (some ⟨b13,o14,none⟩)),(Value.pointer (some ⟨b13,o14,none⟩)),(Value.pointer (some ⟨b13,o14,none⟩)),(Value.pointer x91),(Value.pointer (some ⟨h.size,4,none⟩)),(Value.pointer (some ⟨h.size,4,none⟩)),(Value.agg #[.int .i64 x93_0,.int .u64 x93_1]),(Value.int .i64 x97)],rfl,(zH [0,1,2,3,4,5,6] rfl ⟨rfl,rfl,rfl,rfl,rfl,rfl,rfl,trivial⟩),?_⟩
       refine zJ U (zw [] U V) U ?_
       refine ze ?_
       obtain⟨x98,c99,H⟩:=H
       obtain⟨x100,c101,H⟩:=H
       obtain⟨x102_0,x102_1,x102_2,x102_3,x102_4,x102_5,x102_6,x102_7,c103,H⟩:=H
       refine zO Gfr 2 [(Y (some ⟨b13,o14,none⟩)),(Y (some ⟨b13,o14,none⟩)),(Y (some ⟨b13,o14+4,none⟩)),(Value.map x98),(Y (some ⟨h.size,0,none⟩)),(Z .i64 x100),(X #[.int .i64 x102_0,.int .i64 x102_1,.int .u64 x102_2,.int .i64 x102_3,.int .i64 x102_4,.int .u64 x102_5,.int .i64 x102_6,.int .i64 x102_7]),(X #[.int .i64 x102_0,.int .i64 x102_1,.int .u64 x102_2,.int .i64 x102_3,.int .i64 x102_4,.int .u64 x102_5,.int .i64 x102_6,.int .i64 x102_7,.int .i64 (-1),.int .i64 2]),undef,undef] (by kernel_rfl) U mixed_PR ?_
       refine zA [8] (by decide) U (zw [0,1,2,3,4,5,6,7] U ⟨zb U U (zd (v:=.pointer (some ⟨b13,o14,none⟩)) ag57_0 ⟨U,U⟩),zb U U (zj U ⟨U,U⟩),zb U U (zf U fo_156_4 ⟨U,U⟩),zb U U (zk U ag_153 c99 ⟨U,U⟩),zb U U (zf ag57_1 fo_43_0 ⟨U,U⟩),zb U U (zk U ag_3 c101 ⟨U,U⟩),zb U U (zS ag57_1 ag_43 c103 ⟨U,U⟩),zb U U (op_buildL (vs:=[(0,.agg #[.int .i64 x102_0,.int .i64 x102_1,.int .u64 x102_2,.int .i64 x102_3,.int .i64 x102_4,.int .u64 x102_5,.int .i64 x102_6,.int .i64 x102_7]),(1,.int .i64 (-1)),(2,.int .i64 2)]) (cs:=[.int .i64 x102_0,.int .i64 x102_1,.int .u64 x102_2,.int .i64 x102_3,.int .i64 x102_4,.int .u64 x102_5,.int .i64 x102_6,.int .i64 x102_7,.int .i64 (-1),.int .i64 2]) z_166 fs_166 (zM U (zM U (zM U zT))) U ⟨U,U⟩),V⟩) U ⟨?_,V⟩
       obtain⟨h104,c105⟩ : ∃ h104,h104=h95.push (.cells #[.int .i64 x102_0,.int .i64 x102_1,.int .u64 x102_2,.int .i64 x102_3,.int .i64 x102_4,.int .u64 x102_5,.int .i64 x102_6,.int .i64 x102_7,.int .i64 (-1),.int .i64 2] 166 (0,0)):=⟨_,rfl⟩
       replace H:=H h104 c105
       refine zb U U (yd (v:=.agg #[.int .i64 x102_0,.int .i64 x102_1,.int .u64 x102_2,.int .i64 x102_3,.int .i64 x102_4,.int .u64 x102_5,.int .i64 x102_6,.int .i64 x102_7,.int .i64 (-1),.int .i64 2]) U c105 ?_)
       obtain⟨c106,H⟩:=H
       obtain⟨c107,H⟩:=H
       refine⟨[(Value.pointer (some ⟨b13,o14,none⟩)),(Value.pointer (some ⟨b13,o14,none⟩)),(Value.pointer (some ⟨b13,o14+4,none⟩)),(Value.map x98),(Value.pointer (some ⟨h.size,0,none⟩)),(Value.int .i64 x100),(Value.agg #[.int .i64 x102_0,.int .i64 x102_1,.int .u64 x102_2,.int .i64 x102_3,.int .i64 x102_4,.int .u64 x102_5,.int .i64 x102_6,.int .i64 x102_7]),(Value.agg #[.int .i64 x102_0,.int .i64 x102_1,.int .u64 x102_2,.int .i64 x102_3,.int .i64 x102_4,.int .u64 x102_5,.int .i64 x102_6,.int .i64 x102_7,.int .i64 (-1),.int .i64 2]),(Value.pointer (some ⟨h95.size,0,none⟩)),undef],rfl,(zH [0,1,2,3,4,5,6,7] rfl ⟨rfl,rfl,rfl,rfl,rfl,rfl,rfl,rfl,trivial⟩),?_⟩
       refine zA [9] (by decide) U (zw [0,1,2,3,4,5] U ⟨zb U U (zd (v:=.pointer (some ⟨b13,o14,none⟩)) ag57_0 ⟨U,U⟩),zb U U (zj U ⟨U,U⟩),zb U U (zf U fo_156_4 ⟨U,U⟩),zb U U (zk U ag_153 c106 ⟨U,U⟩),zb U U (zf ag57_1 fo_43_0 ⟨U,U⟩),zb U U (zk U ag_3 c107 ⟨U,U⟩),V⟩) U ⟨?_,V⟩
       obtain⟨r108,rfl,H⟩:=H
       obtain⟨l109,n110,c112,H⟩:=H
       obtain⟨h113,c114⟩ : ∃ h113,h113=h104.setIfInBounds r108 (mobj (Value.int .i64) (mput l109 x100 (Value.pointer (some ⟨h95.size,0,none⟩)) n110) (mclk l109 x100 n110)):=⟨_,rfl⟩
       replace H:=H h113 c114
       refine zb U U (op_mapUpdate' (v:=.pointer (some ⟨h95.size,0,none⟩)) (zZ .i64) mt_153 U U U c112 c114 ?_)
       refine⟨[(Value.pointer (some ⟨b13,o14,none⟩)),(Value.pointer (some ⟨b13,o14,none⟩)),(Value.pointer (some ⟨b13,o14+4,none⟩)),(Value.map (some r108)),(Value.pointer (some ⟨h.size,0,none⟩)),(Value.int .i64 x100),(Value.agg #[.int .i64 x102_0,.int .i64 x102_1,.int .u64 x102_2,.int .i64 x102_3,.int .i64 x102_4,.int .u64 x102_5,.int .i64 x102_6,.int .i64 x102_7]),(Value.agg #[.int .i64 x102_0,.int .i64 x102_1,.int .u64 x102_2,.int .i64 x102_3,.int .i64 x102_4,.int .u64 x102_5,.int .i64 x102_6,.int .i64 x102_7,.int .i64 (-1),.int .i64 2]),(Value.pointer (some ⟨h95.size,0,none⟩)),undef],rfl,(zH [0,1,2,3,4,5,6,7,8] rfl ⟨rfl,rfl,rfl,rfl,rfl,rfl,rfl,rfl,rfl,trivial⟩),?_⟩
       refine zJ U (zw [] U V) U ?_
       refine ze ?_
       refine zc U ?_
       refine za (zg (v:=.int .i64 0) U ?_)
       refine zh ?_
       refine zx ?_
       exact zv (zq U zu) H
 ·intro hb
  refine zG (vs:=[.agg #[.int .i64 x35_0,.int .u64 x35_1,.int .i64 x35_2]]) en_65 (zm (gv hb) zy) (CallsH.mono (HT (zt hb)) ?_)
  rintro _ h37 ⟨x39,rfl,hJ⟩
  exact⟨x39,zs hb,hJ⟩
 ·intro hb
  obtain⟨x39,hJ⟩:=HF (zL hb)
  exact⟨x39,zp hb,hJ⟩
def Gfm:Cert:=⟨[[],[0],[0,1],[0,1,2],[],[4],[0,1,2,3,4,5],[0,1,2,3,4,5,6]],[false,false,false,false,false,false,false,false]⟩
def Gfn:Cert:=⟨[[],[0],[0,1],[0,1,2],[],[4],[4,5],[4,5,6],[4,5,6,7],[],[9],[],[11],[11,12],[11,12,13],[11,12,13,14],[11,12,13,14,15],[],[17],[17,18],[17,18,19],[17,18,19,20],[17,18,19,20,21],[],[23],[23,24],[23,24,25],[23,24,25,26],[23,24,25,26,27],[4,5,6,7,8,9,10,11,12,13,14,15,16,17,18,19,20,21,22,23,24,25,26,27,28],[0,1,2,3,4,5,6,7,8,9,10,11,12,13,14,15,16,17,18,19,20,21,22,23,24,25,26,27,28,29],[0,1,2,3,4,5,6,7,8,9,10,11,12,13,14,15,16,17,18,19,20,21,22,23,24,25,26,27,28,29,30],[0,1,2,3,4,5,6,7,8,9,10,11,12,13,14,15,16,17,18,19,20,21,22,23,24,25,26,27,28,29,30,31],[0,1,2,3,4,5,6,7,8,9,10,11,12,13,14,15,16,17,18,19,20,21,22,23,24,25,26,27,28,29,30,31],[0,1,2,3,4,5,6,7,8,9,10,11,12,13,14,15,16,17,18,19,20,21,22,23,24,25,26,27,28,29,30,31,32],[0,1,2,3,4,5,6,7,8,9,10,11,12,13,14,15,16,17,18,19,20,21,22,23,24,25,26,27,28,29,30,31,32,33,34]],[false,false,false,false,false,false,false,false,false,false,false,false,false,false,false,false,false,false,false,false,false,false,false,false,false,false,false,false,false,false,true,false,false,false,false,false]⟩
def Gfl:Cert:=⟨[[],[],[1],[1,2],[1,2,3],[],[],[],[7],[7,8],[7,8,9],[0,1,2,3,4,6],[0,1,2,3,4,6,11],[0,1,2,3,4,6,11,12],[0,1,2,3,4,5,6,11,12,13],[0,1,2,3,4,5,6,11,12,13,14],[0,1,2,3,4,5,6,7,8,9,10,11,12,13,14,15]],[false,false,false,false,false,false,false,false,false,false,true,false,false,true,true,false,true]⟩
def Gaq (p0:Option Addr) (K:Option Addr→Nat→Nat→Heap→Prop) (h:Heap):Prop:=
 ∃ (I2:Option Addr→Nat→Nat→Heap→Prop) (mu3:Option Addr→Nat→Nat→Heap→Nat),I2 none 0 0 h∧∀ (x1a:Option Addr) (x1n:Nat) (x1c:Nat) (h5:Heap),I2 x1a x1n x1c h5→∃ (b6:Nat) (o7:Nat),p0=some ⟨b6,o7,none⟩∧∃ (x9:Option Addr),cellH h5 b6 (o7+1)=some (.pointer x9)∧CallsH PR Glb #[.pointer x9] h5 (fun v h11=>∃ (x13_0:Int) (x13_1:Int) (x13_2:Int) (x14:Int),v=(Value.tuple #[.agg #[.int .i64 x13_0,.int .u64 x13_1,.int .i64 x13_2],.int .i64 x14])∧∀ (h15:Heap),h15=h11.push (.cells #[.int .i64 0,.int .u64 0,.int .i64 0] 148 (0,0))→∃ (h18:Heap),stCells h11.size h15 0 [.int .i64 x13_0,.int .u64 x13_1,.int .i64 x13_2]=some h18∧((¬ (x14=0))→K x1a x1n x1c h18)∧(x14=0→∃ (x20:Option Nat),cellH h18 b6 (o7+4)=some (.map x20)∧∃ (x22:Int),cellH h18 h11.size 0=some (.int .i64 x22)∧∃ (l24:List (ME Int)) (n25:Nat),mapAt (Value.int .i64) h18 x20 l24 n25∧∃ (x27:Option Addr),(mlook l24 x22).getD (Value.pointer none)=(Value.pointer x27)∧∃ (x29:Option Addr),cellH h18 b6 (o7+2)=some (.pointer x29)∧∃ (b31:Nat) (o32:Nat),x27=some ⟨b31,o32,none⟩∧∃ (x34:Int),cellH h18 b31 (o32+1)=some (.int .i64 x34)∧∃ (x36:Int),cellH h18 h11.size 0=some (.int .i64 x36)∧∃ (x38_0:Int) (x38_1:Int),ldCells h18 b31 (o32+4) 2=some [.int .i64 x38_0,.int .u64 x38_1]∧∃ (x40:Int),cellH h18 b31 (o32+6)=some (.int .i64 x40)∧∃ (x42:Int),cellH h18 b31 (o32+7)=some (.int .i64 x42)∧CallsH PR Gm8 #[.pointer x29,.agg #[.int .i64 x34,.int .i64 x36,.int .i64 x38_0,.int .u64 x38_1,.int .i64 x40,.int .i64 x42,.bool false,.bool false,.int .i64 0]] h18 (fun v h44=>∃ (x46:Int) (x47:Int),v=(Value.tuple #[.int .i64 x46,.int .i64 x47])∧((¬ (x47=0))→K x1a x1n x1c h44)∧(x47=0→∃ (x49:Option Addr),cellH h44 b6 (o7+1)=some (.pointer x49)∧CallsH PR Glc #[.pointer x49] h44 (fun v h51=>∃ (x53_0:Int) (x53_1:Int) (x53_2:Int) (x54:Int),v=(Value.tuple #[.agg #[.int .i64 x53_0,.int .u64 x53_1,.int .i64 x53_2],.int .i64 x54])∧∃ J56:Heap→Prop,(∀ (h58:Heap),J56 h58→∃ (x59:Int),cellH h58 h11.size 0=some (.int .i64 x59)∧∀ (h61:Heap),h61=h58.push (.cells #[.int .i64 x59] 3 (0,0))→appH 3 1 8 (Value.int .i64 0) x1a x1n x1c 1 ([.int .i64 x59]) h61 (fun a67 n68 q69 h70=>(I2 a67 n68 q69 h70∧mu3 a67 n68 q69 h70<mu3 x1a x1n x1c h5)))∧∃ (x71:Option Nat),cellH h51 b6 (o7+5)=some (.map x71)∧∃ (x73:Int),cellH h51 h11.size 0=some (.int .i64 x73)∧(∀ (h75:Heap),h75=h51.push (.cells #[.int .i64 x73,.bool false,.bool false,.bool false,.bool false] 172 (0,0))→cellH h75 b6 (o7+5)=some (Value.map x71)∧∃ (h79:Heap),stCells b31 h75 (o32+8) [.int .i64 x46]=some h79∧∃ (r80:Nat),x71=some r80∧∃ (l81:List (ME Int)) (n82:Nat),h79[r80]? = some (mobj (Value.int .i64) l81 n82)∧∀ (h85:Heap),h85=h79.setIfInBounds r80 (mobj (Value.int .i64) (mput l81 x46 ((mlook l81 x46).getD (Value.pointer none)) n82) (mclk l81 x46 n82))→(h85[r80]? = some (mobj (Value.int .i64) (mput l81 x46 ((mlook l81 x46).getD (Value.pointer none)) n82) (mclk l81 x46 n82))∧mapOk l81 n82)∧∀ (h87:Heap),h87=h85.setIfInBounds r80 (mobj (Value.int .i64) (mput l81 x46 (Value.pointer (some ⟨h51.size,0,none⟩)) n82) (mclk l81 x46 n82))→J56 h87)∧(∃ (h91:Heap),stCells b31 h51 (o32+8) [.int .i64 x46]=some h91∧cellH h91 h11.size 0=some (Value.int .i64 x73)∧(∀ (h93:Heap),h93=h91.push (.cells #[.int .i64 x73,.bool false,.bool false,.bool false,.bool false] 172 (0,0))→∃ (r95:Nat),x71=some r95∧∃ (l96:List (ME Int)) (n97:Nat),h93[r95]? = some (mobj (Value.int .i64) l96 n97)∧∀ (h100:Heap),h100=h93.setIfInBounds r95 (mobj (Value.int .i64) (mput l96 x46 ((mlook l96 x46).getD (Value.pointer none)) n97) (mclk l96 x46 n97))→(h100[r95]? = some (mobj (Value.int .i64) (mput l96 x46 ((mlook l96 x46).getD (Value.pointer none)) n97) (mclk l96 x46 n97))∧mapOk l96 n97)∧∀ (h102:Heap),h102=h100.setIfInBounds r95 (mobj (Value.int .i64) (mput l96 x46 (Value.pointer (some ⟨h91.size,0,none⟩)) n97) (mclk l96 x46 n97))→J56 h102)∧(∃ (r105:Nat),x71=some r105∧∃ (l106:List (ME Int)) (n107:Nat),h91[r105]? = some (mobj (Value.int .i64) l106 n107)∧∀ (h110:Heap),h110=h91.setIfInBounds r105 (mobj (Value.int .i64) (mput l106 x46 ((mlook l106 x46).getD (Value.pointer none)) n107) (mclk l106 x46 n107))→cellH h110 h11.size 0=some (Value.int .i64 x73)∧∀ (h113:Heap),h113=h110.push (.cells #[.int .i64 x73,.bool false,.bool false,.bool false,.bool false] 172 (0,0))→(h113[r105]? = some (mobj (Value.int .i64) (mput l106 x46 ((mlook l106 x46).getD (Value.pointer none)) n107) (mclk l106 x46 n107))∧mapOk l106 n107)∧∀ (h115:Heap),h115=h113.setIfInBounds r105 (mobj (Value.int .i64) (mput l106 x46 (Value.pointer (some ⟨h110.size,0,none⟩)) n107) (mclk l106 x46 n107))→J56 h115)))))))
theorem Gar (p0:Option Addr) (R:Value→Heap→Prop) (h:Heap) (H:Gaq p0 (fun r0a r0n r0c h'=>R (Value.slice r0a r0n r0c) h') h):CallsH PR Gid #[.pointer p0] h R:=by
 refine zD (args:=[.pointer p0]) Tryz.func17 U U ?_
 intro f hf
 have e0:=hf 0 _ rfl
 clear hf
 unfold Gaq at H
 refine ze ?_
 refine zc U ?_
 refine za (zg (v:=.slice none 0 0) U ?_)
 refine zh ?_
 refine ze ?_
 refine zc U ?_
 refine za (zg (v:=.slice none 0 0) U ?_)
 refine zh ?_
 refine zK ?_
 obtain⟨I2,mu3,hI,H⟩:=H
 obtain⟨I4,mu4,hin4,hout4,hmu4⟩ : ∃ (J4:Fr→Heap→Prop) (m:Fr→Heap→Nat),(∀ f hz (x1a:Option Addr) (x1n:Nat) (x1c:Nat),f 3 = .slice x1a x1n x1c→f 0 = .pointer p0→I2 x1a x1n x1c hz→J4 f hz)∧(∀ f hz,J4 f hz→∃ (x1a:Option Addr) (x1n:Nat) (x1c:Nat),f 3 = .slice x1a x1n x1c∧f 0 = .pointer p0∧I2 x1a x1n x1c hz)∧(∀ f hz (x1a:Option Addr) (x1n:Nat) (x1c:Nat),f 3 = .slice x1a x1n x1c→m f hz=mu3 x1a x1n x1c hz):=⟨fun f hz=>∃ (x1a:Option Addr) (x1n:Nat) (x1c:Nat),f 3 = .slice x1a x1n x1c∧f 0 = .pointer p0∧I2 x1a x1n x1c hz,fun f hz=>mu3 (dSlA (f 3)) (dSlN (f 3)) (dSlC (f 3)) hz,fun _ _ x1a x1n x1c a0 a1 z=>⟨x1a,x1n,x1c,a0,a1,z⟩,fun _ _ hz=>hz,fun f hz x1a x1n x1c a0=>by simp only [a0]; rfl⟩
 refine yb I4 mu4 (hin4 _ _ _ _ _ U e0 hI) ?_
 clear hI
 intro f h5 hf
 obtain⟨x1a,x1n,x1c,a4_0,a4_1,hJ⟩:=hout4 _ _ hf
 replace H:=H x1a x1n x1c h5 hJ
 refine zK ?_
 refine ze ?_
 refine zc U ?_
 refine za (zd (v:=.pointer p0) a4_1 ?_)
 obtain⟨b6,o7,rfl,H⟩:=H
 refine za (zj U ?_)
 refine za (zf U fo_156_1 ?_)
 obtain⟨x9,c10,H⟩:=H
 refine za (zk U ag_150 c10 ?_)
 refine za (zG (vs:=[.pointer x9]) en_71 (zm U zy) (CallsH.mono H ?_))
 clear H
 rintro _ h11 ⟨x13_0,x13_1,x13_2,x14,rfl,H⟩
 refine za (zd (v:=.tuple #[.agg #[.int .i64 x13_0,.int .u64 x13_1,.int .i64 x13_2],.int .i64 x14]) U ?_)
 refine za (zB U U ?_)
 refine za (zB U U ?_)
 obtain⟨h15,c16⟩ : ∃ h15,h15=h11.push (.cells #[.int .i64 0,.int .u64 0,.int .i64 0] 148 (0,0)):=⟨_,rfl⟩
 replace H:=H h15 c16
 refine za (zW z_148 c16 ?_)
 obtain⟨h18,c17,H⟩:=H
 refine za (zI (v:=.agg #[.int .i64 x13_0,.int .u64 x13_1,.int .i64 x13_2]) U U sz_148 U c17 ?_)
 refine za (zg (v:=.int .i64 x14) U ?_)
 refine zh ?_
 refine ze ?_
 refine ze ?_
 refine zc U ?_
 refine za (zd (v:=.int .i64 x14) U ?_)
 refine za (op_neq U U ?_)
 refine zh ?_
 refine zz (!decide (x14=0)) U ?_ ?_
 ·intro hb
  replace H:=H.1 (zn (zt hb))
  refine ze ?_
  refine zc U ?_
  refine za (zd (v:=.slice x1a x1n x1c) a4_0 ?_)
  refine za (zg (v:=.slice x1a x1n x1c) U ?_)
  refine zh ?_
  refine zx ?_
  exact zv (zq U zu) H
 ·intro hb
  replace H:=H.2 (zo (zL hb))
  refine zC ?_
  refine ze ?_
  obtain⟨x20,c21,H⟩:=H
  obtain⟨x22,c23,H⟩:=H
  obtain⟨l24,n25,c26,H⟩:=H
  obtain⟨x27,c28,H⟩:=H
  refine zO Gfm 0 [(Y (some ⟨b6,o7,none⟩)),(Y (some ⟨b6,o7,none⟩)),(Y (some ⟨b6,o7+4,none⟩)),(Value.map x20),(Y (some ⟨h11.size,0,none⟩)),(Z .i64 x22),(Y x27),(Y x27)] (by kernel_rfl) U mixed_PR ?_
  refine zJ U (zw [0,1,2,3,4,5,6,7] U ⟨zb U U (zd (v:=.pointer (some ⟨b6,o7,none⟩)) a4_1 ⟨U,U⟩),zb U U (zj U ⟨U,U⟩),zb U U (zf U fo_156_4 ⟨U,U⟩),zb U U (zk U ag_153 c21 ⟨U,U⟩),zb U U (zf U fo_148_0 ⟨U,U⟩),zb U U (zk U ag_3 c23 ⟨U,U⟩),zb U U (yh (zZ .i64) mt_153 z_161 U U c26 c28 ⟨U,U⟩),zb U U (zg (v:=.pointer x27) U ⟨U,U⟩),V⟩) U ?_
  refine ze ?_
  obtain⟨x29,c30,H⟩:=H
  obtain⟨b31,o32,rfl,H⟩:=H
  obtain⟨x34,c35,H⟩:=H
  obtain⟨x36,c37,H⟩:=H
  obtain⟨x38_0,x38_1,c39,H⟩:=H
  obtain⟨x40,c41,H⟩:=H
  obtain⟨x42,c43,H⟩:=H
  refine zO Gfn 1 [(Y (some ⟨b6,o7,none⟩)),(Y (some ⟨b6,o7,none⟩)),(Y (some ⟨b6,o7+2,none⟩)),(Y x29),(Y (some ⟨b31,o32,none⟩)),(Y (some ⟨b31,o32,none⟩)),(Y (some ⟨b31,o32,none⟩)),(Y (some ⟨b31,o32+1,none⟩)),(Z .i64 x34),(Y (some ⟨h11.size,0,none⟩)),(Z .i64 x36),(Y (some ⟨b31,o32,none⟩)),(Y (some ⟨b31,o32,none⟩)),(Y (some ⟨b31,o32,none⟩)),(Y (some ⟨b31,o32+4,none⟩)),(Y (some ⟨b31,o32+4,none⟩)),(X #[.int .i64 x38_0,.int .u64 x38_1]),(Y (some ⟨b31,o32,none⟩)),(Y (some ⟨b31,o32,none⟩)),(Y (some ⟨b31,o32,none⟩)),(Y (some ⟨b31,o32+4,none⟩)),(Y (some ⟨b31,o32+6,none⟩)),(Z .i64 x40),(Y (some ⟨b31,o32,none⟩)),(Y (some ⟨b31,o32,none⟩)),(Y (some ⟨b31,o32,none⟩)),(Y (some ⟨b31,o32+4,none⟩)),(Y (some ⟨b31,o32+7,none⟩)),(Z .i64 x42),(X #[.int .i64 x34,.int .i64 x36,.int .i64 x38_0,.int .u64 x38_1,.int .i64 x40,.int .i64 x42,.bool false,.bool false,.int .i64 0]),undef,undef,undef,undef,undef,undef] (by kernel_rfl) U mixed_PR ?_
  refine zA [30] (by decide) U (zw [0,1,2,3,4,5,6,7,8,9,10,11,12,13,14,15,16,17,18,19,20,21,22,23,24,25,26,27,28,29] U ⟨zb U U (zd (v:=.pointer (some ⟨b6,o7,none⟩)) a4_1 ⟨U,U⟩),zb U U (zj U ⟨U,U⟩),zb U U (zf U fo_156_2 ⟨U,U⟩),zb U U (zk U ag_151 c30 ⟨U,U⟩),zb U U (zd (v:=.pointer (some ⟨b31,o32,none⟩)) U ⟨U,U⟩),zb U U (zj U ⟨U,U⟩),zb U U (zf U fo_166_0 ⟨U,U⟩),zb U U (zf U fo_43_1 ⟨U,U⟩),zb U U (zk U ag_3 c35 ⟨U,U⟩),zb U U (zf U fo_148_0 ⟨U,U⟩),zb U U (zk U ag_3 c37 ⟨U,U⟩),zb U U (zd (v:=.pointer (some ⟨b31,o32,none⟩)) U ⟨U,U⟩),zb U U (zj U ⟨U,U⟩),zb U U (zf U fo_166_0 ⟨U,U⟩),zb U U (zf U fo_43_4 ⟨U,U⟩),zb U U (zf U fo_41_0 ⟨U,U⟩),zb U U (zS U ag_39 c39 ⟨U,U⟩),zb U U (zd (v:=.pointer (some ⟨b31,o32,none⟩)) U ⟨U,U⟩),zb U U (zj U ⟨U,U⟩),zb U U (zf U fo_166_0 ⟨U,U⟩),zb U U (zf U fo_43_4 ⟨U,U⟩),zb U U (zf U fo_41_1 ⟨U,U⟩),zb U U (zk U ag_3 c41 ⟨U,U⟩),zb U U (zd (v:=.pointer (some ⟨b31,o32,none⟩)) U ⟨U,U⟩),zb U U (zj U ⟨U,U⟩),zb U U (zf U fo_166_0 ⟨U,U⟩),zb U U (zf U fo_43_4 ⟨U,U⟩),zb U U (zf U fo_41_2 ⟨U,U⟩),zb U U (zk U ag_3 c43 ⟨U,U⟩),zb U U (zX (vs:=[(0,.int .i64 x34),(1,.int .i64 x36),(2,.agg #[.int .i64 x38_0,.int .u64 x38_1]),(3,.int .i64 x40),(4,.int .i64 x42)]) (cs:=#[.int .i64 x34,.int .i64 x36,.int .i64 x38_0,.int .u64 x38_1,.int .i64 x40,.int .i64 x42,.bool false,.bool false,.int .i64 0]) z_63 fs_63 (zM U (zM U (zM U (zM U (zM U zT))))) U ⟨U,U⟩),V⟩) U ⟨?_,V⟩
  refine zb U U (zG (vs:=[.pointer x29,.agg #[.int .i64 x34,.int .i64 x36,.int .i64 x38_0,.int .u64 x38_1,.int .i64 x40,.int .i64 x42,.bool false,.bool false,.int .i64 0]]) en_72 (zm U (zm U zy)) (CallsH.mono H ?_))
  clear H
  rintro _ h44 ⟨x46,x47,rfl,H⟩
  refine⟨[(Value.pointer (some ⟨b6,o7,none⟩)),(Value.pointer (some ⟨b6,o7,none⟩)),(Value.pointer (some ⟨b6,o7+2,none⟩)),(Value.pointer x29),(Value.pointer (some ⟨b31,o32,none⟩)),(Value.pointer (some ⟨b31,o32,none⟩)),(Value.pointer (some ⟨b31,o32,none⟩)),(Value.pointer (some ⟨b31,o32+1,none⟩)),(Value.int .i64 x34),(Value.pointer (some ⟨h11.size,0,none⟩)),(Value.int .i64 x36),(Value.pointer (some ⟨b31,o32,none⟩)),(Value.pointer (some ⟨b31,o32,none⟩)),(Value.pointer (some ⟨b31,o32,none⟩)),(Value.pointer (some ⟨b31,o32+4,none⟩)),(Value.pointer (some ⟨b31,o32+4,none⟩)),(Value.agg #[.int .i64 x38_0,.int .u64 x38_1]),(Value.pointer (some ⟨b31,o32,none⟩)),(Value.pointer (some ⟨b31,o32,none⟩)),(Value.pointer (some ⟨b31,o32,none⟩)),(Value.pointer (some ⟨b31,o32+4,none⟩)),(Value.pointer (some ⟨b31,o32+6,none⟩)),(Value.int .i64 x40),(Value.pointer (some ⟨b31,o32,none⟩)),(Value.pointer (some ⟨b31,o32,none⟩)),(Value.pointer (some ⟨b31,o32,none⟩)),(Value.pointer (some ⟨b31,o32+4,none⟩)),(Value.pointer (some ⟨b31,o32+7,none⟩)),(Value.int .i64 x42),(Value.agg #[.int .i64 x34,.int .i64 x36,.int .i64 x38_0,.int .u64 x38_1,.int .i64 x40,.int .i64 x42,.bool false,.bool false,.int .i64 0]),(Value.tuple #[.int .i64 x46,.int .i64 x47]),(Value.tuple #[.int .i64 x46,.int .i64 x47]),(Value.int .i64 x46),(Value.int .i64 x47),(Value.int .i64 x46),(Value.int .i64 x47)],rfl,(zH [0,1,2,3,4,5,6,7,8,9,10,11,12,13,14,15,16,17,18,19,20,21,22,23,24,25,26,27,28,29] rfl ⟨rfl,rfl,rfl,rfl,rfl,rfl,rfl,rfl,rfl,rfl,rfl,rfl,rfl,rfl,rfl,rfl,rfl,rfl,rfl,rfl,rfl,rfl,rfl,rfl,rfl,rfl,rfl,rfl,rfl,rfl,trivial⟩),?_⟩
  refine zJ U (zw [31,32,33,34,35] U ⟨zb U U (zd (v:=.tuple #[.int .i64 x46,.int .i64 x47]) U ⟨U,U⟩),zb U U (zB U U ⟨U,U⟩),zb U U (zB U U ⟨U,U⟩),zb U U (zg (v:=.int .i64 x46) U ⟨U,U⟩),zb U U (zg (v:=.int .i64 x47) U ⟨U,U⟩),V⟩) U ?_
  refine ze ?_
  refine ze ?_
  refine zc U ?_
  refine za (zd (v:=.int .i64 x47) U ?_)
  refine za (op_neq U U ?_)
  refine zh ?_
  refine zz (!decide (x47=0)) U ?_ ?_
  ·intro hb
   replace H:=H.1 (zn (zt hb))
   refine ze ?_
   refine zc U ?_
   refine za (zd (v:=.slice x1a x1n x1c) a4_0 ?_)
   refine za (zg (v:=.slice x1a x1n x1c) U ?_)
   refine zh ?_
   refine zx ?_
   exact zv (zq U zu) H
  ·intro hb
   replace H:=H.2 (zo (zL hb))
   refine zC ?_
   refine ze ?_
   refine zc U ?_
   refine za (zd (v:=.pointer (some ⟨b6,o7,none⟩)) a4_1 ?_)
   refine za (zj U ?_)
   refine za (zf U fo_156_1 ?_)
   obtain⟨x49,c50,H⟩:=H
   refine za (zk U ag_150 c50 ?_)
   refine za (zG (vs:=[.pointer x49]) en_73 (zm U zy) (CallsH.mono H ?_))
   clear H
   rintro _ h51 ⟨x53_0,x53_1,x53_2,x54,rfl,H⟩
   refine zh ?_
   refine ze ?_
   refine wpf_forget ?_
   intro fg55 hfg55
   have ag55_0:fg55 0=(Value.pointer (some ⟨b6,o7,none⟩)):=by rw [hfg55]; exact a4_1
   have ag55_1:fg55 3=(Value.slice x1a x1n x1c):=by rw [hfg55]; exact a4_0
   have ag55_2:fg55 4=(Value.pointer (some ⟨h11.size,0,none⟩)):=by rw [hfg55]; exact rfl
   have ag55_3:fg55 6=(Value.pointer (some ⟨b31,o32,none⟩)):=by rw [hfg55]; exact rfl
   have ag55_4:fg55 7=(Value.int .i64 x46):=by rw [hfg55]; exact rfl
   clear hfg55
   obtain⟨J56,HR,H⟩:=H
   obtain⟨J57,hin57,hout57⟩ : ∃ J57:Fr→Heap→Prop,(∀ f hz,f 0 = .pointer (some ⟨b6,o7,none⟩)→f 3 = .slice x1a x1n x1c→f 4 = .pointer (some ⟨h11.size,0,none⟩)→J56 hz→J57 f hz)∧(∀ f hz,J57 f hz→f 0 = .pointer (some ⟨b6,o7,none⟩)∧f 3 = .slice x1a x1n x1c∧f 4 = .pointer (some ⟨h11.size,0,none⟩)∧J56 hz):=⟨fun f hz=>f 0 = .pointer (some ⟨b6,o7,none⟩)∧f 3 = .slice x1a x1n x1c∧f 4 = .pointer (some ⟨h11.size,0,none⟩)∧J56 hz,fun _ _ a0 a1 a2 z=>⟨a0,a1,a2,z⟩,fun _ _ hz=>hz⟩
   refine wpf_cut J57 ?_ ?_
   ·skip
    obtain⟨x71,c72,H⟩:=H
    obtain⟨x73,c74,H⟩:=H
    refine zO Gfl 4 [(Y (some ⟨b31,o32,none⟩)),(Y (some ⟨b6,o7,none⟩)),(Y (some ⟨b6,o7,none⟩)),(Y (some ⟨b6,o7+5,none⟩)),(Value.map x71),(Z .i64 x46),(Z .i64 x46),(Y (some ⟨h11.size,0,none⟩)),(Z .i64 x73),(X #[.int .i64 x73,.bool false,.bool false,.bool false,.bool false]),undef,(Y (some ⟨b31,o32,none⟩)),(Y (some ⟨b31,o32+8,none⟩)),undef,undef,undef,undef] (by kernel_rfl) U mixed_PR ?_
    refine zA [10,13] (by decide) U (zw [0,1,2,3,4,5,6,7,8,9,11,12] U ⟨zb U U (zd (v:=.pointer (some ⟨b31,o32,none⟩)) ag55_3 ⟨U,U⟩),zb U U (zd (v:=.pointer (some ⟨b6,o7,none⟩)) ag55_0 ⟨U,U⟩),zb U U (zj U ⟨U,U⟩),zb U U (zf U fo_156_5 ⟨U,U⟩),zb U U (zk U ag_154 c72 ⟨U,U⟩),zb U U (zd (v:=.int .i64 x46) ag55_4 ⟨U,U⟩),zb U U (zd (v:=.int .i64 x46) ag55_4 ⟨U,U⟩),zb U U (zf ag55_2 fo_148_0 ⟨U,U⟩),zb U U (zk U ag_3 c74 ⟨U,U⟩),zb U U (zX (vs:=[(0,.int .i64 x73)]) (cs:=#[.int .i64 x73,.bool false,.bool false,.bool false,.bool false]) z_172 fs_172 (zM U zT) U ⟨U,U⟩),zb U U (zj U ⟨U,U⟩),zb U U (zf U fo_166_1 ⟨U,U⟩),V⟩) U ⟨?_,?_,V⟩
    ·replace H:=H.1
     obtain⟨h75,c76⟩ : ∃ h75,h75=h51.push (.cells #[.int .i64 x73,.bool false,.bool false,.bool false,.bool false] 172 (0,0)):=⟨_,rfl⟩
     replace H:=H h75 c76
     refine zb U U (yd (v:=.agg #[.int .i64 x73,.bool false,.bool false,.bool false,.bool false]) U c76 ?_)
     obtain⟨c77,H⟩:=H
     refine⟨[(Value.pointer (some ⟨b31,o32,none⟩)),(Value.pointer (some ⟨b6,o7,none⟩)),(Value.pointer (some ⟨b6,o7,none⟩)),(Value.pointer (some ⟨b6,o7+5,none⟩)),(Value.map x71),(Value.int .i64 x46),(Value.int .i64 x46),(Value.pointer (some ⟨h11.size,0,none⟩)),(Value.int .i64 x73),(Value.agg #[.int .i64 x73,.bool false,.bool false,.bool false,.bool false]),(Value.pointer (some ⟨h51.size,0,none⟩)),(Value.pointer (some ⟨b31,o32,none⟩)),(Value.pointer (some ⟨b31,o32+8,none⟩)),undef,undef,undef,undef],rfl,(zH [0,1,2,3,4,5,6,7,8,9,11,12] rfl ⟨rfl,rfl,rfl,rfl,rfl,rfl,rfl,rfl,rfl,rfl,rfl,rfl,trivial⟩),?_⟩
     refine zA [13] (by decide) U (zw [0,1,2,3,4,5,6,11,12] U ⟨zb U U (zd (v:=.pointer (some ⟨b31,o32,none⟩)) ag55_3 ⟨U,U⟩),zb U U (zd (v:=.pointer (some ⟨b6,o7,none⟩)) ag55_0 ⟨U,U⟩),zb U U (zj U ⟨U,U⟩),zb U U (zf U fo_156_5 ⟨U,U⟩),zb U U (zk U ag_154 c77 ⟨U,U⟩),zb U U (zd (v:=.int .i64 x46) ag55_4 ⟨U,U⟩),zb U U (zd (v:=.int .i64 x46) ag55_4 ⟨U,U⟩),zb U U (zj U ⟨U,U⟩),zb U U (zf U fo_166_1 ⟨U,U⟩),V⟩) U ⟨?_,V⟩
     obtain⟨h79,c78,H⟩:=H
     refine zb U U (zI (v:=.int .i64 x46) U U sz_3 U c78 ?_)
     refine⟨[(Value.pointer (some ⟨b31,o32,none⟩)),(Value.pointer (some ⟨b6,o7,none⟩)),(Value.pointer (some ⟨b6,o7,none⟩)),(Value.pointer (some ⟨b6,o7+5,none⟩)),(Value.map x71),(Value.int .i64 x46),(Value.int .i64 x46),(Value.pointer (some ⟨h11.size,0,none⟩)),(Value.int .i64 x73),(Value.agg #[.int .i64 x73,.bool false,.bool false,.bool false,.bool false]),(Value.pointer (some ⟨h51.size,0,none⟩)),(Value.pointer (some ⟨b31,o32,none⟩)),(Value.pointer (some ⟨b31,o32+8,none⟩)),undef,undef,undef,undef],rfl,(zH [0,1,2,3,4,5,6,7,8,9,10,11,12] rfl ⟨rfl,rfl,rfl,rfl,rfl,rfl,rfl,rfl,rfl,rfl,rfl,rfl,rfl,trivial⟩),?_⟩
     refine zA [14] (by decide) U (zw [5] U ⟨zb U U (zd (v:=.int .i64 x46) ag55_4 ⟨U,U⟩),V⟩) U ⟨?_,V⟩
     obtain⟨r80,rfl,H⟩:=H
     obtain⟨l81,n82,c84,H⟩:=H
     obtain⟨h85,c86⟩ : ∃ h85,h85=h79.setIfInBounds r80 (mobj (Value.int .i64) (mput l81 x46 ((mlook l81 x46).getD (Value.pointer none)) n82) (mclk l81 x46 n82)):=⟨_,rfl⟩
     replace H:=H h85 c86
     refine zb U U (op_mapEntry2 (zZ .i64) mt_154 z_170 U U c84 U c86 ?_)
     refine⟨[(Value.pointer (some ⟨b31,o32,none⟩)),(Value.pointer (some ⟨b6,o7,none⟩)),(Value.pointer (some ⟨b6,o7,none⟩)),(Value.pointer (some ⟨b6,o7+5,none⟩)),(Value.map (some r80)),(Value.int .i64 x46),(Value.int .i64 x46),(Value.pointer (some ⟨h11.size,0,none⟩)),(Value.int .i64 x73),(Value.agg #[.int .i64 x73,.bool false,.bool false,.bool false,.bool false]),(Value.pointer (some ⟨h51.size,0,none⟩)),(Value.pointer (some ⟨b31,o32,none⟩)),(Value.pointer (some ⟨b31,o32+8,none⟩)),undef,(Value.tuple #[((mlook l81 x46).getD (Value.pointer none)),.int .i64 ((mstamp l81 x46 n82:Nat):Int)]),(Value.int .i64 ((mstamp l81 x46 n82:Nat):Int)),undef],rfl,(zH [0,1,2,3,4,5,6,7,8,9,10,11,12,13] rfl ⟨rfl,rfl,rfl,rfl,rfl,rfl,rfl,rfl,rfl,rfl,rfl,rfl,rfl,rfl,trivial⟩),?_⟩
     refine zA [16] (by decide) U (zw [15] U ⟨zb U U (zB U U ⟨U,U⟩),V⟩) U ⟨?_,V⟩
     obtain⟨c88,H⟩:=H
     obtain⟨h87,c89⟩ : ∃ h87,h87=h85.setIfInBounds r80 (mobj (Value.int .i64) (mput l81 x46 (Value.pointer (some ⟨h51.size,0,none⟩)) n82) (mclk l81 x46 n82)):=⟨_,rfl⟩
     replace H:=H h87 c89
     refine zb U U (op_entryStore2 (v:=.pointer (some ⟨h51.size,0,none⟩)) U U U c88 c89 ?_)
     refine⟨[(Value.pointer (some ⟨b31,o32,none⟩)),(Value.pointer (some ⟨b6,o7,none⟩)),(Value.pointer (some ⟨b6,o7,none⟩)),(Value.pointer (some ⟨b6,o7+5,none⟩)),(Value.map (some r80)),(Value.int .i64 x46),(Value.int .i64 x46),(Value.pointer (some ⟨h11.size,0,none⟩)),(Value.int .i64 x73),(Value.agg #[.int .i64 x73,.bool false,.bool false,.bool false,.bool false]),(Value.pointer (some ⟨h51.size,0,none⟩)),(Value.pointer (some ⟨b31,o32,none⟩)),(Value.pointer (some ⟨b31,o32+8,none⟩)),undef,(Value.tuple #[((mlook l81 x46).getD (Value.pointer none)),.int .i64 ((mstamp l81 x46 n82:Nat):Int)]),(Value.int .i64 ((mstamp l81 x46 n82:Nat):Int)),undef],rfl,(zH [0,1,2,3,4,5,6,7,8,9,10,11,12,13,14,15] rfl ⟨rfl,rfl,rfl,rfl,rfl,rfl,rfl,rfl,rfl,rfl,rfl,rfl,rfl,rfl,rfl,rfl,trivial⟩),?_⟩
     refine zJ U (zw [] U V) U ?_
     exact hin57 _ _ ag55_0 ag55_1 ag55_2 H
    ·replace H:=H.2
     obtain⟨h91,c90,H⟩:=H
     refine zb U U (zI (v:=.int .i64 x46) U U sz_3 U c90 ?_)
     obtain⟨c92,H⟩:=H
     refine⟨[(Value.pointer (some ⟨b31,o32,none⟩)),(Value.pointer (some ⟨b6,o7,none⟩)),(Value.pointer (some ⟨b6,o7,none⟩)),(Value.pointer (some ⟨b6,o7+5,none⟩)),(Value.map x71),(Value.int .i64 x46),(Value.int .i64 x46),(Value.pointer (some ⟨h11.size,0,none⟩)),(Value.int .i64 x73),(Value.agg #[.int .i64 x73,.bool false,.bool false,.bool false,.bool false]),undef,(Value.pointer (some ⟨b31,o32,none⟩)),(Value.pointer (some ⟨b31,o32+8,none⟩)),undef,undef,undef,undef],rfl,(zH [0,1,2,3,4,5,6,7,8,9,11,12] rfl ⟨rfl,rfl,rfl,rfl,rfl,rfl,rfl,rfl,rfl,rfl,rfl,rfl,trivial⟩),?_⟩
     refine zA [10,14] (by decide) U (zw [5,7,8,9] U ⟨zb U U (zd (v:=.int .i64 x46) ag55_4 ⟨U,U⟩),zb U U (zf ag55_2 fo_148_0 ⟨U,U⟩),zb U U (zk U ag_3 c92 ⟨U,U⟩),zb U U (zX (vs:=[(0,.int .i64 x73)]) (cs:=#[.int .i64 x73,.bool false,.bool false,.bool false,.bool false]) z_172 fs_172 (zM U zT) U ⟨U,U⟩),V⟩) U ⟨?_,?_,V⟩
     ·replace H:=H.1
      obtain⟨h93,c94⟩ : ∃ h93,h93=h91.push (.cells #[.int .i64 x73,.bool false,.bool false,.bool false,.bool false] 172 (0,0)):=⟨_,rfl⟩
      replace H:=H h93 c94
      refine zb U U (yd (v:=.agg #[.int .i64 x73,.bool false,.bool false,.bool false,.bool false]) U c94 ?_)
      refine⟨[(Value.pointer (some ⟨b31,o32,none⟩)),(Value.pointer (some ⟨b6,o7,none⟩)),(Value.pointer (some ⟨b6,o7,none⟩)),(Value.pointer (some ⟨b6,o7+5,none⟩)),(Value.map x71),(Value.int .i64 x46),(Value.int .i64 x46),(Value.pointer (some ⟨h11.size,0,none⟩)),(Value.int .i64 x73),(Value.agg #[.int .i64 x73,.bool false,.bool false,.bool false,.bool false]),(Value.pointer (some ⟨h91.size,0,none⟩)),(Value.pointer (some ⟨b31,o32,none⟩)),(Value.pointer (some ⟨b31,o32+8,none⟩)),undef,undef,undef,undef],rfl,(zH [0,1,2,3,4,5,6,7,8,9,11,12,13] rfl ⟨rfl,rfl,rfl,rfl,rfl,rfl,rfl,rfl,rfl,rfl,rfl,rfl,rfl,trivial⟩),?_⟩
      refine zA [14] (by decide) U (zw [5] U ⟨zb U U (zd (v:=.int .i64 x46) ag55_4 ⟨U,U⟩),V⟩) U ⟨?_,V⟩
      obtain⟨r95,rfl,H⟩:=H
      obtain⟨l96,n97,c99,H⟩:=H
      obtain⟨h100,c101⟩ : ∃ h100,h100=h93.setIfInBounds r95 (mobj (Value.int .i64) (mput l96 x46 ((mlook l96 x46).getD (Value.pointer none)) n97) (mclk l96 x46 n97)):=⟨_,rfl⟩
      replace H:=H h100 c101
      refine zb U U (op_mapEntry2 (zZ .i64) mt_154 z_170 U U c99 U c101 ?_)
      refine⟨[(Value.pointer (some ⟨b31,o32,none⟩)),(Value.pointer (some ⟨b6,o7,none⟩)),(Value.pointer (some ⟨b6,o7,none⟩)),(Value.pointer (some ⟨b6,o7+5,none⟩)),(Value.map (some r95)),(Value.int .i64 x46),(Value.int .i64 x46),(Value.pointer (some ⟨h11.size,0,none⟩)),(Value.int .i64 x73),(Value.agg #[.int .i64 x73,.bool false,.bool false,.bool false,.bool false]),(Value.pointer (some ⟨h91.size,0,none⟩)),(Value.pointer (some ⟨b31,o32,none⟩)),(Value.pointer (some ⟨b31,o32+8,none⟩)),undef,(Value.tuple #[((mlook l96 x46).getD (Value.pointer none)),.int .i64 ((mstamp l96 x46 n97:Nat):Int)]),(Value.int .i64 ((mstamp l96 x46 n97:Nat):Int)),undef],rfl,(zH [0,1,2,3,4,5,6,7,8,9,10,11,12,13] rfl ⟨rfl,rfl,rfl,rfl,rfl,rfl,rfl,rfl,rfl,rfl,rfl,rfl,rfl,rfl,trivial⟩),?_⟩
      refine zA [16] (by decide) U (zw [15] U ⟨zb U U (zB U U ⟨U,U⟩),V⟩) U ⟨?_,V⟩
      obtain⟨c103,H⟩:=H
      obtain⟨h102,c104⟩ : ∃ h102,h102=h100.setIfInBounds r95 (mobj (Value.int .i64) (mput l96 x46 (Value.pointer (some ⟨h91.size,0,none⟩)) n97) (mclk l96 x46 n97)):=⟨_,rfl⟩
      replace H:=H h102 c104
      refine zb U U (op_entryStore2 (v:=.pointer (some ⟨h91.size,0,none⟩)) U U U c103 c104 ?_)
      refine⟨[(Value.pointer (some ⟨b31,o32,none⟩)),(Value.pointer (some ⟨b6,o7,none⟩)),(Value.pointer (some ⟨b6,o7,none⟩)),(Value.pointer (some ⟨b6,o7+5,none⟩)),(Value.map (some r95)),(Value.int .i64 x46),(Value.int .i64 x46),(Value.pointer (some ⟨h11.size,0,none⟩)),(Value.int .i64 x73),(Value.agg #[.int .i64 x73,.bool false,.bool false,.bool false,.bool false]),(Value.pointer (some ⟨h91.size,0,none⟩)),(Value.pointer (some ⟨b31,o32,none⟩)),(Value.pointer (some ⟨b31,o32+8,none⟩)),undef,(Value.tuple #[((mlook l96 x46).getD (Value.pointer none)),.int .i64 ((mstamp l96 x46 n97:Nat):Int)]),(Value.int .i64 ((mstamp l96 x46 n97:Nat):Int)),undef],rfl,(zH [0,1,2,3,4,5,6,7,8,9,10,11,12,13,14,15] rfl ⟨rfl,rfl,rfl,rfl,rfl,rfl,rfl,rfl,rfl,rfl,rfl,rfl,rfl,rfl,rfl,rfl,trivial⟩),?_⟩
      refine zJ U (zw [] U V) U ?_
      exact hin57 _ _ ag55_0 ag55_1 ag55_2 H
     ·replace H:=H.2
      obtain⟨r105,rfl,H⟩:=H
      obtain⟨l106,n107,c109,H⟩:=H
      obtain⟨h110,c111⟩ : ∃ h110,h110=h91.setIfInBounds r105 (mobj (Value.int .i64) (mput l106 x46 ((mlook l106 x46).getD (Value.pointer none)) n107) (mclk l106 x46 n107)):=⟨_,rfl⟩
      replace H:=H h110 c111
      refine zb U U (op_mapEntry2 (zZ .i64) mt_154 z_170 U U c109 U c111 ?_)
      obtain⟨c112,H⟩:=H
      refine⟨[(Value.pointer (some ⟨b31,o32,none⟩)),(Value.pointer (some ⟨b6,o7,none⟩)),(Value.pointer (some ⟨b6,o7,none⟩)),(Value.pointer (some ⟨b6,o7+5,none⟩)),(Value.map (some r105)),(Value.int .i64 x46),(Value.int .i64 x46),(Value.pointer (some ⟨h11.size,0,none⟩)),(Value.int .i64 x73),(Value.agg #[.int .i64 x73,.bool false,.bool false,.bool false,.bool false]),undef,(Value.pointer (some ⟨b31,o32,none⟩)),(Value.pointer (some ⟨b31,o32+8,none⟩)),undef,(Value.tuple #[((mlook l106 x46).getD (Value.pointer none)),.int .i64 ((mstamp l106 x46 n107:Nat):Int)]),(Value.int .i64 ((mstamp l106 x46 n107:Nat):Int)),undef],rfl,(zH [0,1,2,3,4,5,6,7,8,9,11,12,13] rfl ⟨rfl,rfl,rfl,rfl,rfl,rfl,rfl,rfl,rfl,rfl,rfl,rfl,rfl,trivial⟩),?_⟩
      refine zA [10] (by decide) U (zw [7,8,9,15] U ⟨zb U U (zf ag55_2 fo_148_0 ⟨U,U⟩),zb U U (zk U ag_3 c112 ⟨U,U⟩),zb U U (zX (vs:=[(0,.int .i64 x73)]) (cs:=#[.int .i64 x73,.bool false,.bool false,.bool false,.bool false]) z_172 fs_172 (zM U zT) U ⟨U,U⟩),zb U U (zB U U ⟨U,U⟩),V⟩) U ⟨?_,V⟩
      obtain⟨h113,c114⟩ : ∃ h113,h113=h110.push (.cells #[.int .i64 x73,.bool false,.bool false,.bool false,.bool false] 172 (0,0)):=⟨_,rfl⟩
      replace H:=H h113 c114
      refine zb U U (yd (v:=.agg #[.int .i64 x73,.bool false,.bool false,.bool false,.bool false]) U c114 ?_)
      refine⟨[(Value.pointer (some ⟨b31,o32,none⟩)),(Value.pointer (some ⟨b6,o7,none⟩)),(Value.pointer (some ⟨b6,o7,none⟩)),(Value.pointer (some ⟨b6,o7+5,none⟩)),(Value.map (some r105)),(Value.int .i64 x46),(Value.int .i64 x46),(Value.pointer (some ⟨h11.size,0,none⟩)),(Value.int .i64 x73),(Value.agg #[.int .i64 x73,.bool false,.bool false,.bool false,.bool false]),(Value.pointer (some ⟨h110.size,0,none⟩)),(Value.pointer (some ⟨b31,o32,none⟩)),(Value.pointer (some ⟨b31,o32+8,none⟩)),undef,(Value.tuple #[((mlook l106 x46).getD (Value.pointer none)),.int .i64 ((mstamp l106 x46 n107:Nat):Int)]),(Value.int .i64 ((mstamp l106 x46 n107:Nat):Int)),undef],rfl,(zH [0,1,2,3,4,5,6,7,8,9,11,12,13,14,15] rfl ⟨rfl,rfl,rfl,rfl,rfl,rfl,rfl,rfl,rfl,rfl,rfl,rfl,rfl,rfl,rfl,trivial⟩),?_⟩
      refine zA [16] (by decide) U (zw [15] U ⟨zb U U (zB U U ⟨U,U⟩),V⟩) U ⟨?_,V⟩
      obtain⟨c116,H⟩:=H
      obtain⟨h115,c117⟩ : ∃ h115,h115=h113.setIfInBounds r105 (mobj (Value.int .i64) (mput l106 x46 (Value.pointer (some ⟨h110.size,0,none⟩)) n107) (mclk l106 x46 n107)):=⟨_,rfl⟩
      replace H:=H h115 c117
      refine zb U U (op_entryStore2 (v:=.pointer (some ⟨h110.size,0,none⟩)) U U U c116 c117 ?_)
      refine⟨[(Value.pointer (some ⟨b31,o32,none⟩)),(Value.pointer (some ⟨b6,o7,none⟩)),(Value.pointer (some ⟨b6,o7,none⟩)),(Value.pointer (some ⟨b6,o7+5,none⟩)),(Value.map (some r105)),(Value.int .i64 x46),(Value.int .i64 x46),(Value.pointer (some ⟨h11.size,0,none⟩)),(Value.int .i64 x73),(Value.agg #[.int .i64 x73,.bool false,.bool false,.bool false,.bool false]),(Value.pointer (some ⟨h110.size,0,none⟩)),(Value.pointer (some ⟨b31,o32,none⟩)),(Value.pointer (some ⟨b31,o32+8,none⟩)),undef,(Value.tuple #[((mlook l106 x46).getD (Value.pointer none)),.int .i64 ((mstamp l106 x46 n107:Nat):Int)]),(Value.int .i64 ((mstamp l106 x46 n107:Nat):Int)),undef],rfl,(zH [0,1,2,3,4,5,6,7,8,9,10,11,12,13,14,15] rfl ⟨rfl,rfl,rfl,rfl,rfl,rfl,rfl,rfl,rfl,rfl,rfl,rfl,rfl,rfl,rfl,rfl,trivial⟩),?_⟩
      refine zJ U (zw [] U V) U ?_
      exact hin57 _ _ ag55_0 ag55_1 ag55_2 H
   ·clear H
    intro f h58 hf
    obtain⟨a57_0,a57_1,a57_2,hJ⟩:=hout57 _ _ hf
    have H:=HR h58 hJ
    refine zc U ?_
    refine za (zd (v:=.slice x1a x1n x1c) a57_1 ?_)
    refine za (zf a57_2 fo_148_0 ?_)
    obtain⟨x59,c60,H⟩:=H
    refine za (zk U ag_3 c60 ?_)
    obtain⟨h61,c62⟩ : ∃ h61,h61=h58.push (.cells #[.int .i64 x59] 3 (0,0)):=⟨_,rfl⟩
    replace H:=H h61 c62
    refine za (yg (cs:=#[.int .i64 x59]) (vs:=[(0,.int .i64 x59)]) (zl:=[.int .i64 0]) ri_34 (by decide) U U (zM U zT) U c62 ?_)
    refine za (op_append' (src:=(T (some ⟨h58.size,0,none⟩) 1 1)) (news:=[.int .i64 x59]) ri_34 (.inl ⟨_,un_34⟩) U U U (first_fresh c62 U U U) (appH.mono H ?_))
    clear H
    intro a67 n68 q69 h70 H
    refine za (zg (v:=.slice a67 n68 q69) U ?_)
    refine zh ?_
    exact And.intro (hin4 _ _ _ _ _ rfl a57_0 H.1) (yk (hmu4 _ _ _ _ _ rfl) (hmu4 _ _ _ _ _ a4_0) H.2)
def Gfx:Cert:=⟨[[],[],[0],[0,1,2],[0,1,2,3]],[false,false,false,true,false]⟩
def Gfv:Cert:=⟨[[],[0],[0,1],[0,1,2],[],[4],[4,5],[4,5,6],[0,1,2,3,4,5,6,7],[0,1,2,3,4,5,6,7,8],[0,1,2,3,4,5,6,7,8,9],[0,1,2,3,4,5,6,7,8,9,10]],[false,false,false,false,false,false,false,false,false,false,false,true]⟩
def Gfw:Cert:=⟨[[],[0],[0,1],[0,1,2],[],[4],[0,1,2,3,4,5]],[false,false,false,false,false,false,true]⟩
def Gau (p0:Option Addr) (K:Int→Int→Int→Int→Int→Int→Int→Bool→Bool→Int→Int→Heap→Prop) (h:Heap):Prop:=
 ∀ (h1:Heap),h1=h.push (.cells #[.int .i64 0,.int .i64 0,.int .i64 0,.int .u64 0,.int .i64 0,.int .i64 0,.bool false,.bool false,.int .i64 0] 63 (0,0))→∃ (b3:Nat) (o4:Nat),p0=some ⟨b3,o4,none⟩∧∃ (x6:Option Addr),cellH h1 b3 (o4+2)=some (.pointer x6)∧CallsH PR Gma #[.pointer x6] h1 (fun v h8=>∃ (x10:Int) (x11_0:Int) (x11_1:Int) (x11_2:Int) (x11_3:Int) (x11_4:Int) (x11_5:Int) (x11_6:Bool) (x11_7:Bool) (x11_8:Int) (x12:Int),v=(Value.tuple #[.int .i64 x10,.agg #[.int .i64 x11_0,.int .i64 x11_1,.int .i64 x11_2,.int .u64 x11_3,.int .i64 x11_4,.int .i64 x11_5,.bool x11_6,.bool x11_7,.int .i64 x11_8],.int .i64 x12])∧∀ (h13:Heap),h13=h8.push (.cells #[.int .i64 0,.int .i64 0,.int .i64 0,.int .u64 0,.int .i64 0,.int .i64 0,.bool false,.bool false,.int .i64 0] 63 (0,0))→∃ (h16:Heap),stCells h8.size h13 0 [.int .i64 x11_0,.int .i64 x11_1,.int .i64 x11_2,.int .u64 x11_3,.int .i64 x11_4,.int .i64 x11_5,.bool x11_6,.bool x11_7,.int .i64 x11_8]=some h16∧((¬ (x12=0))→∃ (h19:Heap),stCells h.size h16 0 [.int .i64 0,.int .i64 0,.int .i64 0,.int .u64 0,.int .i64 0,.int .i64 0,.bool false,.bool false,.int .i64 0]=some h19∧∃ (x20_0:Int) (x20_1:Int) (x20_2:Int) (x20_3:Int) (x20_4:Int) (x20_5:Int) (x20_6:Bool) (x20_7:Bool) (x20_8:Int),ldCells h19 h.size 0 9=some [.int .i64 x20_0,.int .i64 x20_1,.int .i64 x20_2,.int .u64 x20_3,.int .i64 x20_4,.int .i64 x20_5,.bool x20_6,.bool x20_7,.int .i64 x20_8]∧K 0 x20_0 x20_1 x20_2 x20_3 x20_4 x20_5 x20_6 x20_7 x20_8 x12 h19)∧(x12=0→∃ (x22:Option Nat),cellH h16 b3 (o4+5)=some (.map x22)∧∃ (l24:List (ME Int)) (n25:Nat),mapAt (Value.int .i64) h16 x22 l24 n25∧∃ (x27:Option Addr),(mlook l24 x10).getD (Value.pointer none)=(Value.pointer x27)∧∃ (b29:Nat) (o30:Nat),x27=some ⟨b29,o30,none⟩∧∃ (h33:Heap),stCells b29 h16 (o30+2) [.bool true]=some h33∧∃ J34:Heap→Prop,(∀ (h36:Heap),J34 h36→∃ (x37_0:Int) (x37_1:Int) (x37_2:Int) (x37_3:Int) (x37_4:Int) (x37_5:Int) (x37_6:Bool) (x37_7:Bool) (x37_8:Int),ldCells h36 h8.size 0 9=some [.int .i64 x37_0,.int .i64 x37_1,.int .i64 x37_2,.int .u64 x37_3,.int .i64 x37_4,.int .i64 x37_5,.bool x37_6,.bool x37_7,.int .i64 x37_8]∧∃ (h40:Heap),stCells h.size h36 0 [.int .i64 x37_0,.int .i64 x37_1,.int .i64 x37_2,.int .u64 x37_3,.int .i64 x37_4,.int .i64 x37_5,.bool x37_6,.bool x37_7,.int .i64 x37_8]=some h40∧∃ (x41_0:Int) (x41_1:Int) (x41_2:Int) (x41_3:Int) (x41_4:Int) (x41_5:Int) (x41_6:Bool) (x41_7:Bool) (x41_8:Int),ldCells h40 h.size 0 9=some [.int .i64 x41_0,.int .i64 x41_1,.int .i64 x41_2,.int .u64 x41_3,.int .i64 x41_4,.int .i64 x41_5,.bool x41_6,.bool x41_7,.int .i64 x41_8]∧K x10 x41_0 x41_1 x41_2 x41_3 x41_4 x41_5 x41_6 x41_7 x41_8 0 h40)∧∃ (x43:Bool),cellH h33 b29 (o30+1)=some (.bool x43)∧(x43=false→∃ (x45:Option Nat),cellH h33 b3 (o4+4)=some (.map x45)∧∃ (x47:Int),cellH h33 b29 o30=some (.int .i64 x47)∧∃ (l49:List (ME Int)) (n50:Nat),mapAt (Value.int .i64) h33 x45 l49 n50∧∃ (x52:Option Addr),(mlook l49 x47).getD (Value.pointer none)=(Value.pointer x52)∧∃ (b54:Nat) (o55:Nat),x52=some ⟨b54,o55,none⟩∧∃ (h58:Heap),stCells b54 h33 (o55+9) [.int .i64 3]=some h58∧∃ (x59:Option Addr),cellH h58 b3 o4=some (.pointer x59)∧∃ (x61_0:Int) (x61_1:Int),ldCells h58 h8.size 2 2=some [.int .i64 x61_0,.int .u64 x61_1]∧CallsH PR Glt #[.pointer x59,.agg #[.int .i64 x61_0,.int .u64 x61_1],.int .i64 2,.int .i64 3] h58 (fun v h63=>∃ (x65:Int),v=(Value.int .i64 x65)∧J34 h63))∧(x43=true→J34 h33)))
theorem Gav (p0:Option Addr) (R:Value→Heap→Prop) (h:Heap) (H:Gau p0 (fun r0 r1_0 r1_1 r1_2 r1_3 r1_4 r1_5 r1_6 r1_7 r1_8 r2 h'=>R (Value.tuple #[.int .i64 r0,.agg #[.int .i64 r1_0,.int .i64 r1_1,.int .i64 r1_2,.int .u64 r1_3,.int .i64 r1_4,.int .i64 r1_5,.bool r1_6,.bool r1_7,.int .i64 r1_8],.int .i64 r2]) h') h):CallsH PR Gif #[.pointer p0] h R:=by
 refine zD (args:=[.pointer p0]) Tryz.func25 U U ?_
 intro f hf
 have e0:=hf 0 _ rfl
 clear hf
 unfold Gau at H
 refine ze ?_
 refine zc U ?_
 refine za (zg (v:=.int .i64 0) U ?_)
 obtain⟨h1,c2⟩ : ∃ h1,h1=h.push (.cells #[.int .i64 0,.int .i64 0,.int .i64 0,.int .u64 0,.int .i64 0,.int .i64 0,.bool false,.bool false,.int .i64 0] 63 (0,0)):=⟨_,rfl⟩
 replace H:=H h1 c2
 refine za (zW z_63 c2 ?_)
 refine za (zg (v:=.int .i64 0) U ?_)
 refine zh ?_
 refine ze ?_
 refine zc U ?_
 refine za (zd (v:=.pointer p0) e0 ?_)
 obtain⟨b3,o4,rfl,H⟩:=H
 refine za (zj U ?_)
 refine za (zf U fo_156_2 ?_)
 obtain⟨x6,c7,H⟩:=H
 refine za (zk U ag_151 c7 ?_)
 refine za (zG (vs:=[.pointer x6]) en_90 (zm U zy) (CallsH.mono H ?_))
 clear H
 rintro _ h8 ⟨x10,x11_0,x11_1,x11_2,x11_3,x11_4,x11_5,x11_6,x11_7,x11_8,x12,rfl,H⟩
 refine za (zd (v:=.tuple #[.int .i64 x10,.agg #[.int .i64 x11_0,.int .i64 x11_1,.int .i64 x11_2,.int .u64 x11_3,.int .i64 x11_4,.int .i64 x11_5,.bool x11_6,.bool x11_7,.int .i64 x11_8],.int .i64 x12]) U ?_)
 refine za (zB U U ?_)
 refine za (zB U U ?_)
 refine za (zB U U ?_)
 obtain⟨h13,c14⟩ : ∃ h13,h13=h8.push (.cells #[.int .i64 0,.int .i64 0,.int .i64 0,.int .u64 0,.int .i64 0,.int .i64 0,.bool false,.bool false,.int .i64 0] 63 (0,0)):=⟨_,rfl⟩
 replace H:=H h13 c14
 refine za (zW z_63 c14 ?_)
 refine za (zg (v:=.int .i64 x10) U ?_)
 obtain⟨h16,c15,H⟩:=H
 refine za (zI (v:=.agg #[.int .i64 x11_0,.int .i64 x11_1,.int .i64 x11_2,.int .u64 x11_3,.int .i64 x11_4,.int .i64 x11_5,.bool x11_6,.bool x11_7,.int .i64 x11_8]) U U sz_63 U c15 ?_)
 refine za (zg (v:=.int .i64 x12) U ?_)
 refine zh ?_
 refine ze ?_
 refine ze ?_
 refine zc U ?_
 refine za (zd (v:=.int .i64 x12) U ?_)
 refine za (op_neq U U ?_)
 refine zh ?_
 refine zz (!decide (x12=0)) U ?_ ?_
 ·intro hb
  replace H:=H.1 (zn (zt hb))
  refine ze ?_
  refine zc U ?_
  refine za (zX (vs:=[]) (cs:=#[.int .i64 0,.int .i64 0,.int .i64 0,.int .u64 0,.int .i64 0,.int .i64 0,.bool false,.bool false,.int .i64 0]) z_63 fs_63 zT U ?_)
  refine za (zd (v:=.int .i64 x12) U ?_)
  refine za (zg (v:=.int .i64 0) U ?_)
  obtain⟨h19,c18,H⟩:=H
  refine za (zI (v:=.agg #[.int .i64 0,.int .i64 0,.int .i64 0,.int .u64 0,.int .i64 0,.int .i64 0,.bool false,.bool false,.int .i64 0]) U U sz_63 U c18 ?_)
  refine za (zg (v:=.int .i64 x12) U ?_)
  refine zh ?_
  refine zx ?_
  obtain⟨x20_0,x20_1,x20_2,x20_3,x20_4,x20_5,x20_6,x20_7,x20_8,c21,H⟩:=H
  exact zv (zq U (ye U ag_63 c21 (zq U zu))) H
 ·intro hb
  replace H:=H.2 (zo (zL hb))
  refine zC ?_
  refine ze ?_
  refine zc U ?_
  refine za (zd (v:=.pointer (some ⟨b3,o4,none⟩)) e0 ?_)
  refine za (zj U ?_)
  refine za (zf U fo_156_5 ?_)
  obtain⟨x22,c23,H⟩:=H
  refine za (zk U ag_154 c23 ?_)
  refine za (zd (v:=.int .i64 x10) U ?_)
  obtain⟨l24,n25,c26,H⟩:=H
  obtain⟨x27,c28,H⟩:=H
  refine za (yh (zZ .i64) mt_154 z_170 U U c26 c28 ?_)
  refine za (zg (v:=.pointer x27) U ?_)
  refine zh ?_
  refine ze ?_
  refine zc U ?_
  refine za (zd (v:=.pointer x27) U ?_)
  obtain⟨b29,o30,rfl,H⟩:=H
  refine za (zj U ?_)
  refine za (zf U fo_172_2 ?_)
  obtain⟨h33,c32,H⟩:=H
  refine za (zI (v:=.bool true) U U sz_4 U c32 ?_)
  refine zh ?_
  obtain⟨J34,HR,H⟩:=H
  obtain⟨J35,hin35,hout35⟩ : ∃ J35:Fr→Heap→Prop,(∀ f hz,f 3 = .pointer (some ⟨h.size,0,none⟩)→f 5 = .int .i64 x10→f 6 = .pointer (some ⟨h8.size,0,none⟩)→J34 hz→J35 f hz)∧(∀ f hz,J35 f hz→f 3 = .pointer (some ⟨h.size,0,none⟩)∧f 5 = .int .i64 x10∧f 6 = .pointer (some ⟨h8.size,0,none⟩)∧J34 hz):=⟨fun f hz=>f 3 = .pointer (some ⟨h.size,0,none⟩)∧f 5 = .int .i64 x10∧f 6 = .pointer (some ⟨h8.size,0,none⟩)∧J34 hz,fun _ _ a0 a1 a2 z=>⟨a0,a1,a2,z⟩,fun _ _ hz=>hz⟩
  refine ym J35 ?_ ?_
  ·skip
   refine ze ?_
   refine zc U ?_
   refine za (zd (v:=.pointer (some ⟨b29,o30,none⟩)) U ?_)
   refine za (zj U ?_)
   refine za (zf U fo_172_1 ?_)
   obtain⟨x43,c44,H⟩:=H
   refine za (zk U ag_4 c44 ?_)
   refine za (yi U ?_)
   refine zh ?_
   refine zz (!x43) U ?_ ?_
   ·intro hb
    replace H:=H.1 (zt hb)
    refine ze ?_
    obtain⟨x45,c46,H⟩:=H
    obtain⟨x47,c48,H⟩:=H
    obtain⟨l49,n50,c51,H⟩:=H
    obtain⟨x52,c53,H⟩:=H
    obtain⟨b54,o55,rfl,H⟩:=H
    refine zO Gfv 1 [(Y (some ⟨b3,o4,none⟩)),(Y (some ⟨b3,o4,none⟩)),(Y (some ⟨b3,o4+4,none⟩)),(Value.map x45),(Y (some ⟨b29,o30,none⟩)),(Y (some ⟨b29,o30,none⟩)),(Y (some ⟨b29,o30,none⟩)),(Z .i64 x47),(Y (some ⟨b54,o55,none⟩)),(Y (some ⟨b54,o55,none⟩)),(Y (some ⟨b54,o55+9,none⟩)),undef] (by kernel_rfl) U mixed_PR ?_
    refine zA [11] (by decide) U (zw [0,1,2,3,4,5,6,7,8,9,10] U ⟨zb U U (zd (v:=.pointer (some ⟨b3,o4,none⟩)) e0 ⟨U,U⟩),zb U U (zj U ⟨U,U⟩),zb U U (zf U fo_156_4 ⟨U,U⟩),zb U U (zk U ag_153 c46 ⟨U,U⟩),zb U U (zd (v:=.pointer (some ⟨b29,o30,none⟩)) U ⟨U,U⟩),zb U U (zj U ⟨U,U⟩),zb U U (zf U fo_172_0 ⟨U,U⟩),zb U U (zk U ag_3 c48 ⟨U,U⟩),zb U U (yh (zZ .i64) mt_153 z_161 U U c51 c53 ⟨U,U⟩),zb U U (zj U ⟨U,U⟩),zb U U (zf U fo_166_2 ⟨U,U⟩),V⟩) U ⟨?_,V⟩
    obtain⟨h58,c57,H⟩:=H
    refine zb U U (zI (v:=.int .i64 3) U U sz_3 U c57 ?_)
    refine⟨[(Value.pointer (some ⟨b3,o4,none⟩)),(Value.pointer (some ⟨b3,o4,none⟩)),(Value.pointer (some ⟨b3,o4+4,none⟩)),(Value.map x45),(Value.pointer (some ⟨b29,o30,none⟩)),(Value.pointer (some ⟨b29,o30,none⟩)),(Value.pointer (some ⟨b29,o30,none⟩)),(Value.int .i64 x47),(Value.pointer (some ⟨b54,o55,none⟩)),(Value.pointer (some ⟨b54,o55,none⟩)),(Value.pointer (some ⟨b54,o55+9,none⟩)),undef],rfl,(zH [0,1,2,3,4,5,6,7,8,9,10] rfl ⟨rfl,rfl,rfl,rfl,rfl,rfl,rfl,rfl,rfl,rfl,rfl,trivial⟩),?_⟩
    refine zJ U (zw [] U V) U ?_
    obtain⟨x59,c60,H⟩:=H
    obtain⟨x61_0,x61_1,c62,H⟩:=H
    refine zO Gfw 1 [(Y (some ⟨b3,o4,none⟩)),(Y (some ⟨b3,o4,none⟩)),(Y (some ⟨b3,o4,none⟩)),(Y x59),(Y (some ⟨h8.size,2,none⟩)),(X #[.int .i64 x61_0,.int .u64 x61_1]),undef] (by kernel_rfl) U mixed_PR ?_
    refine zA [6] (by decide) U (zw [0,1,2,3,4,5] U ⟨zb U U (zd (v:=.pointer (some ⟨b3,o4,none⟩)) e0 ⟨U,U⟩),zb U U (zj U ⟨U,U⟩),zb U U (zf U fo_156_0 ⟨U,U⟩),zb U U (zk U ag_27 c60 ⟨U,U⟩),zb U U (zf U fo_63_2 ⟨U,U⟩),zb U U (zS U ag_39 c62 ⟨U,U⟩),V⟩) U ⟨?_,V⟩
    refine zb U U (zG (vs:=[.pointer x59,.agg #[.int .i64 x61_0,.int .u64 x61_1],.int .i64 2,.int .i64 3]) en_70 (zm U (zm U (zm U (zm U zy)))) (CallsH.mono H ?_))
    clear H
    rintro _ h63 ⟨x65,rfl,H⟩
    refine⟨[(Value.pointer (some ⟨b3,o4,none⟩)),(Value.pointer (some ⟨b3,o4,none⟩)),(Value.pointer (some ⟨b3,o4,none⟩)),(Value.pointer x59),(Value.pointer (some ⟨h8.size,2,none⟩)),(Value.agg #[.int .i64 x61_0,.int .u64 x61_1]),(Value.int .i64 x65)],rfl,(zH [0,1,2,3,4,5] rfl ⟨rfl,rfl,rfl,rfl,rfl,rfl,trivial⟩),?_⟩
    refine zJ U (zw [] U V) U ?_
    exact hin35 _ _ rfl rfl rfl H
   ·intro hb
    replace H:=H.2 (zL hb)
    refine zC ?_
    exact hin35 _ _ rfl rfl rfl H
  ·clear H
   intro f h36 hf
   obtain⟨a35_0,a35_1,a35_2,hJ⟩:=hout35 _ _ hf
   have H:=HR h36 hJ
   refine ze ?_
   obtain⟨x37_0,x37_1,x37_2,x37_3,x37_4,x37_5,x37_6,x37_7,x37_8,c38,H⟩:=H
   refine zO Gfx 1 [(Z .i64 x10),(X #[.int .i64 x37_0,.int .i64 x37_1,.int .i64 x37_2,.int .u64 x37_3,.int .i64 x37_4,.int .i64 x37_5,.bool x37_6,.bool x37_7,.int .i64 x37_8]),(Z .i64 x10),undef,undef] (by kernel_rfl) U mixed_PR ?_
   refine zA [3] (by decide) U (zw [0,1,2] U ⟨zb U U (zd (v:=.int .i64 x10) a35_1 ⟨U,U⟩),zb U U (zS a35_2 ag_63 c38 ⟨U,U⟩),zb U U (zg (v:=.int .i64 x10) U ⟨U,U⟩),V⟩) U ⟨?_,V⟩
   obtain⟨h40,c39,H⟩:=H
   refine zb U U (zI (v:=.agg #[.int .i64 x37_0,.int .i64 x37_1,.int .i64 x37_2,.int .u64 x37_3,.int .i64 x37_4,.int .i64 x37_5,.bool x37_6,.bool x37_7,.int .i64 x37_8]) a35_0 U sz_63 U c39 ?_)
   refine⟨[(Value.int .i64 x10),(Value.agg #[.int .i64 x37_0,.int .i64 x37_1,.int .i64 x37_2,.int .u64 x37_3,.int .i64 x37_4,.int .i64 x37_5,.bool x37_6,.bool x37_7,.int .i64 x37_8]),(Value.int .i64 x10),undef,(Value.int .i64 0)],rfl,(zH [0,1,2] rfl ⟨rfl,rfl,rfl,trivial⟩),?_⟩
   refine zJ U (zw [4] U ⟨zb U U (zg (v:=.int .i64 0) U ⟨U,U⟩),V⟩) U ?_
   refine zx ?_
   obtain⟨x41_0,x41_1,x41_2,x41_3,x41_4,x41_5,x41_6,x41_7,x41_8,c42,H⟩:=H
   exact zv (zq U (ye a35_0 ag_63 c42 (zq U zu))) H
def Gfy:Cert:=⟨[[],[0],[0,1],[0,1,2],[],[4],[4,5],[4,5,6],[0,1,2,3,4,5,6,7],[0,1,2,3,4,5,6,7,8],[0,1,2,3,4,5,6,7,8,9],[0,1,2,3,4,5,6,7,8,9,10],[0,1,2,3,4,5,6,7,8,9,10,11],[],[0,1,2,3,4,5,6,7,8,9,10,11,12,13]],[false,false,false,false,false,false,false,false,false,false,false,false,false,true,true]⟩
def Gfz:Cert:=⟨[[],[0],[0,1],[0,1,2],[],[4],[],[6],[],[6,7,8],[],[0,1,2,3,4,5,6,7,8,9,10],[0,1,2,3,4,5,6,7,8,9,10,11]],[false,false,false,false,false,false,false,false,false,false,false,true,false]⟩
def Gaw (p0:Option Addr) (p1:Int) (p2:Int) (p3a:Option Addr) (p3n:Nat) (p3c:Nat) (K:Int→Heap→Prop) (h:Heap):Prop:=
 ∃ (b1:Nat) (o2:Nat),p0=some ⟨b1,o2,none⟩∧∃ (x4:Option Nat),cellH h b1 (o2+5)=some (.map x4)∧∃ (l6:List (ME Int)) (n7:Nat),mapAt (Value.int .i64) h x4 l6 n7∧∃ (x9:Option Addr),(mlook l6 p1).getD (Value.pointer none)=(Value.pointer x9)∧∃ (b11:Nat) (o12:Nat),((((mlook l6 p1).isSome)=true)→x9=some ⟨b11,o12,none⟩)∧∃ (x14:Bool),((((mlook l6 p1).isSome)=true)→cellH h b11 (o12+2)=some (.bool x14))∧∃ (b16:Nat) (o17:Nat),((((!((mlook l6 p1).isSome)) || (!x14))=false)→x9=some ⟨b16,o17,none⟩)∧∃ (x19:Bool),((((!((mlook l6 p1).isSome)) || (!x14))=false)→cellH h b16 (o17+3)=some (.bool x19))∧∃ (b21:Nat) (o22:Nat),(((((!((mlook l6 p1).isSome)) || (!x14)) || x19)=false)→x9=some ⟨b21,o22,none⟩)∧∃ (x24:Bool),(((((!((mlook l6 p1).isSome)) || (!x14)) || x19)=false)→cellH h b21 (o22+1)=some (.bool x24))∧(((((!((mlook l6 p1).isSome)) || (!x14)) || x19) || x24)=true→K 12 h)∧(((((!((mlook l6 p1).isSome)) || (!x14)) || x19) || x24)=false→∃ (x26:Option Nat),cellH h b1 (o2+4)=some (.map x26)∧∃ (b28:Nat) (o29:Nat),x9=some ⟨b28,o29,none⟩∧∃ (x31:Int),cellH h b28 o29=some (.int .i64 x31)∧∃ (l33:List (ME Int)) (n34:Nat),mapAt (Value.int .i64) h x26 l33 n34∧∃ (x36:Option Addr),(mlook l33 x31).getD (Value.pointer none)=(Value.pointer x36)∧∃ (b38:Nat) (o39:Nat),x36=some ⟨b38,o39,none⟩∧∃ (x41_0:Int) (x41_1:Int) (x41_2:Int) (x41_3:Int),ldCells h b38 (o39+4) 4=some [.int .i64 x41_0,.int .u64 x41_1,.int .i64 x41_2,.int .i64 x41_3]∧∀ (h43:Heap),h43=h.push (.cells #[.int .i64 0,.int .u64 0,.int .i64 0,.int .i64 0] 41 (0,0))→cellH h43 b1 (o2+4)=some (Value.map x26)∧cellH h43 b28 o29=some (Value.int .i64 x31)∧∃ (l48:List (ME Int)) (n49:Nat),mapAt (Value.int .i64) h43 x26 l48 n49∧(mlook l48 x31).getD (Value.pointer none)=(Value.pointer (some ⟨b38,o39,none⟩))∧ldCells h43 b38 (o39+4) 4=some [.int .i64 x41_0,.int .u64 x41_1,.int .i64 x41_2,.int .i64 x41_3]∧∃ (h53:Heap),stCells h.size h43 0 [.int .i64 x41_0,.int .u64 x41_1,.int .i64 x41_2,.int .i64 x41_3]=some h53∧∃ (x55:Int),((¬ (p2<0))→cellH h53 h.size 3=some (.int .i64 x55))∧∃ (x58:Int),((((decide (p2<0)) || (decide (x55<p2)))=false)→cellH h53 h.size 3=some (.int .i64 x58))∧((((decide (p2<0)) || (decide (x55<p2))) || (decide ((IntKind.i64.wrap (x58 - p2))<(p3n:Int))))=true→K 1 h53)∧((((decide (p2<0)) || (decide (x55<p2))) || (decide ((IntKind.i64.wrap (x58 - p2))<(p3n:Int))))=false→∃ (x64:Option Addr),cellH h53 b1 o2=some (.pointer x64)∧∃ (x66_0:Int) (x66_1:Int),ldCells h53 h.size 0 2=some [.int .i64 x66_0,.int .u64 x66_1]∧∃ (x68:Int),cellH h53 h.size 2=some (.int .i64 x68)∧(-9223372036854775808≤x68+p2∧x68+p2<9223372036854775808)∧CallsH PR Gm1 #[.pointer x64,.agg #[.int .i64 x66_0,.int .u64 x66_1],.int .i64 3,.int .i64 (x68+p2),.slice p3a p3n p3c] h53 (fun v h71=>∃ (x73:Int),v=(Value.int .i64 x73)∧K x73 h71)))
theorem Gax (p0:Option Addr) (p1:Int) (p2:Int) (p3a:Option Addr) (p3n:Nat) (p3c:Nat) (R:Value→Heap→Prop) (h:Heap) (H:Gaw p0 p1 p2 p3a p3n p3c (fun r0 h'=>R (Value.int .i64 r0) h') h):CallsH PR Gig #[.pointer p0,.int .i64 p1,.int .i64 p2,.slice p3a p3n p3c] h R:=by
 refine zD (args:=[.pointer p0,.int .i64 p1,.int .i64 p2,.slice p3a p3n p3c]) Tryz.func26 U U ?_
 intro f hf
 have e0:=hf 0 _ rfl
 have e1:=hf 1 _ rfl
 have e2:=hf 2 _ rfl
 have e3:=hf 3 _ rfl
 clear hf
 unfold Gaw at H
 refine ze ?_
 refine zc U ?_
 refine za (zg (v:=.int .i64 0) U ?_)
 refine zh ?_
 refine ze ?_
 refine zc U ?_
 refine za (zd (v:=.pointer p0) e0 ?_)
 obtain⟨b1,o2,rfl,H⟩:=H
 refine za (zj U ?_)
 refine za (zf U fo_156_5 ?_)
 obtain⟨x4,c5,H⟩:=H
 refine za (zk U ag_154 c5 ?_)
 refine za (zd (v:=.int .i64 p1) e1 ?_)
 obtain⟨l6,n7,c8,H⟩:=H
 obtain⟨x9,c10,H⟩:=H
 refine za (op_lookup_ok' (zZ .i64) mt_154 z_170 U U c8 c10 ?_)
 refine za (zd (v:=.tuple #[.pointer x9,.bool ((mlook l6 p1).isSome)]) U ?_)
 refine za (zB U U ?_)
 refine za (zB U U ?_)
 refine za (zg (v:=.pointer x9) U ?_)
 refine za (zg (v:=.bool ((mlook l6 p1).isSome)) U ?_)
 refine zh ?_
 refine ze ?_
 refine ze ?_
 refine zc U ?_
 refine za (zd (v:=.bool ((mlook l6 p1).isSome)) U ?_)
 refine za (yi U ?_)
 refine za (zd (v:=.bool (!((mlook l6 p1).isSome))) U ?_)
 refine zF (b:=!(!((mlook l6 p1).isSome))) (zi U U) (Y x9) (fun hb N hN=>zd (v:=.pointer x9) U hN) ?_
 obtain⟨b11,o12,c13,H⟩:=H
 refine zF (b:=!(!((mlook l6 p1).isSome))) (zi U U) (Y (some ⟨b11,o12,none⟩)) (fun hb N hN=>zj (Eq.trans (gv hb) (congrArg Y (c13 (zL (zt hb))))) hN) ?_
 refine zF (b:=!(!((mlook l6 p1).isSome))) (zi U U) (Y (some ⟨b11,o12+2,none⟩)) (fun hb N hN=>zf (gv hb) fo_172_2 hN) ?_
 obtain⟨x14,c15,H⟩:=H
 refine zF (b:=!(!((mlook l6 p1).isSome))) (zi U U) (W x14) (fun hb N hN=>zk (gv hb) ag_4 (c15 (zL (zt hb))) hN) ?_
 refine zF (b:=!(!((mlook l6 p1).isSome))) (zi U U) (W (!x14)) (fun hb N hN=>yi (gv hb) hN) ?_
 refine za (zR U U (fun hq=>(gv (zP hq))) ?_)
 refine za (zd (v:=.bool ((!((mlook l6 p1).isSome)) || (!x14))) U ?_)
 refine zF (b:=!((!((mlook l6 p1).isSome)) || (!x14))) (zi U U) (Y x9) (fun hb N hN=>zd (v:=.pointer x9) U hN) ?_
 obtain⟨b16,o17,c18,H⟩:=H
 refine zF (b:=!((!((mlook l6 p1).isSome)) || (!x14))) (zi U U) (Y (some ⟨b16,o17,none⟩)) (fun hb N hN=>zj (Eq.trans (gv hb) (congrArg Y (c18 (zt hb)))) hN) ?_
 refine zF (b:=!((!((mlook l6 p1).isSome)) || (!x14))) (zi U U) (Y (some ⟨b16,o17+3,none⟩)) (fun hb N hN=>zf (gv hb) fo_172_3 hN) ?_
 obtain⟨x19,c20,H⟩:=H
 refine zF (b:=!((!((mlook l6 p1).isSome)) || (!x14))) (zi U U) (W x19) (fun hb N hN=>zk (gv hb) ag_4 (c20 (zt hb)) hN) ?_
 refine za (zR U U (fun hq=>(gv (zP hq))) ?_)
 refine za (zd (v:=.bool (((!((mlook l6 p1).isSome)) || (!x14)) || x19)) U ?_)
 refine zF (b:=!(((!((mlook l6 p1).isSome)) || (!x14)) || x19)) (zi U U) (Y x9) (fun hb N hN=>zd (v:=.pointer x9) U hN) ?_
 obtain⟨b21,o22,c23,H⟩:=H
 refine zF (b:=!(((!((mlook l6 p1).isSome)) || (!x14)) || x19)) (zi U U) (Y (some ⟨b21,o22,none⟩)) (fun hb N hN=>zj (Eq.trans (gv hb) (congrArg Y (c23 (zt hb)))) hN) ?_
 refine zF (b:=!(((!((mlook l6 p1).isSome)) || (!x14)) || x19)) (zi U U) (Y (some ⟨b21,o22+1,none⟩)) (fun hb N hN=>zf (gv hb) fo_172_1 hN) ?_
 obtain⟨x24,c25,H⟩:=H
 refine zF (b:=!(((!((mlook l6 p1).isSome)) || (!x14)) || x19)) (zi U U) (W x24) (fun hb N hN=>zk (gv hb) ag_4 (c25 (zt hb)) hN) ?_
 refine za (zR U U (fun hq=>(gv (zP hq))) ?_)
 refine zh ?_
 refine zz ((((!((mlook l6 p1).isSome)) || (!x14)) || x19) || x24) U ?_ ?_
 ·intro hb
  replace H:=H.1 hb
  refine ze ?_
  refine zc U ?_
  refine za (zg (v:=.int .i64 12) U ?_)
  refine zh ?_
  refine zx ?_
  exact zv (zq U zu) H
 ·intro hb
  replace H:=H.2 hb
  refine zC ?_
  refine ze ?_
  obtain⟨x26,c27,H⟩:=H
  obtain⟨b28,o29,rfl,H⟩:=H
  obtain⟨x31,c32,H⟩:=H
  obtain⟨l33,n34,c35,H⟩:=H
  obtain⟨x36,c37,H⟩:=H
  obtain⟨b38,o39,rfl,H⟩:=H
  obtain⟨x41_0,x41_1,x41_2,x41_3,c42,H⟩:=H
  refine zO Gfy 2 [(Y (some ⟨b1,o2,none⟩)),(Y (some ⟨b1,o2,none⟩)),(Y (some ⟨b1,o2+4,none⟩)),(Value.map x26),(Y (some ⟨b28,o29,none⟩)),(Y (some ⟨b28,o29,none⟩)),(Y (some ⟨b28,o29,none⟩)),(Z .i64 x31),(Y (some ⟨b38,o39,none⟩)),(Y (some ⟨b38,o39,none⟩)),(Y (some ⟨b38,o39,none⟩)),(Y (some ⟨b38,o39+4,none⟩)),(X #[.int .i64 x41_0,.int .u64 x41_1,.int .i64 x41_2,.int .i64 x41_3]),undef,undef] (by kernel_rfl) U mixed_PR ?_
  refine zA [13] (by decide) U (zw [0,1,2,3,4,5,6,7,8,9,10,11,12] U ⟨zb U U (zd (v:=.pointer (some ⟨b1,o2,none⟩)) e0 ⟨U,U⟩),zb U U (zj U ⟨U,U⟩),zb U U (zf U fo_156_4 ⟨U,U⟩),zb U U (zk U ag_153 c27 ⟨U,U⟩),zb U U (zd (v:=.pointer (some ⟨b28,o29,none⟩)) U ⟨U,U⟩),zb U U (zj U ⟨U,U⟩),zb U U (zf U fo_172_0 ⟨U,U⟩),zb U U (zk U ag_3 c32 ⟨U,U⟩),zb U U (yh (zZ .i64) mt_153 z_161 U U c35 c37 ⟨U,U⟩),zb U U (zj U ⟨U,U⟩),zb U U (zf U fo_166_0 ⟨U,U⟩),zb U U (zf U fo_43_4 ⟨U,U⟩),zb U U (zS U ag_41 c42 ⟨U,U⟩),V⟩) U ⟨?_,V⟩
  obtain⟨h43,c44⟩ : ∃ h43,h43=h.push (.cells #[.int .i64 0,.int .u64 0,.int .i64 0,.int .i64 0] 41 (0,0)):=⟨_,rfl⟩
  replace H:=H h43 c44
  refine zb U U (zW z_41 c44 ?_)
  obtain⟨c45,H⟩:=H
  obtain⟨c46,H⟩:=H
  obtain⟨l48,n49,c47,H⟩:=H
  obtain⟨c50,H⟩:=H
  obtain⟨c51,H⟩:=H
  refine⟨[(Value.pointer (some ⟨b1,o2,none⟩)),(Value.pointer (some ⟨b1,o2,none⟩)),(Value.pointer (some ⟨b1,o2+4,none⟩)),(Value.map x26),(Value.pointer (some ⟨b28,o29,none⟩)),(Value.pointer (some ⟨b28,o29,none⟩)),(Value.pointer (some ⟨b28,o29,none⟩)),(Value.int .i64 x31),(Value.pointer (some ⟨b38,o39,none⟩)),(Value.pointer (some ⟨b38,o39,none⟩)),(Value.pointer (some ⟨b38,o39,none⟩)),(Value.pointer (some ⟨b38,o39+4,none⟩)),(Value.agg #[.int .i64 x41_0,.int .u64 x41_1,.int .i64 x41_2,.int .i64 x41_3]),(Value.pointer (some ⟨h.size,0,none⟩)),undef],rfl,(zH [0,1,2,3,4,5,6,7,8,9,10,11,12] rfl ⟨rfl,rfl,rfl,rfl,rfl,rfl,rfl,rfl,rfl,rfl,rfl,rfl,rfl,trivial⟩),?_⟩
  refine zA [14] (by decide) U (zw [0,1,2,3,4,5,6,7,8,9,10,11,12] U ⟨zb U U (zd (v:=.pointer (some ⟨b1,o2,none⟩)) e0 ⟨U,U⟩),zb U U (zj U ⟨U,U⟩),zb U U (zf U fo_156_4 ⟨U,U⟩),zb U U (zk U ag_153 c45 ⟨U,U⟩),zb U U (zd (v:=.pointer (some ⟨b28,o29,none⟩)) U ⟨U,U⟩),zb U U (zj U ⟨U,U⟩),zb U U (zf U fo_172_0 ⟨U,U⟩),zb U U (zk U ag_3 c46 ⟨U,U⟩),zb U U (yh (zZ .i64) mt_153 z_161 U U c47 c50 ⟨U,U⟩),zb U U (zj U ⟨U,U⟩),zb U U (zf U fo_166_0 ⟨U,U⟩),zb U U (zf U fo_43_4 ⟨U,U⟩),zb U U (zS U ag_41 c51 ⟨U,U⟩),V⟩) U ⟨?_,V⟩
  obtain⟨h53,c52,H⟩:=H
  refine zb U U (zI (v:=.agg #[.int .i64 x41_0,.int .u64 x41_1,.int .i64 x41_2,.int .i64 x41_3]) U U sz_41 U c52 ?_)
  refine⟨[(Value.pointer (some ⟨b1,o2,none⟩)),(Value.pointer (some ⟨b1,o2,none⟩)),(Value.pointer (some ⟨b1,o2+4,none⟩)),(Value.map x26),(Value.pointer (some ⟨b28,o29,none⟩)),(Value.pointer (some ⟨b28,o29,none⟩)),(Value.pointer (some ⟨b28,o29,none⟩)),(Value.int .i64 x31),(Value.pointer (some ⟨b38,o39,none⟩)),(Value.pointer (some ⟨b38,o39,none⟩)),(Value.pointer (some ⟨b38,o39,none⟩)),(Value.pointer (some ⟨b38,o39+4,none⟩)),(Value.agg #[.int .i64 x41_0,.int .u64 x41_1,.int .i64 x41_2,.int .i64 x41_3]),(Value.pointer (some ⟨h.size,0,none⟩)),undef],rfl,(zH [0,1,2,3,4,5,6,7,8,9,10,11,12,13] rfl ⟨rfl,rfl,rfl,rfl,rfl,rfl,rfl,rfl,rfl,rfl,rfl,rfl,rfl,rfl,trivial⟩),?_⟩
  refine zJ U (zw [] U V) U ?_
  refine ze ?_
  refine ze ?_
  refine zc U ?_
  refine za (zd (v:=.int .i64 p2) e2 ?_)
  refine za (zY U U ?_)
  refine za (zd (v:=.bool (decide (p2<0))) U ?_)
  refine zF (b:=!(decide (p2<0))) (zi U U) (Z .i64 p2) (fun hb N hN=>zd (v:=.int .i64 p2) e2 hN) ?_
  refine zF (b:=!(decide (p2<0))) (zi U U) (Y (some ⟨h.size,3,none⟩)) (fun hb N hN=>zf U fo_41_2 hN) ?_
  obtain⟨x55,c56,H⟩:=H
  refine zF (b:=!(decide (p2<0))) (zi U U) (Z .i64 x55) (fun hb N hN=>zk (gv hb) ag_3 (c56 (zn (zt hb))) hN) ?_
  refine zF (b:=!(decide (p2<0))) (zi U U) (W (decide (x55<p2))) (fun hb N hN=>yj (gv hb) (gv hb) hN) ?_
  refine za (zR U U (fun hq=>(gv (zP hq))) ?_)
  refine za (zd (v:=.bool ((decide (p2<0)) || (decide (x55<p2)))) U ?_)
  refine zF (b:=!((decide (p2<0)) || (decide (x55<p2)))) (zi U U) (T p3a p3n p3c) (fun hb N hN=>zd (v:=.slice p3a p3n p3c) e3 hN) ?_
  refine zF (b:=!((decide (p2<0)) || (decide (x55<p2)))) (zi U U) (Z .i64 (p3n:Int)) (fun hb N hN=>zN (gv hb) un_23 hN) ?_
  refine zF (b:=!((decide (p2<0)) || (decide (x55<p2)))) (zi U U) (Y (some ⟨h.size,3,none⟩)) (fun hb N hN=>zf U fo_41_2 hN) ?_
  obtain⟨x58,c59,H⟩:=H
  refine zF (b:=!((decide (p2<0)) || (decide (x55<p2)))) (zi U U) (Z .i64 x58) (fun hb N hN=>zk (gv hb) ag_3 (c59 (zt hb)) hN) ?_
  refine zF (b:=!((decide (p2<0)) || (decide (x55<p2)))) (zi U U) (Z .i64 p2) (fun hb N hN=>zd (v:=.int .i64 p2) e2 hN) ?_
  refine zF (b:=!((decide (p2<0)) || (decide (x55<p2)))) (zi U U) (Z .i64 (IntKind.i64.wrap (x58 - p2))) (fun hb N hN=>op_sub (gv hb) (gv hb) U hN) ?_
  refine zF (b:=!((decide (p2<0)) || (decide (x55<p2)))) (zi U U) (W (decide ((IntKind.i64.wrap (x58 - p2))<(p3n:Int)))) (fun hb N hN=>yj (gv hb) (gv hb) hN) ?_
  refine za (zR U U (fun hq=>(gv (zP hq))) ?_)
  refine zh ?_
  refine zz (((decide (p2<0)) || (decide (x55<p2))) || (decide ((IntKind.i64.wrap (x58 - p2))<(p3n:Int)))) U ?_ ?_
  ·intro hb
   replace H:=H.1 hb
   refine ze ?_
   refine wpf_forget ?_
   intro fg62 hfg62
   clear hfg62
   refine zc U ?_
   refine za (zg (v:=.int .i64 1) U ?_)
   refine zh ?_
   refine zx ?_
   exact zv (zq U zu) H
  ·intro hb
   replace H:=H.2 hb
   refine zC ?_
   refine ze ?_
   refine wpf_forget ?_
   intro fg63 hfg63
   have ag63_0:fg63 0=(Value.pointer (some ⟨b1,o2,none⟩)):=by rw [hfg63]; exact e0
   have ag63_1:fg63 2=(Value.int .i64 p2):=by rw [hfg63]; exact e2
   have ag63_2:fg63 3=(Value.slice p3a p3n p3c):=by rw [hfg63]; exact e3
   have ag63_3:fg63 11=(Value.pointer (some ⟨h.size,0,none⟩)):=by rw [hfg63]; exact rfl
   clear hfg63
   obtain⟨x64,c65,H⟩:=H
   obtain⟨x66_0,x66_1,c67,H⟩:=H
   obtain⟨x68,c69,H⟩:=H
   obtain⟨c70,H⟩:=H
   refine zO Gfz 1 [(Y (some ⟨b1,o2,none⟩)),(Y (some ⟨b1,o2,none⟩)),(Y (some ⟨b1,o2,none⟩)),(Y x64),(Y (some ⟨h.size,0,none⟩)),(X #[.int .i64 x66_0,.int .u64 x66_1]),(Y (some ⟨h.size,2,none⟩)),(Z .i64 x68),(Z .i64 p2),(Z .i64 (x68+p2)),(T p3a p3n p3c),undef,undef] (by kernel_rfl) U mixed_PR ?_
   refine zA [11] (by decide) U (zw [0,1,2,3,4,5,6,7,8,9,10] U ⟨zb U U (zd (v:=.pointer (some ⟨b1,o2,none⟩)) ag63_0 ⟨U,U⟩),zb U U (zj U ⟨U,U⟩),zb U U (zf U fo_156_0 ⟨U,U⟩),zb U U (zk U ag_27 c65 ⟨U,U⟩),zb U U (zf ag63_3 fo_41_0 ⟨U,U⟩),zb U U (zS U ag_39 c67 ⟨U,U⟩),zb U U (zf ag63_3 fo_41_1 ⟨U,U⟩),zb U U (zk U ag_3 c69 ⟨U,U⟩),zb U U (zd (v:=.int .i64 p2) ag63_1 ⟨U,U⟩),zb U U (yf U U (zU c70) ⟨U,U⟩),zb U U (zd (v:=.slice p3a p3n p3c) ag63_2 ⟨U,U⟩),V⟩) U ⟨?_,V⟩
   refine zb U U (zG (vs:=[.pointer x64,.agg #[.int .i64 x66_0,.int .u64 x66_1],.int .i64 3,.int .i64 (x68+p2),.slice p3a p3n p3c]) en_91 (zm U (zm U (zm U (zm U (zm U zy))))) (CallsH.mono H ?_))
   clear H
   rintro _ h71 ⟨x73,rfl,H⟩
   refine⟨[(Value.pointer (some ⟨b1,o2,none⟩)),(Value.pointer (some ⟨b1,o2,none⟩)),(Value.pointer (some ⟨b1,o2,none⟩)),(Value.pointer x64),(Value.pointer (some ⟨h.size,0,none⟩)),(Value.agg #[.int .i64 x66_0,.int .u64 x66_1]),(Value.pointer (some ⟨h.size,2,none⟩)),(Value.int .i64 x68),(Value.int .i64 p2),(Value.int .i64 (x68+p2)),(Value.slice p3a p3n p3c),(Value.int .i64 x73),(Value.int .i64 x73)],rfl,(zH [0,1,2,3,4,5,6,7,8,9,10] rfl ⟨rfl,rfl,rfl,rfl,rfl,rfl,rfl,rfl,rfl,rfl,rfl,trivial⟩),?_⟩
   refine zJ U (zw [12] U ⟨zb U U (zg (v:=.int .i64 x73) U ⟨U,U⟩),V⟩) U ?_
   refine zx ?_
   exact zv (zq U zu) H
def Gfi:Cert:=⟨[[],[0],[0,1],[0,1,2],[],[0,1,2,3,4],[],[6],[6,7],[6,7,8],[],[6,7,8,9,10],[],[0,1,2,3,4,5,6,7,8,9,10,11],[0,1,2,3,4,5,6,7,8,9,10,11,13],[0,1,2,3,4,5,6,7,8,9,10,11,13,14],[0,1,2,3,4,5,6,7,8,9,10,11,12,13,14,15],[0,1,2,3,4,5,6,7,8,9,10,11,12,13,14,15,16],[0,1,2,3,4,5,6,7,8,9,10,11,12,13,14,15,16,17]],[false,false,false,false,false,false,false,false,false,false,false,false,false,false,false,true,false,false,true]⟩
def Gak (p0:Option Addr) (p1:Int) (p2:Int) (p3:Bool) (K:Int→Heap→Prop) (h:Heap):Prop:=
 ∃ (b1:Nat) (o2:Nat),p0=some ⟨b1,o2,none⟩∧∃ (x4:Option Addr),cellH h b1 (o2+2)=some (.pointer x4)∧CallsH PR Gm7 #[.pointer x4,.int .i64 p1,.int .i64 p2] h (fun v h6=>∃ (x8:Int),v=(Value.int .i64 x8)∧((¬ (x8=0))→K x8 h6)∧(x8=0→∃ (x10:Option Nat),cellH h6 b1 (o2+5)=some (.map x10)∧∃ (l12:List (ME Int)) (n13:Nat),mapAt (Value.int .i64) h6 x10 l12 n13∧∃ (x15:Option Addr),(mlook l12 p1).getD (Value.pointer none)=(Value.pointer x15)∧∃ (x17:Option Nat),cellH h6 b1 (o2+5)=some (.map x17)∧∃ (l19:List (ME Int)) (n20:Nat),mapAt (Value.int .i64) h6 x17 l19 n20∧∃ (x22:Option Addr),(mlook l19 p1).getD (Value.pointer none)=(Value.pointer x22)∧∃ (b24:Nat) (o25:Nat),x15=some ⟨b24,o25,none⟩∧∃ (h28:Heap),stCells b24 h6 (o25+3) [.bool true]=some h28∧∃ (b29:Nat) (o30:Nat),x22=some ⟨b29,o30,none⟩∧∃ (h33:Heap),stCells b29 h28 (o30+4) [.bool p3]=some h33∧K 0 h33))
theorem Gal (p0:Option Addr) (p1:Int) (p2:Int) (p3:Bool) (R:Value→Heap→Prop) (h:Heap) (H:Gak p0 p1 p2 p3 (fun r0 h'=>R (Value.int .i64 r0) h') h):CallsH PR Gia #[.pointer p0,.int .i64 p1,.int .i64 p2,.bool p3] h R:=by
 refine zD (args:=[.pointer p0,.int .i64 p1,.int .i64 p2,.bool p3]) Tryz.func28 U U ?_
 intro f hf
 have e0:=hf 0 _ rfl
 have e1:=hf 1 _ rfl
 have e2:=hf 2 _ rfl
 have e3:=hf 3 _ rfl
 clear hf
 unfold Gak at H
 refine ze ?_
 refine zc U ?_
 refine za (zg (v:=.int .i64 0) U ?_)
 refine zh ?_
 refine ze ?_
 refine ze ?_
 refine zc U ?_
 refine za (zd (v:=.pointer p0) e0 ?_)
 obtain⟨b1,o2,rfl,H⟩:=H
 refine za (zj U ?_)
 refine za (zf U fo_156_2 ?_)
 obtain⟨x4,c5,H⟩:=H
 refine za (zk U ag_151 c5 ?_)
 refine za (zd (v:=.int .i64 p1) e1 ?_)
 refine za (zd (v:=.int .i64 p2) e2 ?_)
 refine za (zG (vs:=[.pointer x4,.int .i64 p1,.int .i64 p2]) en_93 (zm U (zm U (zm U zy))) (CallsH.mono H ?_))
 clear H
 rintro _ h6 ⟨x8,rfl,H⟩
 refine za (zg (v:=.int .i64 x8) U ?_)
 refine zh ?_
 refine ze ?_
 refine zc U ?_
 refine za (zd (v:=.int .i64 x8) U ?_)
 refine za (op_neq U U ?_)
 refine zh ?_
 refine zz (!decide (x8=0)) U ?_ ?_
 ·intro hb
  replace H:=H.1 (zn (zt hb))
  refine ze ?_
  refine zc U ?_
  refine za (zd (v:=.int .i64 x8) U ?_)
  refine za (zg (v:=.int .i64 x8) U ?_)
  refine zh ?_
  refine zx ?_
  exact zv (zq U zu) H
 ·intro hb
  replace H:=H.2 (zo (zL hb))
  refine zC ?_
  refine ze ?_
  obtain⟨x10,c11,H⟩:=H
  obtain⟨l12,n13,c14,H⟩:=H
  obtain⟨x15,c16,H⟩:=H
  obtain⟨x17,c18,H⟩:=H
  obtain⟨l19,n20,c21,H⟩:=H
  obtain⟨x22,c23,H⟩:=H
  obtain⟨b24,o25,rfl,H⟩:=H
  refine zO Gfi 2 [(Y (some ⟨b1,o2,none⟩)),(Y (some ⟨b1,o2,none⟩)),(Y (some ⟨b1,o2+5,none⟩)),(Value.map x10),(Z .i64 p1),(Y (some ⟨b24,o25,none⟩)),(Y (some ⟨b1,o2,none⟩)),(Y (some ⟨b1,o2,none⟩)),(Y (some ⟨b1,o2+5,none⟩)),(Value.map x17),(Z .i64 p1),(Y x22),(W p3),(Y (some ⟨b24,o25,none⟩)),(Y (some ⟨b24,o25+3,none⟩)),undef,undef,undef,undef] (by kernel_rfl) U mixed_PR ?_
  refine zA [15] (by decide) U (zw [0,1,2,3,4,5,6,7,8,9,10,11,12,13,14] U ⟨zb U U (zd (v:=.pointer (some ⟨b1,o2,none⟩)) e0 ⟨U,U⟩),zb U U (zj U ⟨U,U⟩),zb U U (zf U fo_156_5 ⟨U,U⟩),zb U U (zk U ag_154 c11 ⟨U,U⟩),zb U U (zd (v:=.int .i64 p1) e1 ⟨U,U⟩),zb U U (yh (zZ .i64) mt_154 z_170 U U c14 c16 ⟨U,U⟩),zb U U (zd (v:=.pointer (some ⟨b1,o2,none⟩)) e0 ⟨U,U⟩),zb U U (zj U ⟨U,U⟩),zb U U (zf U fo_156_5 ⟨U,U⟩),zb U U (zk U ag_154 c18 ⟨U,U⟩),zb U U (zd (v:=.int .i64 p1) e1 ⟨U,U⟩),zb U U (yh (zZ .i64) mt_154 z_170 U U c21 c23 ⟨U,U⟩),zb U U (zd (v:=.bool p3) e3 ⟨U,U⟩),zb U U (zj U ⟨U,U⟩),zb U U (zf U fo_172_3 ⟨U,U⟩),V⟩) U ⟨?_,V⟩
  obtain⟨h28,c27,H⟩:=H
  refine zb U U (zI (v:=.bool true) U U sz_4 U c27 ?_)
  obtain⟨b29,o30,rfl,H⟩:=H
  refine⟨[(Value.pointer (some ⟨b1,o2,none⟩)),(Value.pointer (some ⟨b1,o2,none⟩)),(Value.pointer (some ⟨b1,o2+5,none⟩)),(Value.map x10),(Value.int .i64 p1),(Value.pointer (some ⟨b24,o25,none⟩)),(Value.pointer (some ⟨b1,o2,none⟩)),(Value.pointer (some ⟨b1,o2,none⟩)),(Value.pointer (some ⟨b1,o2+5,none⟩)),(Value.map x17),(Value.int .i64 p1),(Value.pointer (some ⟨b29,o30,none⟩)),(Value.bool p3),(Value.pointer (some ⟨b24,o25,none⟩)),(Value.pointer (some ⟨b24,o25+3,none⟩)),undef,(Value.pointer (some ⟨b29,o30,none⟩)),(Value.pointer (some ⟨b29,o30+4,none⟩)),undef],rfl,(zH [0,1,2,3,4,5,6,7,8,9,10,11,12,13,14] rfl ⟨rfl,rfl,rfl,rfl,rfl,rfl,rfl,rfl,rfl,rfl,rfl,rfl,rfl,rfl,rfl,trivial⟩),?_⟩
  refine zA [18] (by decide) U (zw [12,16,17] U ⟨zb U U (zd (v:=.bool p3) e3 ⟨U,U⟩),zb U U (zj U ⟨U,U⟩),zb U U (zf U fo_172_4 ⟨U,U⟩),V⟩) U ⟨?_,V⟩
  obtain⟨h33,c32,H⟩:=H
  refine zb U U (zI (v:=.bool p3) U U sz_4 U c32 ?_)
  refine⟨[(Value.pointer (some ⟨b1,o2,none⟩)),(Value.pointer (some ⟨b1,o2,none⟩)),(Value.pointer (some ⟨b1,o2+5,none⟩)),(Value.map x10),(Value.int .i64 p1),(Value.pointer (some ⟨b24,o25,none⟩)),(Value.pointer (some ⟨b1,o2,none⟩)),(Value.pointer (some ⟨b1,o2,none⟩)),(Value.pointer (some ⟨b1,o2+5,none⟩)),(Value.map x17),(Value.int .i64 p1),(Value.pointer (some ⟨b29,o30,none⟩)),(Value.bool p3),(Value.pointer (some ⟨b24,o25,none⟩)),(Value.pointer (some ⟨b24,o25+3,none⟩)),undef,(Value.pointer (some ⟨b29,o30,none⟩)),(Value.pointer (some ⟨b29,o30+4,none⟩)),undef],rfl,(zH [0,1,2,3,4,5,6,7,8,9,10,11,12,13,14,15,16,17] rfl ⟨rfl,rfl,rfl,rfl,rfl,rfl,rfl,rfl,rfl,rfl,rfl,rfl,rfl,rfl,rfl,rfl,rfl,rfl,trivial⟩),?_⟩
  refine zJ U (zw [] U V) U ?_
  refine ze ?_
  refine zc U ?_
  refine za (zg (v:=.int .i64 0) U ?_)
  refine zh ?_
  refine zx ?_
  exact zv (zq U zu) H
def Gg0:Cert:=⟨[[],[0],[0,1],[0,1,2],[],[4],[4,5],[4,5,6],[4,5,6,7],[4,5,6,7,8],[],[10],[10,11],[10,11,12],[0,1,2,3,4,5,6,7,8,9,10,11,12,13]],[false,false,false,false,false,false,false,false,false,false,false,false,false,false,true]⟩
def Gg1:Cert:=⟨[[],[0],[0,1],[0,1,2],[],[4],[4,5],[4,5,6],[0,1,2,3,4,5,6,7],[0,1,2,3,4,5,6,7,8],[0,1,2,3,4,5,6,7,8,9],[0,1,2,3,4,5,6,7,8,9],[0,1,2,3,4,5,6,7,8,9,10],[0,1,2,3,4,5,6,7,8,9,10,11,12]],[false,false,false,false,false,false,false,false,false,false,false,false,false,false]⟩
def Gb0 (p0:Option Addr) (p1:Int) (K:Heap→Prop) (h:Heap):Prop:=
 ∃ (b1:Nat) (o2:Nat),p0=some ⟨b1,o2,none⟩∧∃ (x4:Option Nat),cellH h b1 (o2+4)=some (.map x4)∧∃ (l6:List (ME Int)) (n7:Nat),mapAt (Value.int .i64) h x4 l6 n7∧∃ (x9:Option Addr),(mlook l6 p1).getD (Value.pointer none)=(Value.pointer x9)∧(((mlook l6 p1).isSome)=false→K h)∧(((mlook l6 p1).isSome)=true→∃ (x11:Option Addr),cellH h b1 o2=some (.pointer x11)∧∃ (b13:Nat) (o14:Nat),x9=some ⟨b13,o14,none⟩∧∃ (x16_0:Int) (x16_1:Int),ldCells h b13 (o14+4) 2=some [.int .i64 x16_0,.int .u64 x16_1]∧∃ (x18:Int),cellH h b13 (o14+9)=some (.int .i64 x18)∧CallsH PR Glt #[.pointer x11,.agg #[.int .i64 x16_0,.int .u64 x16_1],.int .i64 x18,.int .i64 1] h (fun v h20=>∃ (x22:Int),v=(Value.int .i64 x22)∧∃ (x23:Option Addr),cellH h20 b1 (o2+1)=some (.pointer x23)∧CallsH PR Gl9 #[.pointer x23,.int .i64 p1] h20 (fun v h25=>∃ (x27:Int),v=(Value.int .i64 x27)∧∃ J28:Heap→Prop,(∀ (h30:Heap),J28 h30→∃ (x31:Option Nat),cellH h30 b1 (o2+4)=some (.map x31)∧∃ (r33:Nat),x31=some r33∧∃ (l34:List (ME Int)) (n35:Nat),h30[r33]? = some (mobj (Value.int .i64) l34 n35)∧∀ (h38:Heap),h38=h30.setIfInBounds r33 (mobj (Value.int .i64) (mdel l34 p1) n35)→K h38)∧∃ (x40:Option Nat),cellH h25 b1 (o2+5)=some (.map x40)∧∃ (x42:Int),cellH h25 b13 (o14+8)=some (.int .i64 x42)∧∃ (l44:List (ME Int)) (n45:Nat),mapAt (Value.int .i64) h25 x40 l44 n45∧∃ (x47:Option Addr),(mlook l44 x42).getD (Value.pointer none)=(Value.pointer x47)∧(((mlook l44 x42).isSome)=true→∃ (b49:Nat) (o50:Nat),x47=some ⟨b49,o50,none⟩∧∃ (h53:Heap),stCells b49 h25 (o50+1) [.bool true]=some h53∧J28 h53)∧(((mlook l44 x42).isSome)=false→J28 h25))))
theorem Gb1 (p0:Option Addr) (p1:Int) (R:Value→Heap→Prop) (h:Heap) (H:Gb0 p0 p1 (fun h'=>R (Value.tuple #[]) h') h):CallsH PR Gii #[.pointer p0,.int .i64 p1] h R:=by
 refine zD (args:=[.pointer p0,.int .i64 p1]) Tryz.func77 U U ?_
 intro f hf
 have e0:=hf 0 _ rfl
 have e1:=hf 1 _ rfl
 clear hf
 unfold Gb0 at H
 refine ze ?_
 refine zc U ?_
 refine za (zd (v:=.pointer p0) e0 ?_)
 obtain⟨b1,o2,rfl,H⟩:=H
 refine za (zj U ?_)
 refine za (zf U fo_156_4 ?_)
 obtain⟨x4,c5,H⟩:=H
 refine za (zk U ag_153 c5 ?_)
 refine za (zd (v:=.int .i64 p1) e1 ?_)
 obtain⟨l6,n7,c8,H⟩:=H
 obtain⟨x9,c10,H⟩:=H
 refine za (op_lookup_ok' (zZ .i64) mt_153 z_161 U U c8 c10 ?_)
 refine za (zd (v:=.tuple #[.pointer x9,.bool ((mlook l6 p1).isSome)]) U ?_)
 refine za (zB U U ?_)
 refine za (zB U U ?_)
 refine za (zg (v:=.pointer x9) U ?_)
 refine za (zg (v:=.bool ((mlook l6 p1).isSome)) U ?_)
 refine zh ?_
 refine ze ?_
 refine ze ?_
 refine zc U ?_
 refine za (zd (v:=.bool ((mlook l6 p1).isSome)) U ?_)
 refine za (yi U ?_)
 refine zh ?_
 refine zz (!((mlook l6 p1).isSome)) U ?_ ?_
 ·intro hb
  replace H:=H.1 (zt hb)
  refine zx ?_
  exact zv zu H
 ·intro hb
  replace H:=H.2 (zL hb)
  refine zC ?_
  refine ze ?_
  obtain⟨x11,c12,H⟩:=H
  obtain⟨b13,o14,rfl,H⟩:=H
  obtain⟨x16_0,x16_1,c17,H⟩:=H
  obtain⟨x18,c19,H⟩:=H
  refine zO Gg0 1 [(Y (some ⟨b1,o2,none⟩)),(Y (some ⟨b1,o2,none⟩)),(Y (some ⟨b1,o2,none⟩)),(Y x11),(Y (some ⟨b13,o14,none⟩)),(Y (some ⟨b13,o14,none⟩)),(Y (some ⟨b13,o14,none⟩)),(Y (some ⟨b13,o14+4,none⟩)),(Y (some ⟨b13,o14+4,none⟩)),(X #[.int .i64 x16_0,.int .u64 x16_1]),(Y (some ⟨b13,o14,none⟩)),(Y (some ⟨b13,o14,none⟩)),(Y (some ⟨b13,o14+9,none⟩)),(Z .i64 x18),undef] (by kernel_rfl) U mixed_PR ?_
  refine zA [14] (by decide) U (zw [0,1,2,3,4,5,6,7,8,9,10,11,12,13] U ⟨zb U U (zd (v:=.pointer (some ⟨b1,o2,none⟩)) e0 ⟨U,U⟩),zb U U (zj U ⟨U,U⟩),zb U U (zf U fo_156_0 ⟨U,U⟩),zb U U (zk U ag_27 c12 ⟨U,U⟩),zb U U (zd (v:=.pointer (some ⟨b13,o14,none⟩)) U ⟨U,U⟩),zb U U (zj U ⟨U,U⟩),zb U U (zf U fo_166_0 ⟨U,U⟩),zb U U (zf U fo_43_4 ⟨U,U⟩),zb U U (zf U fo_41_0 ⟨U,U⟩),zb U U (zS U ag_39 c17 ⟨U,U⟩),zb U U (zd (v:=.pointer (some ⟨b13,o14,none⟩)) U ⟨U,U⟩),zb U U (zj U ⟨U,U⟩),zb U U (zf U fo_166_2 ⟨U,U⟩),zb U U (zk U ag_3 c19 ⟨U,U⟩),V⟩) U ⟨?_,V⟩
  refine zb U U (zG (vs:=[.pointer x11,.agg #[.int .i64 x16_0,.int .u64 x16_1],.int .i64 x18,.int .i64 1]) en_70 (zm U (zm U (zm U (zm U zy)))) (CallsH.mono H ?_))
  clear H
  rintro _ h20 ⟨x22,rfl,H⟩
  refine⟨[(Value.pointer (some ⟨b1,o2,none⟩)),(Value.pointer (some ⟨b1,o2,none⟩)),(Value.pointer (some ⟨b1,o2,none⟩)),(Value.pointer x11),(Value.pointer (some ⟨b13,o14,none⟩)),(Value.pointer (some ⟨b13,o14,none⟩)),(Value.pointer (some ⟨b13,o14,none⟩)),(Value.pointer (some ⟨b13,o14+4,none⟩)),(Value.pointer (some ⟨b13,o14+4,none⟩)),(Value.agg #[.int .i64 x16_0,.int .u64 x16_1]),(Value.pointer (some ⟨b13,o14,none⟩)),(Value.pointer (some ⟨b13,o14,none⟩)),(Value.pointer (some ⟨b13,o14+9,none⟩)),(Value.int .i64 x18),(Value.int .i64 x22)],rfl,(zH [0,1,2,3,4,5,6,7,8,9,10,11,12,13] rfl ⟨rfl,rfl,rfl,rfl,rfl,rfl,rfl,rfl,rfl,rfl,rfl,rfl,rfl,rfl,trivial⟩),?_⟩
  refine zJ U (zw [] U V) U ?_
  refine ze ?_
  refine zc U ?_
  refine za (zd (v:=.pointer (some ⟨b1,o2,none⟩)) e0 ?_)
  refine za (zj U ?_)
  refine za (zf U fo_156_1 ?_)
  obtain⟨x23,c24,H⟩:=H
  refine za (zk U ag_150 c24 ?_)
  refine za (zd (v:=.int .i64 p1) e1 ?_)
  refine za (zG (vs:=[.pointer x23,.int .i64 p1]) en_137 (zm U (zm U zy)) (CallsH.mono H ?_))
  clear H
  rintro _ h25 ⟨x27,rfl,H⟩
  refine zh ?_
  obtain⟨J28,HR,H⟩:=H
  obtain⟨J29,hin29,hout29⟩ : ∃ J29:Fr→Heap→Prop,(∀ f hz,f 0 = .pointer (some ⟨b1,o2,none⟩)→f 1 = .int .i64 p1→J28 hz→J29 f hz)∧(∀ f hz,J29 f hz→f 0 = .pointer (some ⟨b1,o2,none⟩)∧f 1 = .int .i64 p1∧J28 hz):=⟨fun f hz=>f 0 = .pointer (some ⟨b1,o2,none⟩)∧f 1 = .int .i64 p1∧J28 hz,fun _ _ a0 a1 z=>⟨a0,a1,z⟩,fun _ _ hz=>hz⟩
  refine ym J29 ?_ ?_
  ·skip
   refine ze ?_
   obtain⟨x40,c41,H⟩:=H
   obtain⟨x42,c43,H⟩:=H
   obtain⟨l44,n45,c46,H⟩:=H
   obtain⟨x47,c48,H⟩:=H
   refine zO Gg1 0 [(Y (some ⟨b1,o2,none⟩)),(Y (some ⟨b1,o2,none⟩)),(Y (some ⟨b1,o2+5,none⟩)),(Value.map x40),(Y (some ⟨b13,o14,none⟩)),(Y (some ⟨b13,o14,none⟩)),(Y (some ⟨b13,o14+8,none⟩)),(Z .i64 x42),(Value.tuple #[.pointer x47,.bool ((mlook l44 x42).isSome)]),(Value.tuple #[.pointer x47,.bool ((mlook l44 x42).isSome)]),(Y x47),(W ((mlook l44 x42).isSome)),(Y x47),(W ((mlook l44 x42).isSome))] (by kernel_rfl) U mixed_PR ?_
   refine zJ U (zw [0,1,2,3,4,5,6,7,8,9,10,11,12,13] U ⟨zb U U (zd (v:=.pointer (some ⟨b1,o2,none⟩)) e0 ⟨U,U⟩),zb U U (zj U ⟨U,U⟩),zb U U (zf U fo_156_5 ⟨U,U⟩),zb U U (zk U ag_154 c41 ⟨U,U⟩),zb U U (zd (v:=.pointer (some ⟨b13,o14,none⟩)) U ⟨U,U⟩),zb U U (zj U ⟨U,U⟩),zb U U (zf U fo_166_1 ⟨U,U⟩),zb U U (zk U ag_3 c43 ⟨U,U⟩),zb U U (op_lookup_ok' (zZ .i64) mt_154 z_170 U U c46 c48 ⟨U,U⟩),zb U U (zd (v:=.tuple #[.pointer x47,.bool ((mlook l44 x42).isSome)]) U ⟨U,U⟩),zb U U (zB U U ⟨U,U⟩),zb U U (zB U U ⟨U,U⟩),zb U U (zg (v:=.pointer x47) U ⟨U,U⟩),zb U U (zg (v:=.bool ((mlook l44 x42).isSome)) U ⟨U,U⟩),V⟩) U ?_
   refine ze ?_
   refine zc U ?_
   refine za (zd (v:=.bool ((mlook l44 x42).isSome)) U ?_)
   refine zh ?_
   refine zz ((mlook l44 x42).isSome) U ?_ ?_
   ·intro hb
    replace H:=H.1 hb
    refine zc U ?_
    refine za (zd (v:=.pointer x47) U ?_)
    obtain⟨b49,o50,rfl,H⟩:=H
    refine za (zj U ?_)
    refine za (zf U fo_172_1 ?_)
    obtain⟨h53,c52,H⟩:=H
    refine za (zI (v:=.bool true) U U sz_4 U c52 ?_)
    refine zh ?_
    exact hin29 _ _ e0 e1 H
   ·intro hb
    replace H:=H.2 hb
    refine zC ?_
    exact hin29 _ _ e0 e1 H
  ·clear H
   intro f h30 hf
   obtain⟨a29_0,a29_1,hJ⟩:=hout29 _ _ hf
   have H:=HR h30 hJ
   refine zc U ?_
   refine za (zd (v:=.pointer (some ⟨b1,o2,none⟩)) a29_0 ?_)
   refine za (zj U ?_)
   refine za (zf U fo_156_4 ?_)
   obtain⟨x31,c32,H⟩:=H
   refine za (zk U ag_153 c32 ?_)
   refine za (zd (v:=.int .i64 p1) a29_1 ?_)
   obtain⟨r33,rfl,H⟩:=H
   obtain⟨l34,n35,c37,H⟩:=H
   obtain⟨h38,c39⟩ : ∃ h38,h38=h30.setIfInBounds r33 (mobj (Value.int .i64) (mdel l34 p1) n35):=⟨_,rfl⟩
   replace H:=H h38 c39
   refine za (op_delete' (zZ .i64) U mt_153 U U c37 c39 ?_)
   refine zh ?_
   exact end_leaf zu H
def Gfk:Cert:=⟨[[],[0],[0,1],[0,1,2],[],[4],[4,5],[4,5,6],[],[8],[],[10],[10,11],[10,11,12],[0,1,2,3,4,5,6,7,8,9,10,11,12,13]],[false,false,false,false,false,false,false,false,false,false,false,false,false,false,true]⟩
def Gao (p0:Option Addr) (K:Int→Int→Heap→Prop) (h:Heap):Prop:=
 ∃ (b1:Nat) (o2:Nat),p0=some ⟨b1,o2,none⟩∧∃ (x4:Option Addr),cellH h b1 (o2+2)=some (.pointer x4)∧CallsH PR Gm6 #[.pointer x4] h (fun v h6=>∃ (x8:Int) (x9:Int) (x10:Int),v=(Value.tuple #[.int .i64 x8,.int .i64 x9,.int .i64 x10])∧∃ (x11:Option Addr),cellH h6 b1 (o2+2)=some (.pointer x11)∧CallsH PR Gm9 #[.pointer x11] h6 (fun v h13=>∃ (x15_0:Int) (x15_1:Int) (x15_2:Int) (x15_3:Int) (x15_4:Int) (x15_5:Int) (x15_6:Bool) (x15_7:Bool) (x15_8:Int) (x16:Int),v=(Value.tuple #[.agg #[.int .i64 x15_0,.int .i64 x15_1,.int .i64 x15_2,.int .u64 x15_3,.int .i64 x15_4,.int .i64 x15_5,.bool x15_6,.bool x15_7,.int .i64 x15_8],.int .i64 x16])∧∀ (h17:Heap),h17=h13.push (.cells #[.int .i64 0,.int .i64 0,.int .i64 0,.int .u64 0,.int .i64 0,.int .i64 0,.bool false,.bool false,.int .i64 0] 63 (0,0))→∃ (h20:Heap),stCells h13.size h17 0 [.int .i64 x15_0,.int .i64 x15_1,.int .i64 x15_2,.int .u64 x15_3,.int .i64 x15_4,.int .i64 x15_5,.bool x15_6,.bool x15_7,.int .i64 x15_8]=some h20∧((¬ (x16=0))→K 0 x16 h20)∧(x16=0→∃ (x22:Option Nat),cellH h20 b1 (o2+5)=some (.map x22)∧∃ (l24:List (ME Int)) (n25:Nat),mapAt (Value.int .i64) h20 x22 l24 n25∧∃ (x27:Option Addr),(mlook l24 x10).getD (Value.pointer none)=(Value.pointer x27)∧∃ J29:Heap→Prop,(∀ (h31:Heap),J29 h31→∃ (x32:Option Nat),cellH h31 b1 (o2+5)=some (.map x32)∧∃ (r34:Nat),x32=some r34∧∃ (l35:List (ME Int)) (n36:Nat),h31[r34]? = some (mobj (Value.int .i64) l35 n36)∧∀ (h39:Heap),h39=h31.setIfInBounds r34 (mobj (Value.int .i64) (mdel l35 x10) n36)→∃ (x41:Int),cellH h39 h13.size 1=some (.int .i64 x41)∧K x41 0 h39)∧∃ (b43:Nat) (o44:Nat),x27=some ⟨b43,o44,none⟩∧∃ (x46:Bool),cellH h20 b43 (o44+1)=some (.bool x46)∧(x46=false→∃ (x48:Option Addr),cellH h20 b1 (o2+3)=some (.pointer x48)∧∃ (x50:Int),cellH h20 b43 o44=some (.int .i64 x50)∧∃ (x52:Int),cellH h20 h13.size 8=some (.int .i64 x52)∧∃ (x54:Bool),cellH h20 b43 (o44+4)=some (.bool x54)∧CallsH PR Gik #[.pointer x48,.int .i64 x50,.int .i64 x52,.bool x54] h20 (fun v h56=>∃ (x58:Int),v=(Value.int .i64 x58)∧∃ (x59:Int),cellH h56 b43 o44=some (.int .i64 x59)∧CallsH PR Gii #[.pointer (some ⟨b1,o2,none⟩),.int .i64 x59] h56 (fun v h61=>v=(Value.tuple #[])∧J29 h61)))∧(x46=true→J29 h20))))
theorem Gap (p0:Option Addr) (R:Value→Heap→Prop) (h:Heap) (H:Gao p0 (fun r0 r1 h'=>R (Value.tuple #[.int .i64 r0,.int .i64 r1]) h') h):CallsH PR Gic #[.pointer p0] h R:=by
 refine zD (args:=[.pointer p0]) Tryz.func18 U U ?_
 intro f hf
 have e0:=hf 0 _ rfl
 clear hf
 unfold Gao at H
 refine ze ?_
 refine zc U ?_
 refine za (zg (v:=.int .i64 0) U ?_)
 refine za (zg (v:=.int .i64 0) U ?_)
 refine zh ?_
 refine ze ?_
 refine zc U ?_
 refine za (zd (v:=.pointer p0) e0 ?_)
 obtain⟨b1,o2,rfl,H⟩:=H
 refine za (zj U ?_)
 refine za (zf U fo_156_2 ?_)
 obtain⟨x4,c5,H⟩:=H
 refine za (zk U ag_151 c5 ?_)
 refine za (zG (vs:=[.pointer x4]) en_74 (zm U zy) (CallsH.mono H ?_))
 clear H
 rintro _ h6 ⟨x8,x9,x10,rfl,H⟩
 refine za (zd (v:=.tuple #[.int .i64 x8,.int .i64 x9,.int .i64 x10]) U ?_)
 refine za (zB U U ?_)
 refine za (zB U U ?_)
 refine za (zB U U ?_)
 refine za (zg (v:=.int .i64 x8) U ?_)
 refine za (zg (v:=.int .i64 x9) U ?_)
 refine za (zg (v:=.int .i64 x10) U ?_)
 refine zh ?_
 refine ze ?_
 refine zc U ?_
 refine za (zd (v:=.pointer (some ⟨b1,o2,none⟩)) e0 ?_)
 refine za (zj U ?_)
 refine za (zf U fo_156_2 ?_)
 obtain⟨x11,c12,H⟩:=H
 refine za (zk U ag_151 c12 ?_)
 refine za (zG (vs:=[.pointer x11]) en_75 (zm U zy) (CallsH.mono H ?_))
 clear H
 rintro _ h13 ⟨x15_0,x15_1,x15_2,x15_3,x15_4,x15_5,x15_6,x15_7,x15_8,x16,rfl,H⟩
 refine za (zd (v:=.tuple #[.agg #[.int .i64 x15_0,.int .i64 x15_1,.int .i64 x15_2,.int .u64 x15_3,.int .i64 x15_4,.int .i64 x15_5,.bool x15_6,.bool x15_7,.int .i64 x15_8],.int .i64 x16]) U ?_)
 refine za (zB U U ?_)
 refine za (zB U U ?_)
 obtain⟨h17,c18⟩ : ∃ h17,h17=h13.push (.cells #[.int .i64 0,.int .i64 0,.int .i64 0,.int .u64 0,.int .i64 0,.int .i64 0,.bool false,.bool false,.int .i64 0] 63 (0,0)):=⟨_,rfl⟩
 replace H:=H h17 c18
 refine za (zW z_63 c18 ?_)
 obtain⟨h20,c19,H⟩:=H
 refine za (zI (v:=.agg #[.int .i64 x15_0,.int .i64 x15_1,.int .i64 x15_2,.int .u64 x15_3,.int .i64 x15_4,.int .i64 x15_5,.bool x15_6,.bool x15_7,.int .i64 x15_8]) U U sz_63 U c19 ?_)
 refine za (zg (v:=.int .i64 x16) U ?_)
 refine zh ?_
 refine ze ?_
 refine ze ?_
 refine zc U ?_
 refine za (zd (v:=.int .i64 x16) U ?_)
 refine za (op_neq U U ?_)
 refine zh ?_
 refine zz (!decide (x16=0)) U ?_ ?_
 ·intro hb
  replace H:=H.1 (zn (zt hb))
  refine ze ?_
  refine zc U ?_
  refine za (zd (v:=.int .i64 x16) U ?_)
  refine za (zg (v:=.int .i64 0) U ?_)
  refine za (zg (v:=.int .i64 x16) U ?_)
  refine zh ?_
  refine zx ?_
  exact zv (zq U (zq U zu)) H
 ·intro hb
  replace H:=H.2 (zo (zL hb))
  refine zC ?_
  refine ze ?_
  refine zc U ?_
  refine za (zd (v:=.pointer (some ⟨b1,o2,none⟩)) e0 ?_)
  refine za (zj U ?_)
  refine za (zf U fo_156_5 ?_)
  obtain⟨x22,c23,H⟩:=H
  refine za (zk U ag_154 c23 ?_)
  refine za (zd (v:=.int .i64 x10) U ?_)
  obtain⟨l24,n25,c26,H⟩:=H
  obtain⟨x27,c28,H⟩:=H
  refine za (yh (zZ .i64) mt_154 z_170 U U c26 c28 ?_)
  refine za (zg (v:=.pointer x27) U ?_)
  refine zh ?_
  obtain⟨J29,HR,H⟩:=H
  obtain⟨J30,hin30,hout30⟩ : ∃ J30:Fr→Heap→Prop,(∀ f hz,f 0 = .pointer (some ⟨b1,o2,none⟩)→f 6 = .int .i64 x10→f 7 = .pointer (some ⟨h13.size,0,none⟩)→J29 hz→J30 f hz)∧(∀ f hz,J30 f hz→f 0 = .pointer (some ⟨b1,o2,none⟩)∧f 6 = .int .i64 x10∧f 7 = .pointer (some ⟨h13.size,0,none⟩)∧J29 hz):=⟨fun f hz=>f 0 = .pointer (some ⟨b1,o2,none⟩)∧f 6 = .int .i64 x10∧f 7 = .pointer (some ⟨h13.size,0,none⟩)∧J29 hz,fun _ _ a0 a1 a2 z=>⟨a0,a1,a2,z⟩,fun _ _ hz=>hz⟩
  refine ym J30 ?_ ?_
  ·skip
   refine ze ?_
   refine zc U ?_
   refine za (zd (v:=.pointer x27) U ?_)
   obtain⟨b43,o44,rfl,H⟩:=H
   refine za (zj U ?_)
   refine za (zf U fo_172_1 ?_)
   obtain⟨x46,c47,H⟩:=H
   refine za (zk U ag_4 c47 ?_)
   refine za (yi U ?_)
   refine zh ?_
   refine zz (!x46) U ?_ ?_
   ·intro hb
    replace H:=H.1 (zt hb)
    refine ze ?_
    obtain⟨x48,c49,H⟩:=H
    obtain⟨x50,c51,H⟩:=H
    obtain⟨x52,c53,H⟩:=H
    obtain⟨x54,c55,H⟩:=H
    refine zO Gfk 1 [(Y (some ⟨b1,o2,none⟩)),(Y (some ⟨b1,o2,none⟩)),(Y (some ⟨b1,o2+3,none⟩)),(Y x48),(Y (some ⟨b43,o44,none⟩)),(Y (some ⟨b43,o44,none⟩)),(Y (some ⟨b43,o44,none⟩)),(Z .i64 x50),(Y (some ⟨h13.size,8,none⟩)),(Z .i64 x52),(Y (some ⟨b43,o44,none⟩)),(Y (some ⟨b43,o44,none⟩)),(Y (some ⟨b43,o44+4,none⟩)),(W x54),undef] (by kernel_rfl) U mixed_PR ?_
    refine zA [14] (by decide) U (zw [0,1,2,3,4,5,6,7,8,9,10,11,12,13] U ⟨zb U U (zd (v:=.pointer (some ⟨b1,o2,none⟩)) e0 ⟨U,U⟩),zb U U (zj U ⟨U,U⟩),zb U U (zf U fo_156_3 ⟨U,U⟩),zb U U (zk U ag_152 c49 ⟨U,U⟩),zb U U (zd (v:=.pointer (some ⟨b43,o44,none⟩)) U ⟨U,U⟩),zb U U (zj U ⟨U,U⟩),zb U U (zf U fo_172_0 ⟨U,U⟩),zb U U (zk U ag_3 c51 ⟨U,U⟩),zb U U (zf U fo_63_7 ⟨U,U⟩),zb U U (zk U ag_3 c53 ⟨U,U⟩),zb U U (zd (v:=.pointer (some ⟨b43,o44,none⟩)) U ⟨U,U⟩),zb U U (zj U ⟨U,U⟩),zb U U (zf U fo_172_4 ⟨U,U⟩),zb U U (zk U ag_4 c55 ⟨U,U⟩),V⟩) U ⟨?_,V⟩
    refine zb U U (zG (vs:=[.pointer x48,.int .i64 x50,.int .i64 x52,.bool x54]) en_76 (zm U (zm U (zm U (zm U zy)))) (CallsH.mono H ?_))
    clear H
    rintro _ h56 ⟨x58,rfl,H⟩
    refine⟨[(Value.pointer (some ⟨b1,o2,none⟩)),(Value.pointer (some ⟨b1,o2,none⟩)),(Value.pointer (some ⟨b1,o2+3,none⟩)),(Value.pointer x48),(Value.pointer (some ⟨b43,o44,none⟩)),(Value.pointer (some ⟨b43,o44,none⟩)),(Value.pointer (some ⟨b43,o44,none⟩)),(Value.int .i64 x50),(Value.pointer (some ⟨h13.size,8,none⟩)),(Value.int .i64 x52),(Value.pointer (some ⟨b43,o44,none⟩)),(Value.pointer (some ⟨b43,o44,none⟩)),(Value.pointer (some ⟨b43,o44+4,none⟩)),(Value.bool x54),(Value.int .i64 x58)],rfl,(zH [0,1,2,3,4,5,6,7,8,9,10,11,12,13] rfl ⟨rfl,rfl,rfl,rfl,rfl,rfl,rfl,rfl,rfl,rfl,rfl,rfl,rfl,rfl,trivial⟩),?_⟩
    refine zJ U (zw [] U V) U ?_
    refine zc U ?_
    refine za (zd (v:=.pointer (some ⟨b1,o2,none⟩)) e0 ?_)
    refine za (zd (v:=.pointer (some ⟨b43,o44,none⟩)) U ?_)
    refine za (zj U ?_)
    refine za (zf U fo_172_0 ?_)
    obtain⟨x59,c60,H⟩:=H
    refine za (zk U ag_3 c60 ?_)
    refine za (zG (vs:=[.pointer (some ⟨b1,o2,none⟩),.int .i64 x59]) en_77 (zm U (zm U zy)) (CallsH.mono H ?_))
    clear H
    rintro _ h61 ⟨rfl,H⟩
    refine zh ?_
    exact hin30 _ _ e0 rfl rfl H
   ·intro hb
    replace H:=H.2 (zL hb)
    refine zC ?_
    exact hin30 _ _ e0 rfl rfl H
  ·clear H
   intro f h31 hf
   obtain⟨a30_0,a30_1,a30_2,hJ⟩:=hout30 _ _ hf
   have H:=HR h31 hJ
   refine ze ?_
   refine zc U ?_
   refine za (zd (v:=.pointer (some ⟨b1,o2,none⟩)) a30_0 ?_)
   refine za (zj U ?_)
   refine za (zf U fo_156_5 ?_)
   obtain⟨x32,c33,H⟩:=H
   refine za (zk U ag_154 c33 ?_)
   refine za (zd (v:=.int .i64 x10) a30_1 ?_)
   obtain⟨r34,rfl,H⟩:=H
   obtain⟨l35,n36,c38,H⟩:=H
   obtain⟨h39,c40⟩ : ∃ h39,h39=h31.setIfInBounds r34 (mobj (Value.int .i64) (mdel l35 x10) n36):=⟨_,rfl⟩
   replace H:=H h39 c40
   refine za (op_delete' (zZ .i64) U mt_154 U U c38 c40 ?_)
   refine zh ?_
   refine ze ?_
   refine zc U ?_
   refine za (zf a30_2 fo_63_1 ?_)
   obtain⟨x41,c42,H⟩:=H
   refine za (zk U ag_3 c42 ?_)
   refine za (zg (v:=.int .i64 x41) U ?_)
   refine za (zg (v:=.int .i64 0) U ?_)
   refine zh ?_
   refine zx ?_
   exact zv (zq U (zq U zu)) H
def Gag (p0:Option Addr) (p1:Int) (K:Int→Heap→Prop) (h:Heap):Prop:=
 ∃ (b1:Nat) (o2:Nat),p0=some ⟨b1,o2,none⟩∧∃ (x4:Option Addr),cellH h b1 (o2+3)=some (.pointer x4)∧CallsH PR Gil #[.pointer x4,.int .i64 p1] h (fun v h6=>∃ (x8:Int),v=(Value.int .i64 x8)∧∃ J9:Heap→Prop,(∀ (h11:Heap),J9 h11→K x8 h11)∧(x8=0→CallsH PR Gii #[.pointer (some ⟨b1,o2,none⟩),.int .i64 p1] h6 (fun v h13=>v=(Value.tuple #[])∧J9 h13))∧((¬ (x8=0))→J9 h6))
theorem Gah (p0:Option Addr) (p1:Int) (R:Value→Heap→Prop) (h:Heap) (H:Gag p0 p1 (fun r0 h'=>R (Value.int .i64 r0) h') h):CallsH PR Gi8 #[.pointer p0,.int .i64 p1] h R:=by
 refine zD (args:=[.pointer p0,.int .i64 p1]) Tryz.func31 U U ?_
 intro f hf
 have e0:=hf 0 _ rfl
 have e1:=hf 1 _ rfl
 clear hf
 unfold Gag at H
 refine ze ?_
 refine zc U ?_
 refine za (zg (v:=.int .i64 0) U ?_)
 refine zh ?_
 refine ze ?_
 refine zc U ?_
 refine za (zd (v:=.pointer p0) e0 ?_)
 obtain⟨b1,o2,rfl,H⟩:=H
 refine za (zj U ?_)
 refine za (zf U fo_156_3 ?_)
 obtain⟨x4,c5,H⟩:=H
 refine za (zk U ag_152 c5 ?_)
 refine za (zd (v:=.int .i64 p1) e1 ?_)
 refine za (zG (vs:=[.pointer x4,.int .i64 p1]) en_96 (zm U (zm U zy)) (CallsH.mono H ?_))
 clear H
 rintro _ h6 ⟨x8,rfl,H⟩
 refine za (zg (v:=.int .i64 x8) U ?_)
 refine zh ?_
 obtain⟨J9,HR,H⟩:=H
 obtain⟨J10,hin10,hout10⟩ : ∃ J10:Fr→Heap→Prop,(∀ f hz,f 5 = .int .i64 x8→J9 hz→J10 f hz)∧(∀ f hz,J10 f hz→f 5 = .int .i64 x8∧J9 hz):=⟨fun f hz=>f 5 = .int .i64 x8∧J9 hz,fun _ _ a0 z=>⟨a0,z⟩,fun _ _ hz=>hz⟩
 refine ym J10 ?_ ?_
 ·skip
  refine ze ?_
  refine zc U ?_
  refine za (zd (v:=.int .i64 x8) U ?_)
  refine za (op_eql U U ?_)
  refine zh ?_
  refine zz (decide (x8=0)) U ?_ ?_
  ·intro hb
   replace H:=H.1 (zo hb)
   refine zc U ?_
   refine za (zd (v:=.pointer (some ⟨b1,o2,none⟩)) e0 ?_)
   refine za (zd (v:=.int .i64 p1) e1 ?_)
   refine za (zG (vs:=[.pointer (some ⟨b1,o2,none⟩),.int .i64 p1]) en_77 (zm U (zm U zy)) (CallsH.mono H ?_))
   clear H
   rintro _ h13 ⟨rfl,H⟩
   refine zh ?_
   exact hin10 _ _ rfl H
  ·intro hb
   replace H:=H.2 (zn hb)
   refine zC ?_
   exact hin10 _ _ rfl H
 ·clear H
  intro f h11 hf
  obtain⟨a10_0,hJ⟩:=hout10 _ _ hf
  have H:=HR h11 hJ
  refine ze ?_
  refine zc U ?_
  refine za (zd (v:=.int .i64 x8) a10_0 ?_)
  refine za (zg (v:=.int .i64 x8) U ?_)
  refine zh ?_
  refine zx ?_
  exact zv (zq U zu) H
def Gfj:Cert:=⟨[[],[0],[0,1],[0,1,2],[],[4],[0,1,2,3,4,5],[0,1,2,3,4,5,6],[0,1,2,3,4,5,6,7],[0,1,2,3,4,5,6,7],[0,1,2,3,4,5,6,7,8],[0,1,2,3,4,5,6,7,8,9,10]],[false,false,false,false,false,false,true,false,false,false,false,false]⟩
def Gam (p0:Option Addr) (p1:Int) (K:Option Addr→Nat→Nat→Int→Heap→Prop) (h:Heap):Prop:=
 ∃ (b1:Nat) (o2:Nat),p0=some ⟨b1,o2,none⟩∧∃ (x4:Option Addr),cellH h b1 (o2+3)=some (.pointer x4)∧CallsH PR Gin #[.pointer x4,.int .u64 p1] h (fun v h6=>∃ (x8a:Option Addr) (x8n:Nat) (x8c:Nat) (x9:Int),v=(Value.tuple #[.slice x8a x8n x8c,.int .i64 x9])∧∃ (I11:Int→Heap→Prop) (mu12:Int→Heap→Nat),I11 0 h6∧∀ (x10:Int) (h14:Heap),I11 x10 h14→(x10<(x8n:Int)→∃ J16:Heap→Prop,(∀ (h18:Heap),J16 h18→(-9223372036854775808≤x10+1∧x10+1<9223372036854775808)∧(I11 (x10+1) h18∧mu12 (x10+1) h18<mu12 x10 h14))∧∃ (b21:Nat) (o22:Nat),x8a=some ⟨b21,o22,none⟩∧(0≤x10∧x10<(x8n:Int))∧∃ (x24_0:Int) (x24_1:Int) (x24_2:Int),ldCells h14 b21 (o22+x10.toNat * 3) 3=some [.int .i64 x24_0,.int .i64 x24_1,.int .i64 x24_2]∧∀ (h26:Heap),h26=h14.push (.cells #[.int .i64 0,.int .i64 0,.int .i64 0] 74 (0,0))→∃ (h29:Heap),stCells h14.size h26 0 [.int .i64 x24_0,.int .i64 x24_1,.int .i64 x24_2]=some h29∧∃ (x30:Option Addr),cellH h29 b1 (o2+3)=some (.pointer x30)∧∃ (x32:Int),cellH h29 h14.size 0=some (.int .i64 x32)∧CallsH PR Gio #[.pointer x30,.int .i64 x32] h29 (fun v h34=>∃ (x36:Int) (x37:Bool),v=(Value.tuple #[.int .u64 x36,.bool x37])∧(x37=false→∃ (x38:Int),cellH h34 h14.size 0=some (.int .i64 x38)∧CallsH PR Gii #[.pointer (some ⟨b1,o2,none⟩),.int .i64 x38] h34 (fun v h40=>v=(Value.tuple #[])∧J16 h40))∧(x37=true→J16 h34)))∧((¬ (x10<(x8n:Int)))→K x8a x8n x8c x9 h14))
theorem Gan (p0:Option Addr) (p1:Int) (R:Value→Heap→Prop) (h:Heap) (H:Gam p0 p1 (fun r0a r0n r0c r1 h'=>R (Value.tuple #[.slice r0a r0n r0c,.int .i64 r1]) h') h):CallsH PR Gib #[.pointer p0,.int .u64 p1] h R:=by
 refine zD (args:=[.pointer p0,.int .u64 p1]) Tryz.func29 U U ?_
 intro f hf
 have e0:=hf 0 _ rfl
 have e1:=hf 1 _ rfl
 clear hf
 unfold Gam at H
 refine ze ?_
 refine zc U ?_
 refine za (zg (v:=.slice none 0 0) U ?_)
 refine za (zg (v:=.int .i64 0) U ?_)
 refine zh ?_
 refine ze ?_
 refine zc U ?_
 refine za (zd (v:=.pointer p0) e0 ?_)
 obtain⟨b1,o2,rfl,H⟩:=H
 refine za (zj U ?_)
 refine za (zf U fo_156_3 ?_)
 obtain⟨x4,c5,H⟩:=H
 refine za (zk U ag_152 c5 ?_)
 refine za (zd (v:=.int .u64 p1) e1 ?_)
 refine za (zG (vs:=[.pointer x4,.int .u64 p1]) en_94 (zm U (zm U zy)) (CallsH.mono H ?_))
 clear H
 rintro _ h6 ⟨x8a,x8n,x8c,x9,rfl,H⟩
 refine za (zd (v:=.tuple #[.slice x8a x8n x8c,.int .i64 x9]) U ?_)
 refine za (zB U U ?_)
 refine za (zB U U ?_)
 refine za (zg (v:=.slice x8a x8n x8c) U ?_)
 refine za (zg (v:=.int .i64 x9) U ?_)
 refine zh ?_
 refine ze ?_
 refine ze ?_
 refine zc U ?_
 refine za (zd (v:=.slice x8a x8n x8c) U ?_)
 refine za (zN U un_70 ?_)
 refine za (zd (v:=.int .i64 0) U ?_)
 refine zh ?_
 refine zK ?_
 obtain⟨I11,mu12,hI,H⟩:=H
 obtain⟨I13,mu13,hin13,hout13,hmu13⟩ : ∃ (J13:Fr→Heap→Prop) (m:Fr→Heap→Nat),(∀ f hz (x10:Int),f 23 = .int .i64 x10→f 0 = .pointer (some ⟨b1,o2,none⟩)→f 6 = .slice x8a x8n x8c→f 7 = .int .i64 x9→f 21 = .slice x8a x8n x8c→f 22 = .int .i64 (x8n:Int)→I11 x10 hz→J13 f hz)∧(∀ f hz,J13 f hz→∃ (x10:Int),f 23 = .int .i64 x10∧f 0 = .pointer (some ⟨b1,o2,none⟩)∧f 6 = .slice x8a x8n x8c∧f 7 = .int .i64 x9∧f 21 = .slice x8a x8n x8c∧f 22 = .int .i64 (x8n:Int)∧I11 x10 hz)∧(∀ f hz (x10:Int),f 23 = .int .i64 x10→m f hz=mu12 x10 hz):=⟨fun f hz=>∃ (x10:Int),f 23 = .int .i64 x10∧f 0 = .pointer (some ⟨b1,o2,none⟩)∧f 6 = .slice x8a x8n x8c∧f 7 = .int .i64 x9∧f 21 = .slice x8a x8n x8c∧f 22 = .int .i64 (x8n:Int)∧I11 x10 hz,fun f hz=>mu12 (dInt (f 23)) hz,fun _ _ x10 a0 a1 a2 a3 a4 a5 z=>⟨x10,a0,a1,a2,a3,a4,a5,z⟩,fun _ _ hz=>hz,fun f hz x10 a0=>by simp only [a0]; rfl⟩
 refine yb I13 mu13 (hin13 _ _ _ U e0 U U U U hI) ?_
 clear hI
 intro f h14 hf
 obtain⟨x10,a13_0,a13_1,a13_2,a13_3,a13_4,a13_5,hJ⟩:=hout13 _ _ hf
 replace H:=H x10 h14 hJ
 refine ze ?_
 refine zc U ?_
 refine za (zY a13_0 a13_5 ?_)
 refine zh ?_
 refine ze ?_
 refine zz (decide (x10<(x8n:Int))) U ?_ ?_
 ·intro hb
  replace H:=H.1 (zo hb)
  refine zC ?_
  obtain⟨J16,HR,H⟩:=H
  obtain⟨J17,hin17,hout17⟩ : ∃ J17:Fr→Heap→Prop,(∀ f hz,f 0 = .pointer (some ⟨b1,o2,none⟩)→f 6 = .slice x8a x8n x8c→f 7 = .int .i64 x9→f 21 = .slice x8a x8n x8c→f 22 = .int .i64 (x8n:Int)→f 23 = .int .i64 x10→J16 hz→J17 f hz)∧(∀ f hz,J17 f hz→f 0 = .pointer (some ⟨b1,o2,none⟩)∧f 6 = .slice x8a x8n x8c∧f 7 = .int .i64 x9∧f 21 = .slice x8a x8n x8c∧f 22 = .int .i64 (x8n:Int)∧f 23 = .int .i64 x10∧J16 hz):=⟨fun f hz=>f 0 = .pointer (some ⟨b1,o2,none⟩)∧f 6 = .slice x8a x8n x8c∧f 7 = .int .i64 x9∧f 21 = .slice x8a x8n x8c∧f 22 = .int .i64 (x8n:Int)∧f 23 = .int .i64 x10∧J16 hz,fun _ _ a0 a1 a2 a3 a4 a5 z=>⟨a0,a1,a2,a3,a4,a5,z⟩,fun _ _ hz=>hz⟩
  refine ym J17 ?_ ?_
  ·skip
   refine zK ?_
   refine ze ?_
   refine zc U ?_
   obtain⟨b21,o22,rfl,H⟩:=H
   obtain⟨c20,H⟩:=H
   refine za (zE a13_4 a13_0 ei_70 c20 ?_)
   obtain⟨x24_0,x24_1,x24_2,c25,H⟩:=H
   refine za (zS U ag_74 c25 ?_)
   obtain⟨h26,c27⟩ : ∃ h26,h26=h14.push (.cells #[.int .i64 0,.int .i64 0,.int .i64 0] 74 (0,0)):=⟨_,rfl⟩
   replace H:=H h26 c27
   refine za (zW z_74 c27 ?_)
   obtain⟨h29,c28,H⟩:=H
   refine za (zI (v:=.agg #[.int .i64 x24_0,.int .i64 x24_1,.int .i64 x24_2]) U U sz_74 U c28 ?_)
   refine zh ?_
   refine ze ?_
   obtain⟨x30,c31,H⟩:=H
   obtain⟨x32,c33,H⟩:=H
   refine zO Gfj 1 [(Y (some ⟨b1,o2,none⟩)),(Y (some ⟨b1,o2,none⟩)),(Y (some ⟨b1,o2+3,none⟩)),(Y x30),(Y (some ⟨h14.size,0,none⟩)),(Z .i64 x32),undef,undef,undef,undef,undef,undef] (by kernel_rfl) U mixed_PR ?_
   refine zA [6] (by decide) U (zw [0,1,2,3,4,5] U ⟨zb U U (zd (v:=.pointer (some ⟨b1,o2,none⟩)) a13_1 ⟨U,U⟩),zb U U (zj U ⟨U,U⟩),zb U U (zf U fo_156_3 ⟨U,U⟩),zb U U (zk U ag_152 c31 ⟨U,U⟩),zb U U (zf U fo_74_0 ⟨U,U⟩),zb U U (zk U ag_3 c33 ⟨U,U⟩),V⟩) U ⟨?_,V⟩
   refine zb U U (zG (vs:=[.pointer x30,.int .i64 x32]) en_95 (zm U (zm U zy)) (CallsH.mono H ?_))
   clear H
   rintro _ h34 ⟨x36,x37,rfl,H⟩
   refine⟨[(Value.pointer (some ⟨b1,o2,none⟩)),(Value.pointer (some ⟨b1,o2,none⟩)),(Value.pointer (some ⟨b1,o2+3,none⟩)),(Value.pointer x30),(Value.pointer (some ⟨h14.size,0,none⟩)),(Value.int .i64 x32),(Value.tuple #[.int .u64 x36,.bool x37]),(Value.tuple #[.int .u64 x36,.bool x37]),(Value.int .u64 x36),(Value.bool x37),(Value.int .u64 x36),(Value.bool x37)],rfl,(zH [0,1,2,3,4,5] rfl ⟨rfl,rfl,rfl,rfl,rfl,rfl,trivial⟩),?_⟩
   refine zJ U (zw [7,8,9,10,11] U ⟨zb U U (zd (v:=.tuple #[.int .u64 x36,.bool x37]) U ⟨U,U⟩),zb U U (zB U U ⟨U,U⟩),zb U U (zB U U ⟨U,U⟩),zb U U (zg (v:=.int .u64 x36) U ⟨U,U⟩),zb U U (zg (v:=.bool x37) U ⟨U,U⟩),V⟩) U ?_
   refine ze ?_
   refine zc U ?_
   refine za (zd (v:=.bool x37) U ?_)
   refine za (yi U ?_)
   refine zh ?_
   refine zz (!x37) U ?_ ?_
   ·intro hb
    replace H:=H.1 (zt hb)
    refine zc U ?_
    refine za (zd (v:=.pointer (some ⟨b1,o2,none⟩)) a13_1 ?_)
    refine za (zf U fo_74_0 ?_)
    obtain⟨x38,c39,H⟩:=H
    refine za (zk U ag_3 c39 ?_)
    refine za (zG (vs:=[.pointer (some ⟨b1,o2,none⟩),.int .i64 x38]) en_77 (zm U (zm U zy)) (CallsH.mono H ?_))
    clear H
    rintro _ h40 ⟨rfl,H⟩
    refine zh ?_
    exact hin17 _ _ a13_1 a13_2 a13_3 a13_4 a13_5 a13_0 H
   ·intro hb
    replace H:=H.2 (zL hb)
    refine zC ?_
    exact hin17 _ _ a13_1 a13_2 a13_3 a13_4 a13_5 a13_0 H
  ·clear H
   intro f h18 hf
   obtain⟨a17_0,a17_1,a17_2,a17_3,a17_4,a17_5,hJ⟩:=hout17 _ _ hf
   have H:=HR h18 hJ
   refine zc U ?_
   obtain⟨c19,H⟩:=H
   refine za (yf a17_5 U (zU c19) ?_)
   refine za (zd (v:=.int .i64 (x10+1)) U ?_)
   refine zh ?_
   exact And.intro (hin13 _ _ _ rfl a17_0 a17_1 a17_2 a17_3 a17_4 H.1) (yk (hmu13 _ _ _ rfl) (hmu13 _ _ _ a13_0) H.2)
 ·intro hb
  replace H:=H.2 (zn hb)
  refine ya ?_
  refine ze ?_
  refine zc U ?_
  refine za (zd (v:=.slice x8a x8n x8c) a13_2 ?_)
  refine za (zd (v:=.int .i64 x9) a13_3 ?_)
  refine za (zg (v:=.slice x8a x8n x8c) U ?_)
  refine za (zg (v:=.int .i64 x9) U ?_)
  refine zh ?_
  refine zx ?_
  exact zv (zq U (zq U zu)) H
def Gfh:Cert:=⟨[[],[0],[0,1],[0,1,2],[0,1,2,3],[0,1,2,3,4],[],[6],[6,7],[6,7,8],[0,1,2,3,4,6,7,8,9],[0,1,2,3,4,5,6,7,8,9,10],[0,1,2,3,4,5,6,7,8,9,10,11]],[false,false,false,false,true,false,false,false,false,false,false,false,false]⟩
def Gai (p0:Option Addr) (K:Int→Int→Heap→Prop) (h:Heap):Prop:=
 ∃ (b1:Nat) (o2:Nat),p0=some ⟨b1,o2,none⟩∧∃ (x4:Option Addr),cellH h b1 (o2+1)=some (.pointer x4)∧∃ (x6:Option Nat),cellH h b1 (o2+5)=some (.map x6)∧CallsH PR Gl8 #[.pointer x4] h (fun v h8=>∃ (x10a:Option Addr) (x10n:Nat) (x10c:Nat),v=(Value.slice x10a x10n x10c)∧cellH h8 b1 (o2+5)=some (Value.map x6)∧∃ (l12:List (ME Int)) (n13:Nat),mapAt (Value.int .i64) h8 x6 l12 n13∧K (x10n:Int) (l12.length:Int) h8)
theorem Gaj (p0:Option Addr) (R:Value→Heap→Prop) (h:Heap) (H:Gai p0 (fun r0 r1 h'=>R (Value.tuple #[.int .i64 r0,.int .i64 r1]) h') h):CallsH PR Gi9 #[.pointer p0] h R:=by
 refine zD (args:=[.pointer p0]) Tryz.func30 U U ?_
 intro f hf
 have e0:=hf 0 _ rfl
 clear hf
 unfold Gai at H
 refine ze ?_
 refine zc U ?_
 refine za (zg (v:=.int .i64 0) U ?_)
 refine za (zg (v:=.int .i64 0) U ?_)
 refine zh ?_
 refine ze ?_
 obtain⟨b1,o2,rfl,H⟩:=H
 obtain⟨x4,c5,H⟩:=H
 obtain⟨x6,c7,H⟩:=H
 refine zO Gfh 1 [(Y (some ⟨b1,o2,none⟩)),(Y (some ⟨b1,o2,none⟩)),(Y (some ⟨b1,o2+1,none⟩)),(Y x4),undef,undef,(Y (some ⟨b1,o2,none⟩)),(Y (some ⟨b1,o2,none⟩)),(Y (some ⟨b1,o2+5,none⟩)),(Value.map x6),undef,undef,undef] (by kernel_rfl) U mixed_PR ?_
 refine zA [4] (by decide) U (zw [0,1,2,3,6,7,8,9] U ⟨zb U U (zd (v:=.pointer (some ⟨b1,o2,none⟩)) e0 ⟨U,U⟩),zb U U (zj U ⟨U,U⟩),zb U U (zf U fo_156_1 ⟨U,U⟩),zb U U (zk U ag_150 c5 ⟨U,U⟩),zb U U (zd (v:=.pointer (some ⟨b1,o2,none⟩)) e0 ⟨U,U⟩),zb U U (zj U ⟨U,U⟩),zb U U (zf U fo_156_5 ⟨U,U⟩),zb U U (zk U ag_154 c7 ⟨U,U⟩),V⟩) U ⟨?_,V⟩
 refine zb U U (zG (vs:=[.pointer x4]) en_67 (zm U zy) (CallsH.mono H ?_))
 clear H
 rintro _ h8 ⟨x10a,x10n,x10c,rfl,H⟩
 obtain⟨c11,H⟩:=H
 obtain⟨l12,n13,c14,H⟩:=H
 refine⟨[(Value.pointer (some ⟨b1,o2,none⟩)),(Value.pointer (some ⟨b1,o2,none⟩)),(Value.pointer (some ⟨b1,o2+1,none⟩)),(Value.pointer x4),(Value.slice x10a x10n x10c),(Value.int .i64 (x10n:Int)),(Value.pointer (some ⟨b1,o2,none⟩)),(Value.pointer (some ⟨b1,o2,none⟩)),(Value.pointer (some ⟨b1,o2+5,none⟩)),(Value.map x6),(Value.int .i64 (l12.length:Int)),(Value.int .i64 (x10n:Int)),(Value.int .i64 (l12.length:Int))],rfl,(zH [0,1,2,3,6,7,8,9] rfl ⟨rfl,rfl,rfl,rfl,rfl,rfl,rfl,rfl,trivial⟩),?_⟩
 refine zJ U (zw [5,6,7,8,9,10,11,12] U ⟨zb U U (zN U un_107 ⟨U,U⟩),zb U U (zd (v:=.pointer (some ⟨b1,o2,none⟩)) e0 ⟨U,U⟩),zb U U (zj U ⟨U,U⟩),zb U U (zf U fo_156_5 ⟨U,U⟩),zb U U (zk U ag_154 c11 ⟨U,U⟩),zb U U (op_len_map un_154 U c14 ⟨U,U⟩),zb U U (zg (v:=.int .i64 (x10n:Int)) U ⟨U,U⟩),zb U U (zg (v:=.int .i64 (l12.length:Int)) U ⟨U,U⟩),V⟩) U ?_
 refine zx ?_
 exact zv (zq U (zq U zu)) H
end Go.Proofs.Vf
