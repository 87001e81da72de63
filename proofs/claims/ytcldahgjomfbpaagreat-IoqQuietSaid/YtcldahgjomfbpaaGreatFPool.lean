/- Printed by a program of this claim: for each Go function named below a formula over the heap, and the proof that it gives the call of that function. No conditions. -/
import Derived.Test.YtcldahgjomfbpaaGreatBase
namespace Go.Proofs.Vf
open Go Go.Proofs Go.VC
set_option maxRecDepth 100000
set_option maxHeartbeats 4000000
set_option linter.unusedVariables false
def Gd6 (p0a:Option Addr) (p0n:Nat) (p0c:Nat) (K:Bool→Heap→Prop) (h:Heap):Prop:=
 ∃ (I3:Int→Int→Heap→Prop) (mu4:Int→Int→Heap→Nat),I3 0 0 h∧∀ (x1:Int) (x2:Int) (h6:Heap),I3 x1 x2 h6→(x2<(p0n:Int)→∃ (b9:Nat) (o10:Nat),p0a=some ⟨b9,o10,none⟩∧(0≤x2∧x2<(p0n:Int))∧∃ (x12_0:Int) (x12_1:Int),ldCells h6 b9 (o10+x2.toNat * 2) 2=some [.int .i64 x12_0,.int .i64 x12_1]∧∀ (h14:Heap),h14=h6.push (.cells #[.int .i64 0,.int .i64 0] 202 (0,0))→∃ (h17:Heap),stCells h6.size h14 0 [.int .i64 x12_0,.int .i64 x12_1]=some h17∧∃ (x18:Int),cellH h17 h6.size 0=some (.int .i64 x18)∧∃ (x21:Int),((¬ (x18≤x1))→cellH h17 h6.size 0=some (.int .i64 x21))∧∃ (x24:Int),((((decide (x18≤x1)) || (decide (65536<x21)))=false)→cellH h17 h6.size 1=some (.int .i64 x24))∧∃ (x27:Int),(((((decide (x18≤x1)) || (decide (65536<x21))) || (decide (x24<1)))=false)→cellH h17 h6.size 1=some (.int .i64 x27))∧(((((decide (x18≤x1)) || (decide (65536<x21))) || (decide (x24<1))) || (decide (100<x27)))=true→K false h17)∧(((((decide (x18≤x1)) || (decide (65536<x21))) || (decide (x24<1))) || (decide (100<x27)))=false→∃ (x30:Int),cellH h17 h6.size 0=some (.int .i64 x30)∧(-9223372036854775808≤x2+1∧x2+1<9223372036854775808)∧(I3 x30 (x2+1) h17∧mu4 x30 (x2+1) h17<mu4 x1 x2 h6)))∧((¬ (x2<(p0n:Int)))→K ((decide (1≤(p0n:Int))) && (decide ((p0n:Int)≤8))) h6)
theorem Gd7 (p0a:Option Addr) (p0n:Nat) (p0c:Nat) (R:Value→Heap→Prop) (h:Heap) (H:Gd6 p0a p0n p0c (fun r0 h'=>R (Value.bool r0) h') h):CallsH PR Glp #[.slice p0a p0n p0c] h R:=by
 refine zD (args:=[.slice p0a p0n p0c]) Tryz.func115 U U ?_
 intro f hf
 have e0:=hf 0 _ rfl
 clear hf
 unfold Gd6 at H
 refine ze ?_
 refine zc U ?_
 refine za (zg (v:=.bool false) U ?_)
 refine zh ?_
 refine ze ?_
 refine zc U ?_
 refine za (zg (v:=.int .i64 0) U ?_)
 refine zh ?_
 refine ze ?_
 refine ze ?_
 refine zc U ?_
 refine za (zd (v:=.slice p0a p0n p0c) e0 ?_)
 refine za (zN U un_86 ?_)
 refine za (zd (v:=.int .i64 0) U ?_)
 refine zh ?_
 refine zK ?_
 obtain⟨I3,mu4,hI,H⟩:=H
 obtain⟨I5,mu5,hin5,hout5,hmu5⟩ : ∃ (J5:Fr→Heap→Prop) (m:Fr→Heap→Nat),(∀ f hz (x1:Int) (x2:Int),f 3 = .int .i64 x1→f 8 = .int .i64 x2→f 0 = .slice p0a p0n p0c→f 6 = .slice p0a p0n p0c→f 7 = .int .i64 (p0n:Int)→I3 x1 x2 hz→J5 f hz)∧(∀ f hz,J5 f hz→∃ (x1:Int) (x2:Int),f 3 = .int .i64 x1∧f 8 = .int .i64 x2∧f 0 = .slice p0a p0n p0c∧f 6 = .slice p0a p0n p0c∧f 7 = .int .i64 (p0n:Int)∧I3 x1 x2 hz)∧(∀ f hz (x1:Int) (x2:Int),f 3 = .int .i64 x1→f 8 = .int .i64 x2→m f hz=mu4 x1 x2 hz):=⟨fun f hz=>∃ (x1:Int) (x2:Int),f 3 = .int .i64 x1∧f 8 = .int .i64 x2∧f 0 = .slice p0a p0n p0c∧f 6 = .slice p0a p0n p0c∧f 7 = .int .i64 (p0n:Int)∧I3 x1 x2 hz,fun f hz=>mu4 (dInt (f 3)) (dInt (f 8)) hz,fun _ _ x1 x2 a0 a1 a2 a3 a4 z=>⟨x1,x2,a0,a1,a2,a3,a4,z⟩,fun _ _ hz=>hz,fun f hz x1 x2 a0 a1=>by simp only [a0,a1]; rfl⟩
 refine yb I5 mu5 (hin5 _ _ _ _ U U e0 U U hI) ?_
 clear hI
 intro f h6 hf
 obtain⟨x1,x2,a5_0,a5_1,a5_2,a5_3,a5_4,hJ⟩:=hout5 _ _ hf
 replace H:=H x1 x2 h6 hJ
 refine ze ?_
 refine zc U ?_
 refine za (zY a5_1 a5_4 ?_)
 refine zh ?_
 refine ze ?_
 refine zz (decide (x2<(p0n:Int))) U ?_ ?_
 ·intro hb
  replace H:=H.1 (zo hb)
  refine zC ?_
  refine ze ?_
  refine zK ?_
  refine ze ?_
  refine zc U ?_
  obtain⟨b9,o10,rfl,H⟩:=H
  obtain⟨c8,H⟩:=H
  refine za (zE a5_3 a5_1 ei_86 c8 ?_)
  obtain⟨x12_0,x12_1,c13,H⟩:=H
  refine za (zS U ag_202 c13 ?_)
  obtain⟨h14,c15⟩ : ∃ h14,h14=h6.push (.cells #[.int .i64 0,.int .i64 0] 202 (0,0)):=⟨_,rfl⟩
  replace H:=H h14 c15
  refine za (zW z_202 c15 ?_)
  obtain⟨h17,c16,H⟩:=H
  refine za (zI (v:=.agg #[.int .i64 x12_0,.int .i64 x12_1]) U U sz_202 U c16 ?_)
  refine zh ?_
  refine ze ?_
  refine ze ?_
  refine zc U ?_
  refine za (zf U fo_202_0 ?_)
  obtain⟨x18,c19,H⟩:=H
  refine za (zk U ag_3 c19 ?_)
  refine za (zd (v:=.int .i64 x1) a5_0 ?_)
  refine za (op_leq U U ?_)
  refine za (zd (v:=.bool (decide (x18≤x1))) U ?_)
  refine zF (b:=!(decide (x18≤x1))) (zi U U) (Y (some ⟨h6.size,0,none⟩)) (fun hb N hN=>zf U fo_202_0 hN) ?_
  obtain⟨x21,c22,H⟩:=H
  refine zF (b:=!(decide (x18≤x1))) (zi U U) (Z .i64 x21) (fun hb N hN=>zk (gv hb) ag_3 (c22 (zn (zt hb))) hN) ?_
  refine zF (b:=!(decide (x18≤x1))) (zi U U) (W (decide (65536<x21))) (fun hb N hN=>yj (gv hb) U hN) ?_
  refine za (zR U U (fun hq=>(gv (zP hq))) ?_)
  refine za (zd (v:=.bool ((decide (x18≤x1)) || (decide (65536<x21)))) U ?_)
  refine zF (b:=!((decide (x18≤x1)) || (decide (65536<x21)))) (zi U U) (Y (some ⟨h6.size,1,none⟩)) (fun hb N hN=>zf U fo_202_1 hN) ?_
  obtain⟨x24,c25,H⟩:=H
  refine zF (b:=!((decide (x18≤x1)) || (decide (65536<x21)))) (zi U U) (Z .i64 x24) (fun hb N hN=>zk (gv hb) ag_3 (c25 (zt hb)) hN) ?_
  refine zF (b:=!((decide (x18≤x1)) || (decide (65536<x21)))) (zi U U) (W (decide (x24<1))) (fun hb N hN=>zY (gv hb) U hN) ?_
  refine za (zR U U (fun hq=>(gv (zP hq))) ?_)
  refine za (zd (v:=.bool (((decide (x18≤x1)) || (decide (65536<x21))) || (decide (x24<1)))) U ?_)
  refine zF (b:=!(((decide (x18≤x1)) || (decide (65536<x21))) || (decide (x24<1)))) (zi U U) (Y (some ⟨h6.size,1,none⟩)) (fun hb N hN=>zf U fo_202_1 hN) ?_
  obtain⟨x27,c28,H⟩:=H
  refine zF (b:=!(((decide (x18≤x1)) || (decide (65536<x21))) || (decide (x24<1)))) (zi U U) (Z .i64 x27) (fun hb N hN=>zk (gv hb) ag_3 (c28 (zt hb)) hN) ?_
  refine zF (b:=!(((decide (x18≤x1)) || (decide (65536<x21))) || (decide (x24<1)))) (zi U U) (W (decide (100<x27))) (fun hb N hN=>yj (gv hb) U hN) ?_
  refine za (zR U U (fun hq=>(gv (zP hq))) ?_)
  refine zh ?_
  refine zz ((((decide (x18≤x1)) || (decide (65536<x21))) || (decide (x24<1))) || (decide (100<x27))) U ?_ ?_
  ·intro hb
   replace H:=H.1 hb
   refine ze ?_
   refine zc U ?_
   refine za (zg (v:=.bool false) U ?_)
   refine zh ?_
   refine zx ?_
   exact zv (zq U zu) H
  ·intro hb
   replace H:=H.2 hb
   refine zC ?_
   refine zc U ?_
   refine za (zf U fo_202_0 ?_)
   obtain⟨x30,c31,H⟩:=H
   refine za (zk U ag_3 c31 ?_)
   refine za (zg (v:=.int .i64 x30) U ?_)
   refine zh ?_
   refine zc U ?_
   obtain⟨c32,H⟩:=H
   refine za (yf a5_1 U (zU c32) ?_)
   refine za (zd (v:=.int .i64 (x2+1)) U ?_)
   refine zh ?_
   exact And.intro (hin5 _ _ _ _ rfl rfl a5_2 a5_3 a5_4 H.1) (yk (hmu5 _ _ _ _ rfl rfl) (hmu5 _ _ _ _ a5_0 a5_1) H.2)
 ·intro hb
  replace H:=H.2 (zn hb)
  refine ya ?_
  refine ze ?_
  refine zc U ?_
  refine za (zd (v:=.slice p0a p0n p0c) a5_2 ?_)
  refine za (zN U un_86 ?_)
  refine za (op_geq U U ?_)
  refine za (zd (v:=.bool (decide (1≤(p0n:Int)))) U ?_)
  refine zF (b:=decide (1≤(p0n:Int))) (zi U U) (T p0a p0n p0c) (fun hb N hN=>zd (v:=.slice p0a p0n p0c) a5_2 hN) ?_
  refine zF (b:=decide (1≤(p0n:Int))) (zi U U) (Z .i64 (p0n:Int)) (fun hb N hN=>zN (gv hb) un_86 hN) ?_
  refine zF (b:=decide (1≤(p0n:Int))) (zi U U) (W (decide ((p0n:Int)≤8))) (fun hb N hN=>op_leq (gv hb) U hN) ?_
  refine za (zV U (fun hq=>(gv hq)) U ?_)
  refine za (zg (v:=.bool ((decide (1≤(p0n:Int))) && (decide ((p0n:Int)≤8)))) U ?_)
  refine zh ?_
  refine zx ?_
  exact zv (zq U zu) H
def Ggj:Cert:=⟨[[],[],[1],[1,2],[1,2,3],[],[5],[5,6],[5,6,7],[5,6,7,8],[5,6,7,8,9],[1,2,3,4,5,6,7,8,9,10],[0,1,2,3,4,5,6,7,8,9,10,11],[0,1,2,3,4,5,6,7,8,9,10,11,12],[0,1,2,3,4,5,6,7,8,9,10,11,12,13]],[false,false,false,false,false,false,false,true,false,true,true,true,false,false,true]⟩
def Gd8 (p0a:Option Addr) (p0n:Nat) (p0c:Nat) (K:Option Addr→Int→Heap→Prop) (h:Heap):Prop:=
 CallsH PR Glp #[.slice p0a p0n p0c] h (fun v h1=>∃ (x3:Bool),v=(Value.bool x3)∧(x3=false→K none 1 h1)∧(x3=true→∀ (h4:Heap),h4=h1.push (.cells #[.slice none 0 0] 215 (0,0))→∃ (I7:Int→Heap→Prop) (mu8:Int→Heap→Nat),I7 0 h4∧∀ (x6:Int) (h10:Heap),I7 x6 h10→(x6<(p0n:Int)→∃ (b13:Nat) (o14:Nat),p0a=some ⟨b13,o14,none⟩∧(0≤x6∧x6<(p0n:Int))∧∃ (x16_0:Int) (x16_1:Int),ldCells h10 b13 (o14+x6.toNat * 2) 2=some [.int .i64 x16_0,.int .i64 x16_1]∧∀ (h18:Heap),h18=h10.push (.cells #[.int .i64 0,.int .i64 0] 202 (0,0))→∃ (h21:Heap),stCells h10.size h18 0 [.int .i64 x16_0,.int .i64 x16_1]=some h21∧∃ (x22:Int),cellH h21 h10.size 1=some (.int .i64 x22)∧∃ (I25:Int→Heap→Prop) (mu26:Int→Heap→Nat),I25 0 h21∧∀ (x24:Int) (h28:Heap),I25 x24 h28→(x24<x22→∃ (x30a:Option Addr) (x30n:Nat) (x30c:Nat),cellH h28 h1.size 0=some (.slice x30a x30n x30c)∧∃ (x32:Int),cellH h28 h10.size 0=some (.int .i64 x32)∧∃ (n36:Nat),x32=(n36:Int)∧(n36≤n36∧1 * n36≤281474976710656∧n36≤9223372036854775807)∧∀ (h34:Heap),h34=h28.push (.cells (madeCells ((Value.int .u8 0)).cells (n36 * 1)) 5 (0,0))→cellH h34 h1.size 0=some (Value.slice x30a x30n x30c)∧∀ (h40:Heap),h40=h34.push (.cells #[.int .u64 1,.int .i64 0,.int .i64 0,.slice (some ⟨h28.size,0,none⟩) n36 n36] 186 (0,0))→cellH h40 h1.size 0=some (Value.slice x30a x30n x30c)∧∀ (h43:Heap),h43=h40.push (.cells #[.pointer (some ⟨h34.size,0,none⟩)] 184 (0,0))→cellH h43 h1.size 0=some (Value.slice x30a x30n x30c)∧appH 184 1 8 (Value.pointer none) x30a x30n x30c 1 ([.pointer (some ⟨h34.size,0,none⟩)]) h43 (fun a50 n51 q52 h53=>∃ (h55:Heap),stCells h1.size h53 0 [.slice a50 n51 q52]=some h55∧(-9223372036854775808≤x24+1∧x24+1<9223372036854775808)∧(I25 (x24+1) h55∧mu26 (x24+1) h55<mu26 x24 h28)))∧((¬ (x24<x22))→(-9223372036854775808≤x6+1∧x6+1<9223372036854775808)∧(I7 (x6+1) h28∧mu8 (x6+1) h28<mu8 x6 h10)))∧((¬ (x6<(p0n:Int)))→K (some ⟨h1.size,0,none⟩) 0 h10)))
theorem Gd9 (p0a:Option Addr) (p0n:Nat) (p0c:Nat) (R:Value→Heap→Prop) (h:Heap) (H:Gd8 p0a p0n p0c (fun r0 r1 h'=>R (Value.tuple #[.pointer r0,.int .i64 r1]) h') h):CallsH PR Glq #[.slice p0a p0n p0c] h R:=by
 refine zD (args:=[.slice p0a p0n p0c]) Tryz.func57 U U ?_
 intro f hf
 have e0:=hf 0 _ rfl
 clear hf
 unfold Gd8 at H
 refine ze ?_
 refine zc U ?_
 refine za (zg (v:=.pointer none) U ?_)
 refine za (zg (v:=.int .i64 0) U ?_)
 refine zh ?_
 refine ze ?_
 refine ze ?_
 refine zc U ?_
 refine za (zd (v:=.slice p0a p0n p0c) e0 ?_)
 refine za (zG (vs:=[.slice p0a p0n p0c]) en_115 (zm U zy) (CallsH.mono H ?_))
 clear H
 rintro _ h1 ⟨x3,rfl,H⟩
 refine za (yi U ?_)
 refine zh ?_
 refine zz (!x3) U ?_ ?_
 ·intro hb
  replace H:=H.1 (zt hb)
  refine ze ?_
  refine zc U ?_
  refine za (zg (v:=.pointer none) U ?_)
  refine za (zg (v:=.int .i64 1) U ?_)
  refine zh ?_
  refine zx ?_
  exact zv (zq U (zq U zu)) H
 ·intro hb
  replace H:=H.2 (zL hb)
  refine zC ?_
  refine ze ?_
  refine zc U ?_
  refine za (zX (vs:=[]) (cs:=#[.slice none 0 0]) z_215 fs_215 zT U ?_)
  obtain⟨h4,c5⟩ : ∃ h4,h4=h1.push (.cells #[.slice none 0 0] 215 (0,0)):=⟨_,rfl⟩
  replace H:=H h4 c5
  refine za (yd (v:=.agg #[.slice none 0 0]) U c5 ?_)
  refine za (zg (v:=.pointer (some ⟨h1.size,0,none⟩)) U ?_)
  refine zh ?_
  refine ze ?_
  refine ze ?_
  refine zc U ?_
  refine za (zd (v:=.slice p0a p0n p0c) e0 ?_)
  refine za (zN U un_86 ?_)
  refine za (zd (v:=.int .i64 0) U ?_)
  refine zh ?_
  refine zK ?_
  obtain⟨I7,mu8,hI,H⟩:=H
  obtain⟨I9,mu9,hin9,hout9,hmu9⟩ : ∃ (J9:Fr→Heap→Prop) (m:Fr→Heap→Nat),(∀ f hz (x6:Int),f 14 = .int .i64 x6→f 4 = .pointer (some ⟨h1.size,0,none⟩)→f 12 = .slice p0a p0n p0c→f 13 = .int .i64 (p0n:Int)→I7 x6 hz→J9 f hz)∧(∀ f hz,J9 f hz→∃ (x6:Int),f 14 = .int .i64 x6∧f 4 = .pointer (some ⟨h1.size,0,none⟩)∧f 12 = .slice p0a p0n p0c∧f 13 = .int .i64 (p0n:Int)∧I7 x6 hz)∧(∀ f hz (x6:Int),f 14 = .int .i64 x6→m f hz=mu8 x6 hz):=⟨fun f hz=>∃ (x6:Int),f 14 = .int .i64 x6∧f 4 = .pointer (some ⟨h1.size,0,none⟩)∧f 12 = .slice p0a p0n p0c∧f 13 = .int .i64 (p0n:Int)∧I7 x6 hz,fun f hz=>mu8 (dInt (f 14)) hz,fun _ _ x6 a0 a1 a2 a3 z=>⟨x6,a0,a1,a2,a3,z⟩,fun _ _ hz=>hz,fun f hz x6 a0=>by simp only [a0]; rfl⟩
  refine yb I9 mu9 (hin9 _ _ _ U U U U hI) ?_
  clear hI
  intro f h10 hf
  obtain⟨x6,a9_0,a9_1,a9_2,a9_3,hJ⟩:=hout9 _ _ hf
  replace H:=H x6 h10 hJ
  refine ze ?_
  refine zc U ?_
  refine za (zY a9_0 a9_3 ?_)
  refine zh ?_
  refine ze ?_
  refine zz (decide (x6<(p0n:Int))) U ?_ ?_
  ·intro hb
   replace H:=H.1 (zo hb)
   refine zC ?_
   refine ze ?_
   refine zK ?_
   refine ze ?_
   refine zc U ?_
   obtain⟨b13,o14,rfl,H⟩:=H
   obtain⟨c12,H⟩:=H
   refine za (zE a9_2 a9_0 ei_86 c12 ?_)
   obtain⟨x16_0,x16_1,c17,H⟩:=H
   refine za (zS U ag_202 c17 ?_)
   obtain⟨h18,c19⟩ : ∃ h18,h18=h10.push (.cells #[.int .i64 0,.int .i64 0] 202 (0,0)):=⟨_,rfl⟩
   replace H:=H h18 c19
   refine za (zW z_202 c19 ?_)
   obtain⟨h21,c20,H⟩:=H
   refine za (zI (v:=.agg #[.int .i64 x16_0,.int .i64 x16_1]) U U sz_202 U c20 ?_)
   refine zh ?_
   refine ze ?_
   refine zc U ?_
   refine za (zf U fo_202_1 ?_)
   obtain⟨x22,c23,H⟩:=H
   refine za (zk U ag_3 c23 ?_)
   refine za (zd (v:=.int .i64 0) U ?_)
   refine zh ?_
   refine zK ?_
   obtain⟨I25,mu26,hI,H⟩:=H
   obtain⟨I27,mu27,hin27,hout27,hmu27⟩ : ∃ (J27:Fr→Heap→Prop) (m:Fr→Heap→Nat),(∀ f hz (x24:Int),f 20 = .int .i64 x24→f 4 = .pointer (some ⟨h1.size,0,none⟩)→f 6 = .pointer (some ⟨h10.size,0,none⟩)→f 12 = .slice (some ⟨b13,o14,none⟩) p0n p0c→f 13 = .int .i64 (p0n:Int)→f 14 = .int .i64 x6→f 19 = .int .i64 x22→I25 x24 hz→J27 f hz)∧(∀ f hz,J27 f hz→∃ (x24:Int),f 20 = .int .i64 x24∧f 4 = .pointer (some ⟨h1.size,0,none⟩)∧f 6 = .pointer (some ⟨h10.size,0,none⟩)∧f 12 = .slice (some ⟨b13,o14,none⟩) p0n p0c∧f 13 = .int .i64 (p0n:Int)∧f 14 = .int .i64 x6∧f 19 = .int .i64 x22∧I25 x24 hz)∧(∀ f hz (x24:Int),f 20 = .int .i64 x24→m f hz=mu26 x24 hz):=⟨fun f hz=>∃ (x24:Int),f 20 = .int .i64 x24∧f 4 = .pointer (some ⟨h1.size,0,none⟩)∧f 6 = .pointer (some ⟨h10.size,0,none⟩)∧f 12 = .slice (some ⟨b13,o14,none⟩) p0n p0c∧f 13 = .int .i64 (p0n:Int)∧f 14 = .int .i64 x6∧f 19 = .int .i64 x22∧I25 x24 hz,fun f hz=>mu26 (dInt (f 20)) hz,fun _ _ x24 a0 a1 a2 a3 a4 a5 a6 z=>⟨x24,a0,a1,a2,a3,a4,a5,a6,z⟩,fun _ _ hz=>hz,fun f hz x24 a0=>by simp only [a0]; rfl⟩
   refine yb I27 mu27 (hin27 _ _ _ U a9_1 U a9_2 a9_3 a9_0 U hI) ?_
   clear hI
   intro f h28 hf
   obtain⟨x24,a27_0,a27_1,a27_2,a27_3,a27_4,a27_5,a27_6,hJ⟩:=hout27 _ _ hf
   replace H:=H x24 h28 hJ
   refine ze ?_
   refine zc U ?_
   refine za (zY a27_0 a27_6 ?_)
   refine zh ?_
   refine ze ?_
   refine zz (decide (x24<x22)) U ?_ ?_
   ·intro hb
    replace H:=H.1 (zo hb)
    refine zC ?_
    refine ze ?_
    refine zK ?_
    obtain⟨x30a,x30n,x30c,c31,H⟩:=H
    obtain⟨x32,c33,H⟩:=H
    refine zO Ggj 5 [(Y (some ⟨h1.size,0,none⟩)),(Y (some ⟨h1.size,0,none⟩)),(Y (some ⟨h1.size,0,none⟩)),(Y (some ⟨h1.size,0,none⟩)),(T x30a x30n x30c),(Y (some ⟨h10.size,0,none⟩)),(Z .i64 x32),undef,undef,undef,undef,undef,undef,undef,undef] (by kernel_rfl) U mixed_PR ?_
    refine zA [7] (by decide) U (zw [0,1,2,3,4,5,6] U ⟨zb U U (zd (v:=.pointer (some ⟨h1.size,0,none⟩)) a27_1 ⟨U,U⟩),zb U U (zd (v:=.pointer (some ⟨h1.size,0,none⟩)) a27_1 ⟨U,U⟩),zb U U (zj U ⟨U,U⟩),zb U U (zf U fo_215_0 ⟨U,U⟩),zb U U (zk U ag_213 c31 ⟨U,U⟩),zb U U (zf a27_2 fo_202_0 ⟨U,U⟩),zb U U (zk U ag_3 c33 ⟨U,U⟩),V⟩) U ⟨?_,V⟩
    obtain⟨n36,c37,H⟩:=H
    obtain⟨c38,H⟩:=H
    obtain⟨h34,c35⟩ : ∃ h34,h34=h28.push (.cells (madeCells ((Value.int .u8 0)).cells (n36 * 1)) 5 (0,0)):=⟨_,rfl⟩
    replace H:=H h34 c35
    refine zb U U (op_makeSlice ri_23 (Eq.trans U (congrArg (Z .i64) c37)) (Eq.trans U (congrArg (Z .i64) c37)) c38.1 c38.2.1 c38.2.2 c35 ?_)
    obtain⟨c39,H⟩:=H
    refine⟨[(Value.pointer (some ⟨h1.size,0,none⟩)),(Value.pointer (some ⟨h1.size,0,none⟩)),(Value.pointer (some ⟨h1.size,0,none⟩)),(Value.pointer (some ⟨h1.size,0,none⟩)),(Value.slice x30a x30n x30c),(Value.pointer (some ⟨h10.size,0,none⟩)),(Value.int .i64 x32),(Value.slice (some ⟨h28.size,0,none⟩) n36 n36),(Value.agg #[.int .u64 1,.int .i64 0,.int .i64 0,.slice (some ⟨h28.size,0,none⟩) n36 n36]),undef,undef,undef,undef,undef,undef],rfl,(zH [0,1,2,3,4,5,6] rfl ⟨rfl,rfl,rfl,rfl,rfl,rfl,rfl,trivial⟩),?_⟩
    refine zA [9] (by decide) U (zw [0,1,2,3,4,8] U ⟨zb U U (zd (v:=.pointer (some ⟨h1.size,0,none⟩)) a27_1 ⟨U,U⟩),zb U U (zd (v:=.pointer (some ⟨h1.size,0,none⟩)) a27_1 ⟨U,U⟩),zb U U (zj U ⟨U,U⟩),zb U U (zf U fo_215_0 ⟨U,U⟩),zb U U (zk U ag_213 c39 ⟨U,U⟩),zb U U (zX (vs:=[(0,.int .u64 1),(3,.slice (some ⟨h28.size,0,none⟩) n36 n36)]) (cs:=#[.int .u64 1,.int .i64 0,.int .i64 0,.slice (some ⟨h28.size,0,none⟩) n36 n36]) z_186 fs_186 (zM U (zM U zT)) U ⟨U,U⟩),V⟩) U ⟨?_,V⟩
    obtain⟨h40,c41⟩ : ∃ h40,h40=h34.push (.cells #[.int .u64 1,.int .i64 0,.int .i64 0,.slice (some ⟨h28.size,0,none⟩) n36 n36] 186 (0,0)):=⟨_,rfl⟩
    replace H:=H h40 c41
    refine zb U U (yd (v:=.agg #[.int .u64 1,.int .i64 0,.int .i64 0,.slice (some ⟨h28.size,0,none⟩) n36 n36]) U c41 ?_)
    obtain⟨c42,H⟩:=H
    refine⟨[(Value.pointer (some ⟨h1.size,0,none⟩)),(Value.pointer (some ⟨h1.size,0,none⟩)),(Value.pointer (some ⟨h1.size,0,none⟩)),(Value.pointer (some ⟨h1.size,0,none⟩)),(Value.slice x30a x30n x30c),(Value.pointer (some ⟨h10.size,0,none⟩)),(Value.int .i64 x32),(Value.slice (some ⟨h28.size,0,none⟩) n36 n36),(Value.agg #[.int .u64 1,.int .i64 0,.int .i64 0,.slice (some ⟨h28.size,0,none⟩) n36 n36]),(Value.pointer (some ⟨h34.size,0,none⟩)),undef,undef,undef,undef,undef],rfl,(zH [0,1,2,3,4,5,6,7,8] rfl ⟨rfl,rfl,rfl,rfl,rfl,rfl,rfl,rfl,rfl,trivial⟩),?_⟩
    refine zA [10] (by decide) U (zw [0,1,2,3,4] U ⟨zb U U (zd (v:=.pointer (some ⟨h1.size,0,none⟩)) a27_1 ⟨U,U⟩),zb U U (zd (v:=.pointer (some ⟨h1.size,0,none⟩)) a27_1 ⟨U,U⟩),zb U U (zj U ⟨U,U⟩),zb U U (zf U fo_215_0 ⟨U,U⟩),zb U U (zk U ag_213 c42 ⟨U,U⟩),V⟩) U ⟨?_,V⟩
    obtain⟨h43,c44⟩ : ∃ h43,h43=h40.push (.cells #[.pointer (some ⟨h34.size,0,none⟩)] 184 (0,0)):=⟨_,rfl⟩
    replace H:=H h43 c44
    refine zb U U (yg (cs:=#[.pointer (some ⟨h34.size,0,none⟩)]) (vs:=[(0,.pointer (some ⟨h34.size,0,none⟩))]) (zl:=[.pointer none]) ri_213 (by decide) U U (zM U zT) U c44 ?_)
    obtain⟨c45,H⟩:=H
    refine⟨[(Value.pointer (some ⟨h1.size,0,none⟩)),(Value.pointer (some ⟨h1.size,0,none⟩)),(Value.pointer (some ⟨h1.size,0,none⟩)),(Value.pointer (some ⟨h1.size,0,none⟩)),(Value.slice x30a x30n x30c),(Value.pointer (some ⟨h10.size,0,none⟩)),(Value.int .i64 x32),(Value.slice (some ⟨h28.size,0,none⟩) n36 n36),(Value.agg #[.int .u64 1,.int .i64 0,.int .i64 0,.slice (some ⟨h28.size,0,none⟩) n36 n36]),(Value.pointer (some ⟨h34.size,0,none⟩)),(Value.slice (some ⟨h40.size,0,none⟩) 1 1),undef,undef,undef,undef],rfl,(zH [0,1,2,3,4,5,6,7,8,9] rfl ⟨rfl,rfl,rfl,rfl,rfl,rfl,rfl,rfl,rfl,rfl,trivial⟩),?_⟩
    refine zA [11] (by decide) U (zw [0,1,2,3,4] U ⟨zb U U (zd (v:=.pointer (some ⟨h1.size,0,none⟩)) a27_1 ⟨U,U⟩),zb U U (zd (v:=.pointer (some ⟨h1.size,0,none⟩)) a27_1 ⟨U,U⟩),zb U U (zj U ⟨U,U⟩),zb U U (zf U fo_215_0 ⟨U,U⟩),zb U U (zk U ag_213 c45 ⟨U,U⟩),V⟩) U ⟨?_,V⟩
    refine zb U U (op_append' (src:=(T (some ⟨h40.size,0,none⟩) 1 1)) (news:=[.pointer (some ⟨h34.size,0,none⟩)]) ri_213 (.inl ⟨_,un_213⟩) U U U (first_fresh c44 U U U) (appH.mono H ?_))
    clear H
    intro a50 n51 q52 h53 H
    refine⟨[(Value.pointer (some ⟨h1.size,0,none⟩)),(Value.pointer (some ⟨h1.size,0,none⟩)),(Value.pointer (some ⟨h1.size,0,none⟩)),(Value.pointer (some ⟨h1.size,0,none⟩)),(Value.slice x30a x30n x30c),(Value.pointer (some ⟨h10.size,0,none⟩)),(Value.int .i64 x32),(Value.slice (some ⟨h28.size,0,none⟩) n36 n36),(Value.agg #[.int .u64 1,.int .i64 0,.int .i64 0,.slice (some ⟨h28.size,0,none⟩) n36 n36]),(Value.pointer (some ⟨h34.size,0,none⟩)),(Value.slice (some ⟨h40.size,0,none⟩) 1 1),(Value.slice a50 n51 q52),(Value.pointer (some ⟨h1.size,0,none⟩)),(Value.pointer (some ⟨h1.size,0,none⟩)),undef],rfl,(zH [0,1,2,3,4,5,6,7,8,9,10] rfl ⟨rfl,rfl,rfl,rfl,rfl,rfl,rfl,rfl,rfl,rfl,rfl,trivial⟩),?_⟩
    refine zA [14] (by decide) U (zw [0,12,13] U ⟨zb U U (zd (v:=.pointer (some ⟨h1.size,0,none⟩)) a27_1 ⟨U,U⟩),zb U U (zj U ⟨U,U⟩),zb U U (zf U fo_215_0 ⟨U,U⟩),V⟩) U ⟨?_,V⟩
    obtain⟨h55,c54,H⟩:=H
    refine zb U U (zI (v:=.slice a50 n51 q52) U U sz_213 U c54 ?_)
    refine⟨[(Value.pointer (some ⟨h1.size,0,none⟩)),(Value.pointer (some ⟨h1.size,0,none⟩)),(Value.pointer (some ⟨h1.size,0,none⟩)),(Value.pointer (some ⟨h1.size,0,none⟩)),(Value.slice x30a x30n x30c),(Value.pointer (some ⟨h10.size,0,none⟩)),(Value.int .i64 x32),(Value.slice (some ⟨h28.size,0,none⟩) n36 n36),(Value.agg #[.int .u64 1,.int .i64 0,.int .i64 0,.slice (some ⟨h28.size,0,none⟩) n36 n36]),(Value.pointer (some ⟨h34.size,0,none⟩)),(Value.slice (some ⟨h40.size,0,none⟩) 1 1),(Value.slice a50 n51 q52),(Value.pointer (some ⟨h1.size,0,none⟩)),(Value.pointer (some ⟨h1.size,0,none⟩)),undef],rfl,(zH [0,1,2,3,4,5,6,7,8,9,10,11,12,13] rfl ⟨rfl,rfl,rfl,rfl,rfl,rfl,rfl,rfl,rfl,rfl,rfl,rfl,rfl,rfl,trivial⟩),?_⟩
    refine zJ U (zw [] U V) U ?_
    refine zc U ?_
    obtain⟨c56,H⟩:=H
    refine za (yf a27_0 U (zU c56) ?_)
    refine za (zd (v:=.int .i64 (x24+1)) U ?_)
    refine zh ?_
    exact And.intro (hin27 _ _ _ rfl a27_1 a27_2 a27_3 a27_4 a27_5 a27_6 H.1) (yk (hmu27 _ _ _ rfl) (hmu27 _ _ _ a27_0) H.2)
   ·intro hb
    replace H:=H.2 (zn hb)
    refine ya ?_
    refine zc U ?_
    obtain⟨c57,H⟩:=H
    refine za (yf a27_5 U (zU c57) ?_)
    refine za (zd (v:=.int .i64 (x6+1)) U ?_)
    refine zh ?_
    exact And.intro (hin9 _ _ _ rfl a27_1 a27_3 a27_4 H.1) (yk (hmu9 _ _ _ rfl) (hmu9 _ _ _ a9_0) H.2)
  ·intro hb
   replace H:=H.2 (zn hb)
   refine ya ?_
   refine ze ?_
   refine zc U ?_
   refine za (zd (v:=.pointer (some ⟨h1.size,0,none⟩)) a9_1 ?_)
   refine za (zg (v:=.pointer (some ⟨h1.size,0,none⟩)) U ?_)
   refine za (zg (v:=.int .i64 0) U ?_)
   refine zh ?_
   refine zx ?_
   exact zv (zq U (zq U zu)) H
def Ggk:Cert:=⟨[[],[0],[0,1],[0,1,2],[0,1,2],[0,1,2,4],[0,1,2,4,5],[0,1,2,4,5,6],[0,1,2],[0,1,2,8],[0,1,2,8,9],[0,1,2,8,9,10],[0,1,2,8,9,10,11],[0,1,2,8,9,10,11,12],[0,1,2,4,5,6,7,8,9,10,11,12,13],[0,1,2,4,5,6,7,8,9,10,11,12,13,14],[0,1,2,4,5,6,7,8,9,10,11,12,13,14,15],[0,1,2,4,5,6,7,8,9,10,11,12,13,14,15,16],[0,1,2,4,5,6,7,8,9,10,11,12,13,14,15,16,17],[0,1,2,4,5,6,7,8,9,10,11,12,13,14,15,16,17,18],[0,1,2,3,4,5,6,7,8,9,10,11,12,13,14,15,16,17,18,19],[0,1,2,3,4,5,6,7,8,9,10,11,12,13,14,15,16,17,18,19,20]],[false,false,false,false,false,false,false,false,false,false,false,false,false,false,false,false,false,false,false,false,false,false]⟩
def Gda (p0:Option Addr) (p1:Int) (K:Int→Int→Int→Heap→Prop) (h:Heap):Prop:=
 ∀ (h1:Heap),h1=h.push (.cells #[.int .i64 0,.int .u64 0] 39 (0,0))→∃ (b4:Nat) (o5:Nat),((¬ (p1<1))→p0=some ⟨b4,o5,none⟩)∧∃ (x7a:Option Addr) (x7n:Nat) (x7c:Nat),((¬ (p1<1))→cellH h1 b4 o5=some (.slice x7a x7n x7c))∧∃ (b9:Nat) (o10:Nat),((¬ (p1<1))→p0=some ⟨b9,o10,none⟩)∧∃ (x12a:Option Addr) (x12n:Nat) (x12c:Nat),((¬ (p1<1))→cellH h1 b9 o10=some (.slice x12a x12n x12c))∧∃ (b16:Nat) (o17:Nat),((¬ (p1<1))→x7a=some ⟨b16,o17,none⟩)∧((¬ (p1<1))→0≤IntKind.i64.wrap ((x12n:Int) - 1)∧IntKind.i64.wrap ((x12n:Int) - 1)<(x7n:Int))∧∃ (x19:Option Addr),((¬ (p1<1))→cellH h1 b16 (o17+(IntKind.i64.wrap ((x12n:Int) - 1)).toNat * 1)=some (.pointer x19))∧∃ (b21:Nat) (o22:Nat),((¬ (p1<1))→x19=some ⟨b21,o22,none⟩)∧∃ (x24a:Option Addr) (x24n:Nat) (x24c:Nat),((¬ (p1<1))→cellH h1 b21 (o22+3)=some (.slice x24a x24n x24c))∧(((decide (p1<1)) || (decide ((x24n:Int)<p1)))=true→∃ (h28:Heap),stCells h.size h1 0 [.int .i64 0,.int .u64 0]=some h28∧∃ (x29_0:Int) (x29_1:Int),ldCells h28 h.size 0 2=some [.int .i64 x29_0,.int .u64 x29_1]∧K x29_0 x29_1 1 h28)∧(((decide (p1<1)) || (decide ((x24n:Int)<p1)))=false→∃ (b31:Nat) (o32:Nat),p0=some ⟨b31,o32,none⟩∧∃ (x34a:Option Addr) (x34n:Nat) (x34c:Nat),cellH h1 b31 o32=some (.slice x34a x34n x34c)∧∃ (I37:Int→Heap→Prop) (mu38:Int→Heap→Nat),I37 0 h1∧∀ (x36:Int) (h40:Heap),I37 x36 h40→(x36<(x34n:Int)→∃ (b43:Nat) (o44:Nat),x34a=some ⟨b43,o44,none⟩∧(0≤x36∧x36<(x34n:Int))∧∃ (x46:Option Addr),cellH h40 b43 (o44+x36.toNat * 1)=some (.pointer x46)∧∃ (b48:Nat) (o49:Nat),x46=some ⟨b48,o49,none⟩∧∃ (x51:Int),cellH h40 b48 (o49+1)=some (.int .i64 x51)∧∃ (x54a:Option Addr) (x54n:Nat) (x54c:Nat),((x51=0)→cellH h40 b48 (o49+3)=some (.slice x54a x54n x54c))∧(((decide (x51=0)) && (decide (p1≤(x54n:Int))))=true→∃ (h58:Heap),stCells b48 h40 (o49+1) [.int .i64 1]=some h58∧∃ (h60:Heap),stCells b48 h58 (o49+2) [.int .i64 1]=some h60∧∃ (x61a:Option Addr) (x61n:Nat) (x61c:Nat),cellH h60 b48 (o49+3)=some (.slice x61a x61n x61c)∧∃ (h63:Heap),clearH 1 x61n x61a [.int .u8 0] h60 h63∧∃ (x65:Int),cellH h63 b48 o49=some (.int .u64 x65)∧∃ (h68:Heap),stCells h.size h63 0 [.int .i64 x36,.int .u64 x65]=some h68∧∃ (x69_0:Int) (x69_1:Int),ldCells h68 h.size 0 2=some [.int .i64 x69_0,.int .u64 x69_1]∧K x69_0 x69_1 0 h68)∧(((decide (x51=0)) && (decide (p1≤(x54n:Int))))=false→(-9223372036854775808≤x36+1∧x36+1<9223372036854775808)∧(I37 (x36+1) h40∧mu38 (x36+1) h40<mu38 x36 h40)))∧((¬ (x36<(x34n:Int)))→∃ (h73:Heap),stCells h.size h40 0 [.int .i64 0,.int .u64 0]=some h73∧∃ (x74_0:Int) (x74_1:Int),ldCells h73 h.size 0 2=some [.int .i64 x74_0,.int .u64 x74_1]∧K x74_0 x74_1 5 h73))
theorem Gdb (p0:Option Addr) (p1:Int) (R:Value→Heap→Prop) (h:Heap) (H:Gda p0 p1 (fun r0_0 r0_1 r1 h'=>R (Value.tuple #[.agg #[.int .i64 r0_0,.int .u64 r0_1],.int .i64 r1]) h') h):CallsH PR Gls #[.pointer p0,.int .i64 p1] h R:=by
 refine zD (args:=[.pointer p0,.int .i64 p1]) Tryz.func61 U U ?_
 intro f hf
 have e0:=hf 0 _ rfl
 have e1:=hf 1 _ rfl
 clear hf
 unfold Gda at H
 refine ze ?_
 refine zc U ?_
 obtain⟨h1,c2⟩ : ∃ h1,h1=h.push (.cells #[.int .i64 0,.int .u64 0] 39 (0,0)):=⟨_,rfl⟩
 replace H:=H h1 c2
 refine za (zW z_39 c2 ?_)
 refine za (zg (v:=.int .i64 0) U ?_)
 refine zh ?_
 refine ze ?_
 refine ze ?_
 obtain⟨b4,o5,c6,H⟩:=H
 obtain⟨x7a,x7n,x7c,c8,H⟩:=H
 obtain⟨b9,o10,c11,H⟩:=H
 obtain⟨x12a,x12n,x12c,c13,H⟩:=H
 obtain⟨b16,o17,c18,H⟩:=H
 obtain⟨c15,H⟩:=H
 obtain⟨x19,c20,H⟩:=H
 obtain⟨b21,o22,c23,H⟩:=H
 obtain⟨x24a,x24n,x24c,c25,H⟩:=H
 refine zO Ggk 0 [(Z .i64 p1),(W (decide (p1<1))),(W (decide (p1<1))),(bif !(decide (p1<1)) then (Z .i64 p1) else undef),(bif !(decide (p1<1)) then (Y p0) else undef),(bif !(decide (p1<1)) then (Y (some ⟨b4,o5,none⟩)) else undef),(bif !(decide (p1<1)) then (Y (some ⟨b4,o5,none⟩)) else undef),(bif !(decide (p1<1)) then (T x7a x7n x7c) else undef),(bif !(decide (p1<1)) then (Y p0) else undef),(bif !(decide (p1<1)) then (Y (some ⟨b9,o10,none⟩)) else undef),(bif !(decide (p1<1)) then (Y (some ⟨b9,o10,none⟩)) else undef),(bif !(decide (p1<1)) then (T x12a x12n x12c) else undef),(bif !(decide (p1<1)) then (Z .i64 (x12n:Int)) else undef),(bif !(decide (p1<1)) then (Z .i64 (IntKind.i64.wrap ((x12n:Int) - 1))) else undef),(bif !(decide (p1<1)) then (Y (some ⟨b16,o17+(IntKind.i64.wrap ((x12n:Int) - 1)).toNat * 1,none⟩)) else undef),(bif !(decide (p1<1)) then (Y x19) else undef),(bif !(decide (p1<1)) then (Y (some ⟨b21,o22,none⟩)) else undef),(bif !(decide (p1<1)) then (Y (some ⟨b21,o22+3,none⟩)) else undef),(bif !(decide (p1<1)) then (T x24a x24n x24c) else undef),(bif !(decide (p1<1)) then (Z .i64 (x24n:Int)) else undef),(bif !(decide (p1<1)) then (W (decide ((x24n:Int)<p1))) else undef),(W ((decide (p1<1)) || (decide ((x24n:Int)<p1))))] (by kernel_rfl) U mixed_PR ?_
 refine zJ U (zw [0,1,2,3,4,5,6,7,8,9,10,11,12,13,14,15,16,17,18,19,20,21] U ⟨zb U U (zd (v:=.int .i64 p1) e1 ⟨U,U⟩),zb U U (zY U U ⟨U,U⟩),zb U U (zd (v:=.bool (decide (p1<1))) U ⟨U,U⟩),zr (b:=!(decide (p1<1))) U U (zi U U) (fun hb=>zd (v:=.int .i64 p1) e1 ⟨zs hb,U⟩) (fun hb=>⟨zp hb,U⟩),zr (b:=!(decide (p1<1))) U U (zi U U) (fun hb=>zd (v:=.pointer p0) e0 ⟨zs hb,U⟩) (fun hb=>⟨zp hb,U⟩),zr (b:=!(decide (p1<1))) U U (zi U U) (fun hb=>zj (Eq.trans (gv hb) (congrArg Y (c6 (zn (zt hb))))) ⟨zs hb,U⟩) (fun hb=>⟨zp hb,U⟩),zr (b:=!(decide (p1<1))) U U (zi U U) (fun hb=>zf (gv hb) fo_215_0 ⟨zs hb,U⟩) (fun hb=>⟨zp hb,U⟩),zr (b:=!(decide (p1<1))) U U (zi U U) (fun hb=>zk (gv hb) ag_213 (c8 (zn (zt hb))) ⟨zs hb,U⟩) (fun hb=>⟨zp hb,U⟩),zr (b:=!(decide (p1<1))) U U (zi U U) (fun hb=>zd (v:=.pointer p0) e0 ⟨zs hb,U⟩) (fun hb=>⟨zp hb,U⟩),zr (b:=!(decide (p1<1))) U U (zi U U) (fun hb=>zj (Eq.trans (gv hb) (congrArg Y (c11 (zn (zt hb))))) ⟨zs hb,U⟩) (fun hb=>⟨zp hb,U⟩),zr (b:=!(decide (p1<1))) U U (zi U U) (fun hb=>zf (gv hb) fo_215_0 ⟨zs hb,U⟩) (fun hb=>⟨zp hb,U⟩),zr (b:=!(decide (p1<1))) U U (zi U U) (fun hb=>zk (gv hb) ag_213 (c13 (zn (zt hb))) ⟨zs hb,U⟩) (fun hb=>⟨zp hb,U⟩),zr (b:=!(decide (p1<1))) U U (zi U U) (fun hb=>zN (gv hb) un_213 ⟨zs hb,U⟩) (fun hb=>⟨zp hb,U⟩),zr (b:=!(decide (p1<1))) U U (zi U U) (fun hb=>op_sub (gv hb) U U ⟨zs hb,U⟩) (fun hb=>⟨zp hb,U⟩),zr (b:=!(decide (p1<1))) U U (zi U U) (fun hb=>zE (Eq.trans (gv hb) (congrArg (fun a=>T a x7n x7c) (c18 (zn (zt hb))))) (gv hb) ei_213 (c15 (zn (zt hb))) ⟨zs hb,U⟩) (fun hb=>⟨zp hb,U⟩),zr (b:=!(decide (p1<1))) U U (zi U U) (fun hb=>zk (gv hb) ag_184 (c20 (zn (zt hb))) ⟨zs hb,U⟩) (fun hb=>⟨zp hb,U⟩),zr (b:=!(decide (p1<1))) U U (zi U U) (fun hb=>zj (Eq.trans (gv hb) (congrArg Y (c23 (zn (zt hb))))) ⟨zs hb,U⟩) (fun hb=>⟨zp hb,U⟩),zr (b:=!(decide (p1<1))) U U (zi U U) (fun hb=>zf (gv hb) fo_186_3 ⟨zs hb,U⟩) (fun hb=>⟨zp hb,U⟩),zr (b:=!(decide (p1<1))) U U (zi U U) (fun hb=>zk (gv hb) ag_23 (c25 (zn (zt hb))) ⟨zs hb,U⟩) (fun hb=>⟨zp hb,U⟩),zr (b:=!(decide (p1<1))) U U (zi U U) (fun hb=>zN (gv hb) un_23 ⟨zs hb,U⟩) (fun hb=>⟨zp hb,U⟩),zr (b:=!(decide (p1<1))) U U (zi U U) (fun hb=>yj (gv hb) (gv hb) ⟨zs hb,U⟩) (fun hb=>⟨zp hb,U⟩),zb U U (zR U U (fun hq=>(gv (zP hq))) ⟨U,U⟩),V⟩) U ?_
 refine zz ((decide (p1<1)) || (decide ((x24n:Int)<p1))) U ?_ ?_
 ·intro hb
  replace H:=H.1 hb
  refine ze ?_
  refine zc U ?_
  refine za (zX (vs:=[]) (cs:=#[.int .i64 0,.int .u64 0]) z_39 fs_39 zT U ?_)
  obtain⟨h28,c27,H⟩:=H
  refine za (zI (v:=.agg #[.int .i64 0,.int .u64 0]) U U sz_39 U c27 ?_)
  refine za (zg (v:=.int .i64 1) U ?_)
  refine zh ?_
  refine zx ?_
  obtain⟨x29_0,x29_1,c30,H⟩:=H
  exact zv (ye U ag_39 c30 (zq U zu)) H
 ·intro hb
  replace H:=H.2 hb
  refine zC ?_
  refine ze ?_
  refine ze ?_
  refine zc U ?_
  refine za (zd (v:=.pointer p0) e0 ?_)
  obtain⟨b31,o32,rfl,H⟩:=H
  refine za (zj U ?_)
  refine za (zf U fo_215_0 ?_)
  obtain⟨x34a,x34n,x34c,c35,H⟩:=H
  refine za (zk U ag_213 c35 ?_)
  refine za (zN U un_213 ?_)
  refine za (zd (v:=.int .i64 0) U ?_)
  refine zh ?_
  refine zK ?_
  obtain⟨I37,mu38,hI,H⟩:=H
  obtain⟨I39,mu39,hin39,hout39,hmu39⟩ : ∃ (J39:Fr→Heap→Prop) (m:Fr→Heap→Nat),(∀ f hz (x36:Int),f 36 = .int .i64 x36→f 1 = .int .i64 p1→f 4 = .pointer (some ⟨h.size,0,none⟩)→f 34 = .slice x34a x34n x34c→f 35 = .int .i64 (x34n:Int)→I37 x36 hz→J39 f hz)∧(∀ f hz,J39 f hz→∃ (x36:Int),f 36 = .int .i64 x36∧f 1 = .int .i64 p1∧f 4 = .pointer (some ⟨h.size,0,none⟩)∧f 34 = .slice x34a x34n x34c∧f 35 = .int .i64 (x34n:Int)∧I37 x36 hz)∧(∀ f hz (x36:Int),f 36 = .int .i64 x36→m f hz=mu38 x36 hz):=⟨fun f hz=>∃ (x36:Int),f 36 = .int .i64 x36∧f 1 = .int .i64 p1∧f 4 = .pointer (some ⟨h.size,0,none⟩)∧f 34 = .slice x34a x34n x34c∧f 35 = .int .i64 (x34n:Int)∧I37 x36 hz,fun f hz=>mu38 (dInt (f 36)) hz,fun _ _ x36 a0 a1 a2 a3 a4 z=>⟨x36,a0,a1,a2,a3,a4,z⟩,fun _ _ hz=>hz,fun f hz x36 a0=>by simp only [a0]; rfl⟩
  refine yb I39 mu39 (hin39 _ _ _ U e1 U U U hI) ?_
  clear hI
  intro f h40 hf
  obtain⟨x36,a39_0,a39_1,a39_2,a39_3,a39_4,hJ⟩:=hout39 _ _ hf
  replace H:=H x36 h40 hJ
  refine ze ?_
  refine zc U ?_
  refine za (zY a39_0 a39_4 ?_)
  refine zh ?_
  refine ze ?_
  refine zz (decide (x36<(x34n:Int))) U ?_ ?_
  ·intro hb
   replace H:=H.1 (zo hb)
   refine zC ?_
   refine ze ?_
   refine zK ?_
   refine ze ?_
   refine zc U ?_
   refine za (zd (v:=.int .i64 x36) a39_0 ?_)
   obtain⟨b43,o44,rfl,H⟩:=H
   obtain⟨c42,H⟩:=H
   refine za (zE a39_3 a39_0 ei_213 c42 ?_)
   obtain⟨x46,c47,H⟩:=H
   refine za (zk U ag_184 c47 ?_)
   refine za (zg (v:=.int .i64 x36) U ?_)
   refine za (zg (v:=.pointer x46) U ?_)
   refine zh ?_
   refine ze ?_
   refine zc U ?_
   refine za (zd (v:=.pointer x46) U ?_)
   obtain⟨b48,o49,rfl,H⟩:=H
   refine za (zj U ?_)
   refine za (zf U fo_186_1 ?_)
   obtain⟨x51,c52,H⟩:=H
   refine za (zk U ag_3 c52 ?_)
   refine za (op_eql U U ?_)
   refine za (zd (v:=.bool (decide (x51=0))) U ?_)
   refine zF (b:=decide (x51=0)) (zi U U) (Y (some ⟨b48,o49,none⟩)) (fun hb N hN=>zd (v:=.pointer (some ⟨b48,o49,none⟩)) U hN) ?_
   refine zF (b:=decide (x51=0)) (zi U U) (Y (some ⟨b48,o49,none⟩)) (fun hb N hN=>zj (gv hb) hN) ?_
   refine zF (b:=decide (x51=0)) (zi U U) (Y (some ⟨b48,o49+3,none⟩)) (fun hb N hN=>zf (gv hb) fo_186_3 hN) ?_
   obtain⟨x54a,x54n,x54c,c55,H⟩:=H
   refine zF (b:=decide (x51=0)) (zi U U) (T x54a x54n x54c) (fun hb N hN=>zk (gv hb) ag_23 (c55 (zo hb)) hN) ?_
   refine zF (b:=decide (x51=0)) (zi U U) (Z .i64 (x54n:Int)) (fun hb N hN=>zN (gv hb) un_23 hN) ?_
   refine zF (b:=decide (x51=0)) (zi U U) (Z .i64 p1) (fun hb N hN=>zd (v:=.int .i64 p1) a39_1 hN) ?_
   refine zF (b:=decide (x51=0)) (zi U U) (W (decide (p1≤(x54n:Int)))) (fun hb N hN=>op_geq (gv hb) (gv hb) hN) ?_
   refine za (zV U (fun hq=>(gv hq)) U ?_)
   refine zh ?_
   refine zz ((decide (x51=0)) && (decide (p1≤(x54n:Int)))) U ?_ ?_
   ·intro hb
    replace H:=H.1 hb
    refine ze ?_
    refine zc U ?_
    refine za (zd (v:=.pointer (some ⟨b48,o49,none⟩)) U ?_)
    refine za (zd (v:=.pointer (some ⟨b48,o49,none⟩)) U ?_)
    refine za (zj U ?_)
    refine za (zf U fo_186_1 ?_)
    obtain⟨h58,c57,H⟩:=H
    refine za (zI (v:=.int .i64 1) U U sz_3 U c57 ?_)
    refine za (zj U ?_)
    refine za (zf U fo_186_2 ?_)
    obtain⟨h60,c59,H⟩:=H
    refine za (zI (v:=.int .i64 1) U U sz_3 U c59 ?_)
    refine zh ?_
    refine ze ?_
    refine zc U ?_
    refine za (zd (v:=.pointer (some ⟨b48,o49,none⟩)) U ?_)
    refine za (zj U ?_)
    refine za (zf U fo_186_3 ?_)
    obtain⟨x61a,x61n,x61c,c62,H⟩:=H
    refine za (zk U ag_23 c62 ?_)
    obtain⟨h63,c64,H⟩:=H
    refine za (op_clear (zl:=[.int .u8 0]) ri_23 U U c64 ?_)
    refine zh ?_
    refine ze ?_
    refine zc U ?_
    refine za (zd (v:=.int .i64 x36) U ?_)
    refine za (zd (v:=.pointer (some ⟨b48,o49,none⟩)) U ?_)
    refine za (zj U ?_)
    refine za (zf U fo_186_0 ?_)
    obtain⟨x65,c66,H⟩:=H
    refine za (zk U ag_37 c66 ?_)
    refine za (zX (vs:=[(0,.int .i64 x36),(1,.int .u64 x65)]) (cs:=#[.int .i64 x36,.int .u64 x65]) z_39 fs_39 (zM U (zM U zT)) U ?_)
    obtain⟨h68,c67,H⟩:=H
    refine za (zI (v:=.agg #[.int .i64 x36,.int .u64 x65]) a39_2 U sz_39 U c67 ?_)
    refine za (zg (v:=.int .i64 0) U ?_)
    refine zh ?_
    refine zx ?_
    obtain⟨x69_0,x69_1,c70,H⟩:=H
    exact zv (ye a39_2 ag_39 c70 (zq U zu)) H
   ·intro hb
    replace H:=H.2 hb
    refine zC ?_
    refine zc U ?_
    obtain⟨c71,H⟩:=H
    refine za (yf a39_0 U (zU c71) ?_)
    refine za (zd (v:=.int .i64 (x36+1)) U ?_)
    refine zh ?_
    exact And.intro (hin39 _ _ _ rfl a39_1 a39_2 a39_3 a39_4 H.1) (yk (hmu39 _ _ _ rfl) (hmu39 _ _ _ a39_0) H.2)
  ·intro hb
   replace H:=H.2 (zn hb)
   refine ya ?_
   refine ze ?_
   refine zc U ?_
   refine za (zX (vs:=[]) (cs:=#[.int .i64 0,.int .u64 0]) z_39 fs_39 zT U ?_)
   obtain⟨h73,c72,H⟩:=H
   refine za (zI (v:=.agg #[.int .i64 0,.int .u64 0]) a39_2 U sz_39 U c72 ?_)
   refine za (zg (v:=.int .i64 5) U ?_)
   refine zh ?_
   refine zx ?_
   obtain⟨x74_0,x74_1,c75,H⟩:=H
   exact zv (ye a39_2 ag_39 c75 (zq U zu)) H
def Ggt:Cert:=⟨[[],[0],[0,1],[0,1,2],[0,1,2,3],[0,1,2,3,4],[0,1,2,3],[0,1,2,3,6],[0,1,2,3,6,7],[0,1,2,3,6,7,8],[0,1,2,3,6,7,8,9],[0,1,2,3,4,5,6,7,8,9,10],[0,1,2,3,4,5,6,7,8,9,10,11],[0,1,2,3,4,5,6,7,8,9,10,11,12],[0,1,2,3,4,5,6,7,8,9,10,11,12,13],[0,1,2,3,4,5,6,7,8,9,10,11,12,13,14],[0,1,2,3,4,5,6,7,8,9,10,11,12,13,14,15],[0,1,2,3,4,5,6,7,8,9,10,11,12,13,14,15,16],[0,1,2,3,4,5,6,7,8,9,10,11,12,13],[0,1,2,3,4,5,6,7,8,9,10,11,12,13,18],[0,1,2,3,4,5,6,7,8,9,10,11,12,13,14,15,16,17,18,19],[0,1,2,3,4,5,6,7,8,9,10,11,12,13,14,15,16,17,18,19,20],[0,1,2,3,4,5,6,7,8,9,10,11,12,13,14,15,16,17,18,19,20,21],[0,1,2,3,4,5,6,7,8,9,10,11,12,13,14,15,16,17,18,19,20,21,22],[0,1,2,3,4,5,6,7,8,9,10,11,12,13,14,15,16,17,18,19,20,21,22,23],[0,1,2,3,4,5,6,7,8,9,10,11,12,13,14,15,16,17,18,19,20,21,22,23,24],[0,1,2,3,4,5,6,7,8,9,10,11,12,13,14,15,16,17,18,19,20,21,22,23,24,25],[0,1,2,3,4,5,6,7,8,9,10,11,12,13,14,15,16,17,18,19,20,21,22,23,24,25,26],[0,1,2,3,4,5,6,7,8,9,10,11,12,13,14,15,16,17,18,19,20,21,22,23,24,25,26,27],[0,1,2,3,4,5,6,7,8,9,10,11,12,13,14,15,16,17,18,19,20,21,22,23,24,25,26,27,28],[0,1,2,3,4,5,6,7,8,9,10,11,12,13,14,15,16,17,18,19,20,21,22,23,24,25,26,27,28,29],[0,1,2,3,4,5,6,7,8,9,10,11,12,13,14,15,16,17,18,19,20,21,22,23,24,25,26,27,28,29,30],[0,1,2,3,4,5,6,7,8,9,10,11,12,13,14,15,16,17,18,19,20,21,22,23,24,25,26,27],[0,1,2,3,4,5,6,7,8,9,10,11,12,13,14,15,16,17,18,19,20,21,22,23,24,25,26,27,32],[0,1,2,3,4,5,6,7,8,9,10,11,12,13,14,15,16,17,18,19,20,21,22,23,24,25,26,27,28,29,30,31,32,33],[0,1,2,3,4,5,6,7,8,9,10,11,12,13,14,15,16,17,18,19,20,21,22,23,24,25,26,27,28,29,30,31,32,33,34],[0,1,2,3,4,5,6,7,8,9,10,11,12,13,14,15,16,17,18,19,20,21,22,23,24,25,26,27,28,29,30,31,32,33,34,35],[0,1,2,3,4,5,6,7,8,9,10,11,12,13,14,15,16,17,18,19,20,21,22,23,24,25,26,27,28,29,30,31,32,33,34,35,36],[0,1,2,3,4,5,6,7,8,9,10,11,12,13,14,15,16,17,18,19,20,21,22,23,24,25,26,27,28,29,30,31,32,33,34,35,36,37],[0,1,2,3,4,5,6,7,8,9,10,11,12,13,14,15,16,17,18,19,20,21,22,23,24,25,26,27],[0,1,2,3,4,5,6,7,8,9,10,11,12,13,14,15,16,17,18,19,20,21,22,23,24,25,26,27,39],[0,1,2,3,4,5,6,7,8,9,10,11,12,13,14,15,16,17,18,19,20,21,22,23,24,25,26,27,28,29,30,31,32,33,34,35,36,37,38,39,40],[0,1,2,3,4,5,6,7,8,9,10,11,12,13,14,15,16,17,18,19,20,21,22,23,24,25,26,27,28,29,30,31,32,33,34,35,36,37,38,39,40,41]],[false,false,false,false,false,false,false,false,false,false,false,false,false,false,false,false,false,false,false,false,false,false,false,false,false,false,false,false,false,false,false,false,false,false,false,false,false,false,false,false,false,false,false]⟩
def Ggu:Cert:=⟨[[],[],[1],[1,2],[1,2,3],[],[5],[1,2,3,4,5,6],[1,2,3,4,5,6,7],[0,1,2,3,4,5,6,7,8],[0,1,2,3,4,5,6,7,8,9]],[false,false,false,false,false,false,false,false,false,true,false]⟩
def Gdw (p0:Option Addr) (p1_0:Int) (p1_1:Int) (p2:Value) (K:Int→Heap→Prop) (h:Heap):Prop:=
 ∀ (h1:Heap),h1=h.push (.cells #[.int .i64 p1_0,.int .u64 p1_1] 39 (0,0))→∃ (x3:Int),cellH h1 h.size 0=some (.int .i64 x3)∧∃ (x6:Int),((¬ (x3<0))→cellH h1 h.size 0=some (.int .i64 x6))∧∃ (b8:Nat) (o9:Nat),((¬ (x3<0))→p0=some ⟨b8,o9,none⟩)∧∃ (x11a:Option Addr) (x11n:Nat) (x11c:Nat),((¬ (x3<0))→cellH h1 b8 o9=some (.slice x11a x11n x11c))∧∃ (b14:Nat) (o15:Nat),((((decide (x3<0)) || (decide ((x11n:Int)≤x6)))=false)→p0=some ⟨b14,o15,none⟩)∧∃ (x17a:Option Addr) (x17n:Nat) (x17c:Nat),((((decide (x3<0)) || (decide ((x11n:Int)≤x6)))=false)→cellH h1 b14 o15=some (.slice x17a x17n x17c))∧∃ (x19:Int),((((decide (x3<0)) || (decide ((x11n:Int)≤x6)))=false)→cellH h1 h.size 0=some (.int .i64 x19))∧∃ (b22:Nat) (o23:Nat),((((decide (x3<0)) || (decide ((x11n:Int)≤x6)))=false)→x17a=some ⟨b22,o23,none⟩)∧((((decide (x3<0)) || (decide ((x11n:Int)≤x6)))=false)→0≤x19∧x19<(x17n:Int))∧∃ (x25:Option Addr),((((decide (x3<0)) || (decide ((x11n:Int)≤x6)))=false)→cellH h1 b22 (o23+x19.toNat * 1)=some (.pointer x25))∧∃ (b27:Nat) (o28:Nat),((((decide (x3<0)) || (decide ((x11n:Int)≤x6)))=false)→x25=some ⟨b27,o28,none⟩)∧∃ (x30:Int),((((decide (x3<0)) || (decide ((x11n:Int)≤x6)))=false)→cellH h1 b27 (o28+1)=some (.int .i64 x30))∧∃ (b33:Nat) (o34:Nat),(((((decide (x3<0)) || (decide ((x11n:Int)≤x6))) || (decide (x30=0)))=false)→p0=some ⟨b33,o34,none⟩)∧∃ (x36a:Option Addr) (x36n:Nat) (x36c:Nat),(((((decide (x3<0)) || (decide ((x11n:Int)≤x6))) || (decide (x30=0)))=false)→cellH h1 b33 o34=some (.slice x36a x36n x36c))∧∃ (x38:Int),(((((decide (x3<0)) || (decide ((x11n:Int)≤x6))) || (decide (x30=0)))=false)→cellH h1 h.size 0=some (.int .i64 x38))∧∃ (b41:Nat) (o42:Nat),(((((decide (x3<0)) || (decide ((x11n:Int)≤x6))) || (decide (x30=0)))=false)→x36a=some ⟨b41,o42,none⟩)∧(((((decide (x3<0)) || (decide ((x11n:Int)≤x6))) || (decide (x30=0)))=false)→0≤x38∧x38<(x36n:Int))∧∃ (x44:Option Addr),(((((decide (x3<0)) || (decide ((x11n:Int)≤x6))) || (decide (x30=0)))=false)→cellH h1 b41 (o42+x38.toNat * 1)=some (.pointer x44))∧∃ (b46:Nat) (o47:Nat),(((((decide (x3<0)) || (decide ((x11n:Int)≤x6))) || (decide (x30=0)))=false)→x44=some ⟨b46,o47,none⟩)∧∃ (x49:Int),(((((decide (x3<0)) || (decide ((x11n:Int)≤x6))) || (decide (x30=0)))=false)→cellH h1 b46 o47=some (.int .u64 x49))∧∃ (x51:Int),(((((decide (x3<0)) || (decide ((x11n:Int)≤x6))) || (decide (x30=0)))=false)→cellH h1 h.size 1=some (.int .u64 x51))∧(((((decide (x3<0)) || (decide ((x11n:Int)≤x6))) || (decide (x30=0))) || (!decide (x49=x51)))=true→K 3 h1)∧(((((decide (x3<0)) || (decide ((x11n:Int)≤x6))) || (decide (x30=0))) || (!decide (x49=x51)))=false→∃ (b54:Nat) (o55:Nat),p0=some ⟨b54,o55,none⟩∧∃ (x57a:Option Addr) (x57n:Nat) (x57c:Nat),cellH h1 b54 o55=some (.slice x57a x57n x57c)∧∃ (x59:Int),cellH h1 h.size 0=some (.int .i64 x59)∧∃ (b62:Nat) (o63:Nat),x57a=some ⟨b62,o63,none⟩∧(0≤x59∧x59<(x57n:Int))∧∃ (x65:Option Addr),cellH h1 b62 (o63+x59.toNat * 1)=some (.pointer x65)∧CallsV PR p2 [.pointer x65] h1 (fun v h67=>∃ (x69:Int),v=(Value.int .i64 x69)∧K x69 h67))
theorem Gdx (p0:Option Addr) (p1_0:Int) (p1_1:Int) (p2:Value) (R:Value→Heap→Prop) (h:Heap) (H:Gdw p0 p1_0 p1_1 p2 (fun r0 h'=>R (Value.int .i64 r0) h') h):CallsH PR Gm3 #[.pointer p0,.agg #[.int .i64 p1_0,.int .u64 p1_1],p2] h R:=by
 refine zD (args:=[.pointer p0,.agg #[.int .i64 p1_0,.int .u64 p1_1],p2]) Tryz.func82 U U ?_
 intro f hf
 have e0:=hf 0 _ rfl
 have e1:=hf 1 _ rfl
 have e2:=hf 2 _ rfl
 clear hf
 unfold Gdw at H
 refine ze ?_
 refine zc U ?_
 obtain⟨h1,c2⟩ : ∃ h1,h1=h.push (.cells #[.int .i64 p1_0,.int .u64 p1_1] 39 (0,0)):=⟨_,rfl⟩
 replace H:=H h1 c2
 refine za (yd (v:=.agg #[.int .i64 p1_0,.int .u64 p1_1]) e1 c2 ?_)
 refine za (zg (v:=.int .i64 0) U ?_)
 refine zh ?_
 refine ze ?_
 refine ze ?_
 obtain⟨x3,c4,H⟩:=H
 obtain⟨x6,c7,H⟩:=H
 obtain⟨b8,o9,c10,H⟩:=H
 obtain⟨x11a,x11n,x11c,c12,H⟩:=H
 obtain⟨b14,o15,c16,H⟩:=H
 obtain⟨x17a,x17n,x17c,c18,H⟩:=H
 obtain⟨x19,c20,H⟩:=H
 obtain⟨b22,o23,c24,H⟩:=H
 obtain⟨c21,H⟩:=H
 obtain⟨x25,c26,H⟩:=H
 obtain⟨b27,o28,c29,H⟩:=H
 obtain⟨x30,c31,H⟩:=H
 obtain⟨b33,o34,c35,H⟩:=H
 obtain⟨x36a,x36n,x36c,c37,H⟩:=H
 obtain⟨x38,c39,H⟩:=H
 obtain⟨b41,o42,c43,H⟩:=H
 obtain⟨c40,H⟩:=H
 obtain⟨x44,c45,H⟩:=H
 obtain⟨b46,o47,c48,H⟩:=H
 obtain⟨x49,c50,H⟩:=H
 obtain⟨x51,c52,H⟩:=H
 refine zO Ggt 0 [(Y (some ⟨h.size,0,none⟩)),(Z .i64 x3),(W (decide (x3<0))),(W (decide (x3<0))),(bif !(decide (x3<0)) then (Y (some ⟨h.size,0,none⟩)) else undef),(bif !(decide (x3<0)) then (Z .i64 x6) else undef),(bif !(decide (x3<0)) then (Y p0) else undef),(bif !(decide (x3<0)) then (Y (some ⟨b8,o9,none⟩)) else undef),(bif !(decide (x3<0)) then (Y (some ⟨b8,o9,none⟩)) else undef),(bif !(decide (x3<0)) then (T x11a x11n x11c) else undef),(bif !(decide (x3<0)) then (Z .i64 (x11n:Int)) else undef),(bif !(decide (x3<0)) then (W (decide ((x11n:Int)≤x6))) else undef),(W ((decide (x3<0)) || (decide ((x11n:Int)≤x6)))),(W ((decide (x3<0)) || (decide ((x11n:Int)≤x6)))),(bif !((decide (x3<0)) || (decide ((x11n:Int)≤x6))) then (Y p0) else undef),(bif !((decide (x3<0)) || (decide ((x11n:Int)≤x6))) then (Y (some ⟨b14,o15,none⟩)) else undef),(bif !((decide (x3<0)) || (decide ((x11n:Int)≤x6))) then (Y (some ⟨b14,o15,none⟩)) else undef),(bif !((decide (x3<0)) || (decide ((x11n:Int)≤x6))) then (T x17a x17n x17c) else undef),(bif !((decide (x3<0)) || (decide ((x11n:Int)≤x6))) then (Y (some ⟨h.size,0,none⟩)) else undef),(bif !((decide (x3<0)) || (decide ((x11n:Int)≤x6))) then (Z .i64 x19) else undef),(bif !((decide (x3<0)) || (decide ((x11n:Int)≤x6))) then (Y (some ⟨b22,o23+x19.toNat * 1,none⟩)) else undef),(bif !((decide (x3<0)) || (decide ((x11n:Int)≤x6))) then (Y x25) else undef),(bif !((decide (x3<0)) || (decide ((x11n:Int)≤x6))) then (Y (some ⟨b27,o28,none⟩)) else undef),(bif !((decide (x3<0)) || (decide ((x11n:Int)≤x6))) then (Y (some ⟨b27,o28+1,none⟩)) else undef),(bif !((decide (x3<0)) || (decide ((x11n:Int)≤x6))) then (Z .i64 x30) else undef),(bif !((decide (x3<0)) || (decide ((x11n:Int)≤x6))) then (W (decide (x30=0))) else undef),(W (((decide (x3<0)) || (decide ((x11n:Int)≤x6))) || (decide (x30=0)))),(W (((decide (x3<0)) || (decide ((x11n:Int)≤x6))) || (decide (x30=0)))),(bif !(((decide (x3<0)) || (decide ((x11n:Int)≤x6))) || (decide (x30=0))) then (Y p0) else undef),(bif !(((decide (x3<0)) || (decide ((x11n:Int)≤x6))) || (decide (x30=0))) then (Y (some ⟨b33,o34,none⟩)) else undef),(bif !(((decide (x3<0)) || (decide ((x11n:Int)≤x6))) || (decide (x30=0))) then (Y (some ⟨b33,o34,none⟩)) else undef),(bif !(((decide (x3<0)) || (decide ((x11n:Int)≤x6))) || (decide (x30=0))) then (T x36a x36n x36c) else undef),(bif !(((decide (x3<0)) || (decide ((x11n:Int)≤x6))) || (decide (x30=0))) then (Y (some ⟨h.size,0,none⟩)) else undef),(bif !(((decide (x3<0)) || (decide ((x11n:Int)≤x6))) || (decide (x30=0))) then (Z .i64 x38) else undef),(bif !(((decide (x3<0)) || (decide ((x11n:Int)≤x6))) || (decide (x30=0))) then (Y (some ⟨b41,o42+x38.toNat * 1,none⟩)) else undef),(bif !(((decide (x3<0)) || (decide ((x11n:Int)≤x6))) || (decide (x30=0))) then (Y x44) else undef),(bif !(((decide (x3<0)) || (decide ((x11n:Int)≤x6))) || (decide (x30=0))) then (Y (some ⟨b46,o47,none⟩)) else undef),(bif !(((decide (x3<0)) || (decide ((x11n:Int)≤x6))) || (decide (x30=0))) then (Y (some ⟨b46,o47,none⟩)) else undef),(bif !(((decide (x3<0)) || (decide ((x11n:Int)≤x6))) || (decide (x30=0))) then (Z .u64 x49) else undef),(bif !(((decide (x3<0)) || (decide ((x11n:Int)≤x6))) || (decide (x30=0))) then (Y (some ⟨h.size,1,none⟩)) else undef),(bif !(((decide (x3<0)) || (decide ((x11n:Int)≤x6))) || (decide (x30=0))) then (Z .u64 x51) else undef),(bif !(((decide (x3<0)) || (decide ((x11n:Int)≤x6))) || (decide (x30=0))) then (W (!decide (x49=x51))) else undef),(W ((((decide (x3<0)) || (decide ((x11n:Int)≤x6))) || (decide (x30=0))) || (!decide (x49=x51))))] (by kernel_rfl) U mixed_PR ?_
 refine zJ U (zw [0,1,2,3,4,5,6,7,8,9,10,11,12,13,14,15,16,17,18,19,20,21,22,23,24,25,26,27,28,29,30,31,32,33,34,35,36,37,38,39,40,41,42] U ⟨zb U U (zf U fo_39_0 ⟨U,U⟩),zb U U (zk U ag_3 c4 ⟨U,U⟩),zb U U (zY U U ⟨U,U⟩),zb U U (zd (v:=.bool (decide (x3<0))) U ⟨U,U⟩),zr (b:=!(decide (x3<0))) U U (zi U U) (fun hb=>zf U fo_39_0 ⟨zs hb,U⟩) (fun hb=>⟨zp hb,U⟩),zr (b:=!(decide (x3<0))) U U (zi U U) (fun hb=>zk (gv hb) ag_3 (c7 (zn (zt hb))) ⟨zs hb,U⟩) (fun hb=>⟨zp hb,U⟩),zr (b:=!(decide (x3<0))) U U (zi U U) (fun hb=>zd (v:=.pointer p0) e0 ⟨zs hb,U⟩) (fun hb=>⟨zp hb,U⟩),zr (b:=!(decide (x3<0))) U U (zi U U) (fun hb=>zj (Eq.trans (gv hb) (congrArg Y (c10 (zn (zt hb))))) ⟨zs hb,U⟩) (fun hb=>⟨zp hb,U⟩),zr (b:=!(decide (x3<0))) U U (zi U U) (fun hb=>zf (gv hb) fo_215_0 ⟨zs hb,U⟩) (fun hb=>⟨zp hb,U⟩),zr (b:=!(decide (x3<0))) U U (zi U U) (fun hb=>zk (gv hb) ag_213 (c12 (zn (zt hb))) ⟨zs hb,U⟩) (fun hb=>⟨zp hb,U⟩),zr (b:=!(decide (x3<0))) U U (zi U U) (fun hb=>zN (gv hb) un_213 ⟨zs hb,U⟩) (fun hb=>⟨zp hb,U⟩),zr (b:=!(decide (x3<0))) U U (zi U U) (fun hb=>op_geq (gv hb) (gv hb) ⟨zs hb,U⟩) (fun hb=>⟨zp hb,U⟩),zb U U (zR U U (fun hq=>(gv (zP hq))) ⟨U,U⟩),zb U U (zd (v:=.bool ((decide (x3<0)) || (decide ((x11n:Int)≤x6)))) U ⟨U,U⟩),zr (b:=!((decide (x3<0)) || (decide ((x11n:Int)≤x6)))) U U (zi U U) (fun hb=>zd (v:=.pointer p0) e0 ⟨zs hb,U⟩) (fun hb=>⟨zp hb,U⟩),zr (b:=!((decide (x3<0)) || (decide ((x11n:Int)≤x6)))) U U (zi U U) (fun hb=>zj (Eq.trans (gv hb) (congrArg Y (c16 (zt hb)))) ⟨zs hb,U⟩) (fun hb=>⟨zp hb,U⟩),zr (b:=!((decide (x3<0)) || (decide ((x11n:Int)≤x6)))) U U (zi U U) (fun hb=>zf (gv hb) fo_215_0 ⟨zs hb,U⟩) (fun hb=>⟨zp hb,U⟩),zr (b:=!((decide (x3<0)) || (decide ((x11n:Int)≤x6)))) U U (zi U U) (fun hb=>zk (gv hb) ag_213 (c18 (zt hb)) ⟨zs hb,U⟩) (fun hb=>⟨zp hb,U⟩),zr (b:=!((decide (x3<0)) || (decide ((x11n:Int)≤x6)))) U U (zi U U) (fun hb=>zf U fo_39_0 ⟨zs hb,U⟩) (fun hb=>⟨zp hb,U⟩),zr (b:=!((decide (x3<0)) || (decide ((x11n:Int)≤x6)))) U U (zi U U) (fun hb=>zk (gv hb) ag_3 (c20 (zt hb)) ⟨zs hb,U⟩) (fun hb=>⟨zp hb,U⟩),zr (b:=!((decide (x3<0)) || (decide ((x11n:Int)≤x6)))) U U (zi U U) (fun hb=>zE (Eq.trans (gv hb) (congrArg (fun a=>T a x17n x17c) (c24 (zt hb)))) (gv hb) ei_213 (c21 (zt hb)) ⟨zs hb,U⟩) (fun hb=>⟨zp hb,U⟩),zr (b:=!((decide (x3<0)) || (decide ((x11n:Int)≤x6)))) U U (zi U U) (fun hb=>zk (gv hb) ag_184 (c26 (zt hb)) ⟨zs hb,U⟩) (fun hb=>⟨zp hb,U⟩),zr (b:=!((decide (x3<0)) || (decide ((x11n:Int)≤x6)))) U U (zi U U) (fun hb=>zj (Eq.trans (gv hb) (congrArg Y (c29 (zt hb)))) ⟨zs hb,U⟩) (fun hb=>⟨zp hb,U⟩),zr (b:=!((decide (x3<0)) || (decide ((x11n:Int)≤x6)))) U U (zi U U) (fun hb=>zf (gv hb) fo_186_1 ⟨zs hb,U⟩) (fun hb=>⟨zp hb,U⟩),zr (b:=!((decide (x3<0)) || (decide ((x11n:Int)≤x6)))) U U (zi U U) (fun hb=>zk (gv hb) ag_3 (c31 (zt hb)) ⟨zs hb,U⟩) (fun hb=>⟨zp hb,U⟩),zr (b:=!((decide (x3<0)) || (decide ((x11n:Int)≤x6)))) U U (zi U U) (fun hb=>op_eql (gv hb) U ⟨zs hb,U⟩) (fun hb=>⟨zp hb,U⟩),zb U U (zR U U (fun hq=>(gv (zP hq))) ⟨U,U⟩),zb U U (zd (v:=.bool (((decide (x3<0)) || (decide ((x11n:Int)≤x6))) || (decide (x30=0)))) U ⟨U,U⟩),zr (b:=!(((decide (x3<0)) || (decide ((x11n:Int)≤x6))) || (decide (x30=0)))) U U (zi U U) (fun hb=>zd (v:=.pointer p0) e0 ⟨zs hb,U⟩) (fun hb=>⟨zp hb,U⟩),zr (b:=!(((decide (x3<0)) || (decide ((x11n:Int)≤x6))) || (decide (x30=0)))) U U (zi U U) (fun hb=>zj (Eq.trans (gv hb) (congrArg Y (c35 (zt hb)))) ⟨zs hb,U⟩) (fun hb=>⟨zp hb,U⟩),zr (b:=!(((decide (x3<0)) || (decide ((x11n:Int)≤x6))) || (decide (x30=0)))) U U (zi U U) (fun hb=>zf (gv hb) fo_215_0 ⟨zs hb,U⟩) (fun hb=>⟨zp hb,U⟩),zr (b:=!(((decide (x3<0)) || (decide ((x11n:Int)≤x6))) || (decide (x30=0)))) U U (zi U U) (fun hb=>zk (gv hb) ag_213 (c37 (zt hb)) ⟨zs hb,U⟩) (fun hb=>⟨zp hb,U⟩),zr (b:=!(((decide (x3<0)) || (decide ((x11n:Int)≤x6))) || (decide (x30=0)))) U U (zi U U) (fun hb=>zf U fo_39_0 ⟨zs hb,U⟩) (fun hb=>⟨zp hb,U⟩),zr (b:=!(((decide (x3<0)) || (decide ((x11n:Int)≤x6))) || (decide (x30=0)))) U U (zi U U) (fun hb=>zk (gv hb) ag_3 (c39 (zt hb)) ⟨zs hb,U⟩) (fun hb=>⟨zp hb,U⟩),zr (b:=!(((decide (x3<0)) || (decide ((x11n:Int)≤x6))) || (decide (x30=0)))) U U (zi U U) (fun hb=>zE (Eq.trans (gv hb) (congrArg (fun a=>T a x36n x36c) (c43 (zt hb)))) (gv hb) ei_213 (c40 (zt hb)) ⟨zs hb,U⟩) (fun hb=>⟨zp hb,U⟩),zr (b:=!(((decide (x3<0)) || (decide ((x11n:Int)≤x6))) || (decide (x30=0)))) U U (zi U U) (fun hb=>zk (gv hb) ag_184 (c45 (zt hb)) ⟨zs hb,U⟩) (fun hb=>⟨zp hb,U⟩),zr (b:=!(((decide (x3<0)) || (decide ((x11n:Int)≤x6))) || (decide (x30=0)))) U U (zi U U) (fun hb=>zj (Eq.trans (gv hb) (congrArg Y (c48 (zt hb)))) ⟨zs hb,U⟩) (fun hb=>⟨zp hb,U⟩),zr (b:=!(((decide (x3<0)) || (decide ((x11n:Int)≤x6))) || (decide (x30=0)))) U U (zi U U) (fun hb=>zf (gv hb) fo_186_0 ⟨zs hb,U⟩) (fun hb=>⟨zp hb,U⟩),zr (b:=!(((decide (x3<0)) || (decide ((x11n:Int)≤x6))) || (decide (x30=0)))) U U (zi U U) (fun hb=>zk (gv hb) ag_37 (c50 (zt hb)) ⟨zs hb,U⟩) (fun hb=>⟨zp hb,U⟩),zr (b:=!(((decide (x3<0)) || (decide ((x11n:Int)≤x6))) || (decide (x30=0)))) U U (zi U U) (fun hb=>zf U fo_39_1 ⟨zs hb,U⟩) (fun hb=>⟨zp hb,U⟩),zr (b:=!(((decide (x3<0)) || (decide ((x11n:Int)≤x6))) || (decide (x30=0)))) U U (zi U U) (fun hb=>zk (gv hb) ag_37 (c52 (zt hb)) ⟨zs hb,U⟩) (fun hb=>⟨zp hb,U⟩),zr (b:=!(((decide (x3<0)) || (decide ((x11n:Int)≤x6))) || (decide (x30=0)))) U U (zi U U) (fun hb=>op_neq (gv hb) (gv hb) ⟨zs hb,U⟩) (fun hb=>⟨zp hb,U⟩),zb U U (zR U U (fun hq=>(gv (zP hq))) ⟨U,U⟩),V⟩) U ?_
 refine zz ((((decide (x3<0)) || (decide ((x11n:Int)≤x6))) || (decide (x30=0))) || (!decide (x49=x51))) U ?_ ?_
 ·intro hb
  replace H:=H.1 hb
  refine ze ?_
  refine zc U ?_
  refine za (zg (v:=.int .i64 3) U ?_)
  refine zh ?_
  refine zx ?_
  exact zv (zq U zu) H
 ·intro hb
  replace H:=H.2 hb
  refine zC ?_
  refine ze ?_
  obtain⟨b54,o55,rfl,H⟩:=H
  obtain⟨x57a,x57n,x57c,c58,H⟩:=H
  obtain⟨x59,c60,H⟩:=H
  obtain⟨b62,o63,rfl,H⟩:=H
  obtain⟨c61,H⟩:=H
  obtain⟨x65,c66,H⟩:=H
  refine zO Ggu 1 [p2,(Y (some ⟨b54,o55,none⟩)),(Y (some ⟨b54,o55,none⟩)),(Y (some ⟨b54,o55,none⟩)),(T (some ⟨b62,o63,none⟩) x57n x57c),(Y (some ⟨h.size,0,none⟩)),(Z .i64 x59),(Y (some ⟨b62,o63+x59.toNat * 1,none⟩)),(Y x65),undef,undef] (by kernel_rfl) U mixed_PR ?_
  refine zA [9] (by decide) U (zw [0,1,2,3,4,5,6,7,8] U ⟨zb U U (zd (v:=p2) e2 ⟨U,U⟩),zb U U (zd (v:=.pointer (some ⟨b54,o55,none⟩)) e0 ⟨U,U⟩),zb U U (zj U ⟨U,U⟩),zb U U (zf U fo_215_0 ⟨U,U⟩),zb U U (zk U ag_213 c58 ⟨U,U⟩),zb U U (zf U fo_39_0 ⟨U,U⟩),zb U U (zk U ag_3 c60 ⟨U,U⟩),zb U U (zE U U ei_213 c61 ⟨U,U⟩),zb U U (zk U ag_184 c66 ⟨U,U⟩),V⟩) U ⟨?_,V⟩
  refine zb U U (op_callV (vs:=[.pointer x65]) U (zm U zy) (CallsV.mono H ?_))
  clear H
  rintro _ h67 ⟨x69,rfl,H⟩
  refine⟨[p2,(Value.pointer (some ⟨b54,o55,none⟩)),(Value.pointer (some ⟨b54,o55,none⟩)),(Value.pointer (some ⟨b54,o55,none⟩)),(Value.slice (some ⟨b62,o63,none⟩) x57n x57c),(Value.pointer (some ⟨h.size,0,none⟩)),(Value.int .i64 x59),(Value.pointer (some ⟨b62,o63+x59.toNat * 1,none⟩)),(Value.pointer x65),(Value.int .i64 x69),(Value.int .i64 x69)],rfl,(zH [0,1,2,3,4,5,6,7,8] rfl ⟨rfl,rfl,rfl,rfl,rfl,rfl,rfl,rfl,rfl,trivial⟩),?_⟩
  refine zJ U (zw [10] U ⟨zb U U (zg (v:=.int .i64 x69) U ⟨U,U⟩),V⟩) U ?_
  refine zx ?_
  exact zv (zq U zu) H
def Gdc (p0:Option Addr) (p1_0:Int) (p1_1:Int) (p2:Int) (p3:Int) (K:Int→Heap→Prop) (h:Heap):Prop:=
 ∀ (h1:Heap),h1=h.push (.cells #[.int .i64 p1_0,.int .u64 p1_1] 39 (0,0))→∀ (h3:Heap),h3=h1.push (.cells #[.int .i64 p2] 3 (0,0))→∀ (h5:Heap),h5=h3.push (.cells #[.int .i64 p3] 3 (0,0))→∃ (x7_0:Int) (x7_1:Int),ldCells h5 h.size 0 2=some [.int .i64 x7_0,.int .u64 x7_1]∧CallsH PR Gm3 #[.pointer p0,.agg #[.int .i64 x7_0,.int .u64 x7_1],(Value.func (.func Glu) #[] #[.pointer (some ⟨h1.size,0,none⟩),.pointer (some ⟨h3.size,0,none⟩)])] h5 (fun v h9=>∃ (x11:Int),v=(Value.int .i64 x11)∧K x11 h9)
theorem Gdf (p0:Option Addr) (p1_0:Int) (p1_1:Int) (p2:Int) (p3:Int) (R:Value→Heap→Prop) (h:Heap) (H:Gdc p0 p1_0 p1_1 p2 p3 (fun r0 h'=>R (Value.int .i64 r0) h') h):CallsH PR Glt #[.pointer p0,.agg #[.int .i64 p1_0,.int .u64 p1_1],.int .i64 p2,.int .i64 p3] h R:=by
 refine zD (args:=[.pointer p0,.agg #[.int .i64 p1_0,.int .u64 p1_1],.int .i64 p2,.int .i64 p3]) Tryz.func70 U U ?_
 intro f hf
 have e0:=hf 0 _ rfl
 have e1:=hf 1 _ rfl
 have e2:=hf 2 _ rfl
 have e3:=hf 3 _ rfl
 clear hf
 unfold Gdc at H
 refine ze ?_
 refine zc U ?_
 obtain⟨h1,c2⟩ : ∃ h1,h1=h.push (.cells #[.int .i64 p1_0,.int .u64 p1_1] 39 (0,0)):=⟨_,rfl⟩
 replace H:=H h1 c2
 refine za (yd (v:=.agg #[.int .i64 p1_0,.int .u64 p1_1]) e1 c2 ?_)
 obtain⟨h3,c4⟩ : ∃ h3,h3=h1.push (.cells #[.int .i64 p2] 3 (0,0)):=⟨_,rfl⟩
 replace H:=H h3 c4
 refine za (yd (v:=.int .i64 p2) e2 c4 ?_)
 obtain⟨h5,c6⟩ : ∃ h5,h5=h3.push (.cells #[.int .i64 p3] 3 (0,0)):=⟨_,rfl⟩
 replace H:=H h5 c6
 refine za (yd (v:=.int .i64 p3) e3 c6 ?_)
 refine za (zg (v:=.int .i64 0) U ?_)
 refine zh ?_
 refine ze ?_
 refine zc U ?_
 refine za (zd (v:=.pointer p0) e0 ?_)
 obtain⟨x7_0,x7_1,c8,H⟩:=H
 refine za (zS U ag_39 c8 ?_)
 refine za (yl (cs:=[.pointer (some ⟨h1.size,0,none⟩),.pointer (some ⟨h3.size,0,none⟩)]) (zm U (zm U zy)) ?_)
 refine za (zG (vs:=[.pointer p0,.agg #[.int .i64 x7_0,.int .u64 x7_1],(Value.func (.func Glu) #[] #[.pointer (some ⟨h1.size,0,none⟩),.pointer (some ⟨h3.size,0,none⟩)])]) en_82 (zm U (zm U (zm U zy))) (CallsH.mono H ?_))
 clear H
 rintro _ h9 ⟨x11,rfl,H⟩
 refine za (zg (v:=.int .i64 x11) U ?_)
 refine zh ?_
 refine zx ?_
 exact zv (zq U zu) H
def Ggl:Cert:=⟨[[],[0],[0,1],[0,1,2],[],[0,1,2,3,4],[0,1,2,3,4,5]],[false,false,false,false,false,false,false]⟩
def Gdd (p0:Option Addr) (q0:Option Addr) (q1:Option Addr) (K:Int→Heap→Prop) (h:Heap):Prop:=
 ∃ (b1:Nat) (o2:Nat),q0=some ⟨b1,o2,none⟩∧∃ (x4:Int),cellH h b1 o2=some (.int .i64 x4)∧CallsH PR Gm4 #[.int .i64 x4] h (fun v h6=>∃ (x8:Bool),v=(Value.bool x8)∧∃ (b9:Nat) (o10:Nat),((x8=true)→q1=some ⟨b9,o10,none⟩)∧∃ (x12:Int),((x8=true)→cellH h6 b9 o10=some (.int .i64 x12))∧∃ J17:Bool→Heap→Prop,(∀ (x16:Bool) (h14:Heap),J17 x16 h14→∃ (x18:Int),((((!x8) || (!x16))=false)→cellH h14 b1 o2=some (.int .i64 x18))∧∃ (b20:Nat) (o21:Nat),((((!x8) || (!x16))=false)→q1=some ⟨b20,o21,none⟩)∧∃ (x23:Int),((((!x8) || (!x16))=false)→cellH h14 b20 o21=some (.int .i64 x23))∧((((!x8) || (!x16)) || (decide (x18=x23)))=true→K 1 h14)∧((((!x8) || (!x16)) || (decide (x18=x23)))=false→∃ (b26:Nat) (o27:Nat),p0=some ⟨b26,o27,none⟩∧∃ (x29:Int),cellH h14 b26 (o27+1)=some (.int .i64 x29)∧∃ (x31:Int),cellH h14 b1 o2=some (.int .i64 x31)∧((¬ (x29=x31))→K 8 h14)∧(x29=x31→∃ (b34:Nat) (o35:Nat),q1=some ⟨b34,o35,none⟩∧∃ (x37:Int),cellH h14 b34 o35=some (.int .i64 x37)∧∃ (h40:Heap),stCells b26 h14 (o27+1) [.int .i64 x37]=some h40∧K 0 h40)))∧((x8=true)→CallsH PR Gm4 #[.int .i64 x12] h6 (fun v h14=>∃ (x16:Bool),v=(Value.bool x16)∧J17 x16 h14))∧((x8=false)→∃ (x16:Bool),J17 x16 h6))
theorem Gde (p0:Option Addr) (q0:Option Addr) (q1:Option Addr) (R:Value→Heap→Prop) (h:Heap) (H:Gdd p0 q0 q1 (fun r0 h'=>R (Value.int .i64 r0) h') h):CallsH PR Glu #[.pointer p0,.pointer q0,.pointer q1] h R:=by
 refine zD (args:=[.pointer p0,.pointer q0,.pointer q1]) Tryz.func132 U U ?_
 intro f hf
 have e0:=hf 0 _ rfl
 have e1:=hf 1 _ rfl
 have e2:=hf 2 _ rfl
 clear hf
 unfold Gdd at H
 refine ze ?_
 refine zc U ?_
 refine za (zg (v:=.int .i64 0) U ?_)
 refine zh ?_
 refine ze ?_
 refine zK ?_
 refine ze ?_
 refine zc U ?_
 obtain⟨b1,o2,rfl,H⟩:=H
 obtain⟨x4,c5,H⟩:=H
 refine za (zk e1 ag_3 c5 ?_)
 refine za (zG (vs:=[.int .i64 x4]) en_133 (zm U zy) (CallsH.mono H ?_))
 clear H
 rintro _ h6 ⟨x8,rfl,H⟩
 refine za (yi U ?_)
 refine za (zd (v:=.bool (!x8)) U ?_)
 obtain⟨b9,o10,c11,H⟩:=H
 obtain⟨x12,c13,H⟩:=H
 refine zF (b:=!(!x8)) (zi U U) (Z .i64 x12) (fun hb N hN=>zk (Eq.trans e2 (congrArg Y (c11 (zL (zt hb))))) ag_3 (c13 (zL (zt hb))) hN) ?_
 obtain⟨J17,HR,HT,HF⟩:=H
 refine wpL_gl (b:=!(!x8)) (zi U U) (fun v h14=>∃ (x16:Bool),v=(bif !(!x8) then (W x16) else undef)∧J17 x16 h14) ?_ ?_ ?_
 ·rintro _ h14 ⟨x16,rfl,hJ⟩
  have H:=HR x16 h14 hJ
  refine zF (b:=!(!x8)) (zi U U) (W (!x16)) (fun hb N hN=>yi (gv hb) hN) ?_
  refine za (zR U U (fun hq=>(gv (zP hq))) ?_)
  refine za (zd (v:=.bool ((!x8) || (!x16))) U ?_)
  obtain⟨x18,c19,H⟩:=H
  refine zF (b:=!((!x8) || (!x16))) (zi U U) (Z .i64 x18) (fun hb N hN=>zk e1 ag_3 (c19 (zt hb)) hN) ?_
  obtain⟨b20,o21,c22,H⟩:=H
  obtain⟨x23,c24,H⟩:=H
  refine zF (b:=!((!x8) || (!x16))) (zi U U) (Z .i64 x23) (fun hb N hN=>zk (Eq.trans e2 (congrArg Y (c22 (zt hb)))) ag_3 (c24 (zt hb)) hN) ?_
  refine zF (b:=!((!x8) || (!x16))) (zi U U) (W (decide (x18=x23))) (fun hb N hN=>op_eql (gv hb) (gv hb) hN) ?_
  refine za (zR U U (fun hq=>(gv (zP hq))) ?_)
  refine za (zg (v:=.bool (((!x8) || (!x16)) || (decide (x18=x23)))) U ?_)
  refine zh ?_
  refine zz (((!x8) || (!x16)) || (decide (x18=x23))) U ?_ ?_
  ·intro hb
   replace H:=H.1 hb
   refine ze ?_
   refine zc U ?_
   refine za (zg (v:=.int .i64 1) U ?_)
   refine zh ?_
   refine zx ?_
   exact zv (zq U zu) H
  ·intro hb
   replace H:=H.2 hb
   refine ze ?_
   obtain⟨b26,o27,rfl,H⟩:=H
   obtain⟨x29,c30,H⟩:=H
   obtain⟨x31,c32,H⟩:=H
   refine zO Ggl 0 [(Y (some ⟨b26,o27,none⟩)),(Y (some ⟨b26,o27,none⟩)),(Y (some ⟨b26,o27+1,none⟩)),(Z .i64 x29),(Z .i64 x31),(W (!decide (x29=x31))),(W (!decide (x29=x31)))] (by kernel_rfl) U mixed_PR ?_
   refine zJ U (zw [0,1,2,3,4,5,6] U ⟨zb U U (zd (v:=.pointer (some ⟨b26,o27,none⟩)) e0 ⟨U,U⟩),zb U U (zj U ⟨U,U⟩),zb U U (zf U fo_186_1 ⟨U,U⟩),zb U U (zk U ag_3 c30 ⟨U,U⟩),zb U U (zk e1 ag_3 c32 ⟨U,U⟩),zb U U (op_neq U U ⟨U,U⟩),zb U U (zg (v:=.bool (!decide (x29=x31))) U ⟨U,U⟩),V⟩) U ?_
   refine zz (!decide (x29=x31)) U ?_ ?_
   ·intro hb
    replace H:=H.1 (zn (zt hb))
    refine ze ?_
    refine zc U ?_
    refine za (zg (v:=.int .i64 8) U ?_)
    refine zh ?_
    refine zx ?_
    exact zv (zq U zu) H
   ·intro hb
    replace H:=H.2 (zo (zL hb))
    refine zC ?_
    refine ze ?_
    refine zc U ?_
    refine za (zd (v:=.pointer (some ⟨b26,o27,none⟩)) e0 ?_)
    obtain⟨b34,o35,rfl,H⟩:=H
    obtain⟨x37,c38,H⟩:=H
    refine za (zk e2 ag_3 c38 ?_)
    refine za (zj U ?_)
    refine za (zf U fo_186_1 ?_)
    obtain⟨h40,c39,H⟩:=H
    refine za (zI (v:=.int .i64 x37) U U sz_3 U c39 ?_)
    refine zh ?_
    refine ze ?_
    refine zc U ?_
    refine za (zg (v:=.int .i64 0) U ?_)
    refine zh ?_
    refine zx ?_
    exact zv (zq U zu) H
 ·intro hb
  refine zG (vs:=[.int .i64 x12]) en_133 (zm (gv hb) zy) (CallsH.mono (HT (zL (zt hb))) ?_)
  rintro _ h14 ⟨x16,rfl,hJ⟩
  exact⟨x16,zs hb,hJ⟩
 ·intro hb
  obtain⟨x16,hJ⟩:=HF (zt (zL hb))
  exact⟨x16,zp hb,hJ⟩
def Gdy (p0:Int) (K:Bool→Heap→Prop) (h:Heap):Prop:=
 K ((decide (1≤p0)) && (decide (p0≤3))) h
theorem Gdz (p0:Int) (R:Value→Heap→Prop) (h:Heap) (H:Gdy p0 (fun r0 h'=>R (Value.bool r0) h') h):CallsH PR Gm4 #[.int .i64 p0] h R:=by
 refine zD (args:=[.int .i64 p0]) Tryz.func133 U U ?_
 intro f hf
 have e0:=hf 0 _ rfl
 clear hf
 unfold Gdy at H
 refine ze ?_
 refine zc U ?_
 refine za (zg (v:=.bool false) U ?_)
 refine zh ?_
 refine ze ?_
 refine zc U ?_
 refine za (zd (v:=.int .i64 p0) e0 ?_)
 refine za (op_geq U U ?_)
 refine za (zd (v:=.bool (decide (1≤p0))) U ?_)
 refine zF (b:=decide (1≤p0)) (zi U U) (Z .i64 p0) (fun hb N hN=>zd (v:=.int .i64 p0) e0 hN) ?_
 refine zF (b:=decide (1≤p0)) (zi U U) (W (decide (p0≤3))) (fun hb N hN=>op_leq (gv hb) U hN) ?_
 refine za (zV U (fun hq=>(gv hq)) U ?_)
 refine za (zg (v:=.bool ((decide (1≤p0)) && (decide (p0≤3)))) U ?_)
 refine zh ?_
 refine zx ?_
 exact zv (zq U zu) H
def Ggn:Cert:=⟨[[],[],[],[0],[0,1,3],[0,1,2,3,4]],[false,false,false,false,false,false]⟩
def Gdg (p0:Option Addr) (p1_0:Int) (p1_1:Int) (K:Int→Int→Int→Heap→Prop) (h:Heap):Prop:=
 ∀ (h1:Heap),h1=h.push (.cells #[.int .i64 p1_0,.int .u64 p1_1] 39 (0,0))→∀ (h3:Heap),h3=h1.push (.cells #[.int .i64 0] 3 (0,0))→∀ (h5:Heap),h5=h3.push (.cells #[.int .i64 0] 3 (0,0))→∃ (h8:Heap),stCells h1.size h5 0 [.int .i64 0]=some h8∧∃ (h10:Heap),stCells h3.size h8 0 [.int .i64 0]=some h10∧∃ (x11_0:Int) (x11_1:Int),ldCells h10 h.size 0 2=some [.int .i64 x11_0,.int .u64 x11_1]∧CallsH PR Gm3 #[.pointer p0,.agg #[.int .i64 x11_0,.int .u64 x11_1],(Value.func (.func Glw) #[] #[.pointer (some ⟨h1.size,0,none⟩),.pointer (some ⟨h3.size,0,none⟩)])] h10 (fun v h13=>∃ (x15:Int),v=(Value.int .i64 x15)∧∃ (x16:Int),cellH h13 h1.size 0=some (.int .i64 x16)∧∃ (x18:Int),cellH h13 h3.size 0=some (.int .i64 x18)∧K x16 x18 x15 h13)
theorem Gdj (p0:Option Addr) (p1_0:Int) (p1_1:Int) (R:Value→Heap→Prop) (h:Heap) (H:Gdg p0 p1_0 p1_1 (fun r0 r1 r2 h'=>R (Value.tuple #[.int .i64 r0,.int .i64 r1,.int .i64 r2]) h') h):CallsH PR Glv #[.pointer p0,.agg #[.int .i64 p1_0,.int .u64 p1_1]] h R:=by
 refine zD (args:=[.pointer p0,.agg #[.int .i64 p1_0,.int .u64 p1_1]]) Tryz.func27 U U ?_
 intro f hf
 have e0:=hf 0 _ rfl
 have e1:=hf 1 _ rfl
 clear hf
 unfold Gdg at H
 refine ze ?_
 refine zc U ?_
 obtain⟨h1,c2⟩ : ∃ h1,h1=h.push (.cells #[.int .i64 p1_0,.int .u64 p1_1] 39 (0,0)):=⟨_,rfl⟩
 replace H:=H h1 c2
 refine za (yd (v:=.agg #[.int .i64 p1_0,.int .u64 p1_1]) e1 c2 ?_)
 refine za (zg (v:=.int .i64 0) U ?_)
 refine za (zg (v:=.int .i64 0) U ?_)
 refine za (zg (v:=.int .i64 0) U ?_)
 refine zh ?_
 refine ze ?_
 refine zc U ?_
 obtain⟨h3,c4⟩ : ∃ h3,h3=h1.push (.cells #[.int .i64 0] 3 (0,0)):=⟨_,rfl⟩
 replace H:=H h3 c4
 refine za (zW z_3 c4 ?_)
 obtain⟨h5,c6⟩ : ∃ h5,h5=h3.push (.cells #[.int .i64 0] 3 (0,0)):=⟨_,rfl⟩
 replace H:=H h5 c6
 refine za (zW z_3 c6 ?_)
 obtain⟨h8,c7,H⟩:=H
 refine za (zI (v:=.int .i64 0) U U sz_3 U c7 ?_)
 obtain⟨h10,c9,H⟩:=H
 refine za (zI (v:=.int .i64 0) U U sz_3 U c9 ?_)
 refine zh ?_
 refine ze ?_
 refine zc U ?_
 refine za (zd (v:=.pointer p0) e0 ?_)
 obtain⟨x11_0,x11_1,c12,H⟩:=H
 refine za (zS U ag_39 c12 ?_)
 refine za (yl (cs:=[.pointer (some ⟨h1.size,0,none⟩),.pointer (some ⟨h3.size,0,none⟩)]) (zm U (zm U zy)) ?_)
 refine za (zG (vs:=[.pointer p0,.agg #[.int .i64 x11_0,.int .u64 x11_1],(Value.func (.func Glw) #[] #[.pointer (some ⟨h1.size,0,none⟩),.pointer (some ⟨h3.size,0,none⟩)])]) en_82 (zm U (zm U (zm U zy))) (CallsH.mono H ?_))
 clear H
 rintro _ h13 ⟨x15,rfl,H⟩
 refine za (zg (v:=.int .i64 x15) U ?_)
 refine zh ?_
 refine ze ?_
 obtain⟨x16,c17,H⟩:=H
 obtain⟨x18,c19,H⟩:=H
 refine zO Ggn 0 [(Z .i64 x16),(Z .i64 x18),(Z .i64 x15),(Z .i64 x16),(Z .i64 x18),(Z .i64 x15)] (by kernel_rfl) U mixed_PR ?_
 refine zJ U (zw [0,1,2,3,4,5] U ⟨zb U U (zk U ag_3 c17 ⟨U,U⟩),zb U U (zk U ag_3 c19 ⟨U,U⟩),zb U U (zd (v:=.int .i64 x15) U ⟨U,U⟩),zb U U (zg (v:=.int .i64 x16) U ⟨U,U⟩),zb U U (zg (v:=.int .i64 x18) U ⟨U,U⟩),zb U U (zg (v:=.int .i64 x15) U ⟨U,U⟩),V⟩) U ?_
 refine zx ?_
 exact zv (zq U (zq U (zq U zu))) H
def Ggm:Cert:=⟨[[],[0],[0,1],[0,1,2],[],[4],[4,5],[4,5,6],[0,1,2,3],[0,1,2,3,4,5,6,7,8]],[false,false,false,false,false,false,false,false,true,true]⟩
def Gdh (p0:Option Addr) (q0:Option Addr) (q1:Option Addr) (K:Int→Heap→Prop) (h:Heap):Prop:=
 ∃ (b1:Nat) (o2:Nat),p0=some ⟨b1,o2,none⟩∧∃ (x4:Int),cellH h b1 (o2+1)=some (.int .i64 x4)∧∃ (x6:Int),cellH h b1 (o2+2)=some (.int .i64 x6)∧∃ (b8:Nat) (o9:Nat),q0=some ⟨b8,o9,none⟩∧∃ (h12:Heap),stCells b8 h o9 [.int .i64 x4]=some h12∧cellH h12 b1 (o2+2)=some (Value.int .i64 x6)∧∃ (b14:Nat) (o15:Nat),q1=some ⟨b14,o15,none⟩∧∃ (h18:Heap),stCells b14 h12 o15 [.int .i64 x6]=some h18∧K 0 h18
theorem Gdi (p0:Option Addr) (q0:Option Addr) (q1:Option Addr) (R:Value→Heap→Prop) (h:Heap) (H:Gdh p0 q0 q1 (fun r0 h'=>R (Value.int .i64 r0) h') h):CallsH PR Glw #[.pointer p0,.pointer q0,.pointer q1] h R:=by
 refine zD (args:=[.pointer p0,.pointer q0,.pointer q1]) Tryz.func92 U U ?_
 intro f hf
 have e0:=hf 0 _ rfl
 have e1:=hf 1 _ rfl
 have e2:=hf 2 _ rfl
 clear hf
 unfold Gdh at H
 refine ze ?_
 refine zc U ?_
 refine za (zg (v:=.int .i64 0) U ?_)
 refine zh ?_
 refine ze ?_
 obtain⟨b1,o2,rfl,H⟩:=H
 obtain⟨x4,c5,H⟩:=H
 obtain⟨x6,c7,H⟩:=H
 refine zO Ggm 2 [(Y (some ⟨b1,o2,none⟩)),(Y (some ⟨b1,o2,none⟩)),(Y (some ⟨b1,o2+1,none⟩)),(Z .i64 x4),(Y (some ⟨b1,o2,none⟩)),(Y (some ⟨b1,o2,none⟩)),(Y (some ⟨b1,o2+2,none⟩)),(Z .i64 x6),undef,undef] (by kernel_rfl) U mixed_PR ?_
 refine zA [8] (by decide) U (zw [0,1,2,3,4,5,6,7] U ⟨zb U U (zd (v:=.pointer (some ⟨b1,o2,none⟩)) e0 ⟨U,U⟩),zb U U (zj U ⟨U,U⟩),zb U U (zf U fo_186_1 ⟨U,U⟩),zb U U (zk U ag_3 c5 ⟨U,U⟩),zb U U (zd (v:=.pointer (some ⟨b1,o2,none⟩)) e0 ⟨U,U⟩),zb U U (zj U ⟨U,U⟩),zb U U (zf U fo_186_2 ⟨U,U⟩),zb U U (zk U ag_3 c7 ⟨U,U⟩),V⟩) U ⟨?_,V⟩
 obtain⟨b8,o9,rfl,H⟩:=H
 obtain⟨h12,c11,H⟩:=H
 refine zb U U (zI (v:=.int .i64 x4) e1 U sz_3 U c11 ?_)
 obtain⟨c13,H⟩:=H
 refine⟨[(Value.pointer (some ⟨b1,o2,none⟩)),(Value.pointer (some ⟨b1,o2,none⟩)),(Value.pointer (some ⟨b1,o2+1,none⟩)),(Value.int .i64 x4),(Value.pointer (some ⟨b1,o2,none⟩)),(Value.pointer (some ⟨b1,o2,none⟩)),(Value.pointer (some ⟨b1,o2+2,none⟩)),(Value.int .i64 x6),undef,undef],rfl,(zH [0,1,2,3,4,5,6,7] rfl ⟨rfl,rfl,rfl,rfl,rfl,rfl,rfl,rfl,trivial⟩),?_⟩
 refine zA [9] (by decide) U (zw [4,5,6,7] U ⟨zb U U (zd (v:=.pointer (some ⟨b1,o2,none⟩)) e0 ⟨U,U⟩),zb U U (zj U ⟨U,U⟩),zb U U (zf U fo_186_2 ⟨U,U⟩),zb U U (zk U ag_3 c13 ⟨U,U⟩),V⟩) U ⟨?_,V⟩
 obtain⟨b14,o15,rfl,H⟩:=H
 obtain⟨h18,c17,H⟩:=H
 refine zb U U (zI (v:=.int .i64 x6) e2 U sz_3 U c17 ?_)
 refine⟨[(Value.pointer (some ⟨b1,o2,none⟩)),(Value.pointer (some ⟨b1,o2,none⟩)),(Value.pointer (some ⟨b1,o2+1,none⟩)),(Value.int .i64 x4),(Value.pointer (some ⟨b1,o2,none⟩)),(Value.pointer (some ⟨b1,o2,none⟩)),(Value.pointer (some ⟨b1,o2+2,none⟩)),(Value.int .i64 x6),undef,undef],rfl,(zH [0,1,2,3,4,5,6,7,8] rfl ⟨rfl,rfl,rfl,rfl,rfl,rfl,rfl,rfl,rfl,trivial⟩),?_⟩
 refine zJ U (zw [] U V) U ?_
 refine ze ?_
 refine zc U ?_
 refine za (zg (v:=.int .i64 0) U ?_)
 refine zh ?_
 refine zx ?_
 exact zv (zq U zu) H
def Gdo (p0:Option Addr) (p1_0:Int) (p1_1:Int) (K:Int→Int→Heap→Prop) (h:Heap):Prop:=
 ∀ (h1:Heap),h1=h.push (.cells #[.int .i64 p1_0,.int .u64 p1_1] 39 (0,0))→∀ (h3:Heap),h3=h1.push (.cells #[.int .i64 0] 3 (0,0))→∃ (h6:Heap),stCells h1.size h3 0 [.int .i64 0]=some h6∧∃ (x7_0:Int) (x7_1:Int),ldCells h6 h.size 0 2=some [.int .i64 x7_0,.int .u64 x7_1]∧CallsH PR Gm3 #[.pointer p0,.agg #[.int .i64 x7_0,.int .u64 x7_1],(Value.func (.func Gm0) #[] #[.pointer (some ⟨h1.size,0,none⟩)])] h6 (fun v h9=>∃ (x11:Int),v=(Value.int .i64 x11)∧∃ (x12:Int),cellH h9 h1.size 0=some (.int .i64 x12)∧K x12 x11 h9)
theorem Gdr (p0:Option Addr) (p1_0:Int) (p1_1:Int) (R:Value→Heap→Prop) (h:Heap) (H:Gdo p0 p1_0 p1_1 (fun r0 r1 h'=>R (Value.tuple #[.int .i64 r0,.int .i64 r1]) h') h):CallsH PR Glz #[.pointer p0,.agg #[.int .i64 p1_0,.int .u64 p1_1]] h R:=by
 refine zD (args:=[.pointer p0,.agg #[.int .i64 p1_0,.int .u64 p1_1]]) Tryz.func49 U U ?_
 intro f hf
 have e0:=hf 0 _ rfl
 have e1:=hf 1 _ rfl
 clear hf
 unfold Gdo at H
 refine ze ?_
 refine zc U ?_
 obtain⟨h1,c2⟩ : ∃ h1,h1=h.push (.cells #[.int .i64 p1_0,.int .u64 p1_1] 39 (0,0)):=⟨_,rfl⟩
 replace H:=H h1 c2
 refine za (yd (v:=.agg #[.int .i64 p1_0,.int .u64 p1_1]) e1 c2 ?_)
 refine za (zg (v:=.int .i64 0) U ?_)
 refine za (zg (v:=.int .i64 0) U ?_)
 refine zh ?_
 refine ze ?_
 refine zc U ?_
 obtain⟨h3,c4⟩ : ∃ h3,h3=h1.push (.cells #[.int .i64 0] 3 (0,0)):=⟨_,rfl⟩
 replace H:=H h3 c4
 refine za (zW z_3 c4 ?_)
 obtain⟨h6,c5,H⟩:=H
 refine za (zI (v:=.int .i64 0) U U sz_3 U c5 ?_)
 refine zh ?_
 refine ze ?_
 refine zc U ?_
 refine za (zd (v:=.pointer p0) e0 ?_)
 obtain⟨x7_0,x7_1,c8,H⟩:=H
 refine za (zS U ag_39 c8 ?_)
 refine za (yl (cs:=[.pointer (some ⟨h1.size,0,none⟩)]) (zm U zy) ?_)
 refine za (zG (vs:=[.pointer p0,.agg #[.int .i64 x7_0,.int .u64 x7_1],(Value.func (.func Gm0) #[] #[.pointer (some ⟨h1.size,0,none⟩)])]) en_82 (zm U (zm U (zm U zy))) (CallsH.mono H ?_))
 clear H
 rintro _ h9 ⟨x11,rfl,H⟩
 refine za (zg (v:=.int .i64 x11) U ?_)
 refine zh ?_
 refine ze ?_
 refine zc U ?_
 obtain⟨x12,c13,H⟩:=H
 refine za (zk U ag_3 c13 ?_)
 refine za (zd (v:=.int .i64 x11) U ?_)
 refine za (zg (v:=.int .i64 x12) U ?_)
 refine za (zg (v:=.int .i64 x11) U ?_)
 refine zh ?_
 refine zx ?_
 exact zv (zq U (zq U zu)) H
def Gdp (p0:Option Addr) (q0:Option Addr) (K:Int→Heap→Prop) (h:Heap):Prop:=
 ∃ (b1:Nat) (o2:Nat),p0=some ⟨b1,o2,none⟩∧∃ (x4a:Option Addr) (x4n:Nat) (x4c:Nat),cellH h b1 (o2+3)=some (.slice x4a x4n x4c)∧∃ (b6:Nat) (o7:Nat),q0=some ⟨b6,o7,none⟩∧∃ (h10:Heap),stCells b6 h o7 [.int .i64 (x4n:Int)]=some h10∧K 0 h10
theorem Gdq (p0:Option Addr) (q0:Option Addr) (R:Value→Heap→Prop) (h:Heap) (H:Gdp p0 q0 (fun r0 h'=>R (Value.int .i64 r0) h') h):CallsH PR Gm0 #[.pointer p0,.pointer q0] h R:=by
 refine zD (args:=[.pointer p0,.pointer q0]) Tryz.func112 U U ?_
 intro f hf
 have e0:=hf 0 _ rfl
 have e1:=hf 1 _ rfl
 clear hf
 unfold Gdp at H
 refine ze ?_
 refine zc U ?_
 refine za (zg (v:=.int .i64 0) U ?_)
 refine zh ?_
 refine ze ?_
 refine zc U ?_
 refine za (zd (v:=.pointer p0) e0 ?_)
 obtain⟨b1,o2,rfl,H⟩:=H
 refine za (zj U ?_)
 refine za (zf U fo_186_3 ?_)
 obtain⟨x4a,x4n,x4c,c5,H⟩:=H
 refine za (zk U ag_23 c5 ?_)
 refine za (zN U un_23 ?_)
 obtain⟨b6,o7,rfl,H⟩:=H
 obtain⟨h10,c9,H⟩:=H
 refine za (zI (v:=.int .i64 (x4n:Int)) e1 U sz_3 U c9 ?_)
 refine zh ?_
 refine ze ?_
 refine zc U ?_
 refine za (zg (v:=.int .i64 0) U ?_)
 refine zh ?_
 refine zx ?_
 exact zv (zq U zu) H
def Gds (p0:Option Addr) (p1_0:Int) (p1_1:Int) (p2:Int) (p3:Int) (p4a:Option Addr) (p4n:Nat) (p4c:Nat) (K:Int→Heap→Prop) (h:Heap):Prop:=
 ∀ (h1:Heap),h1=h.push (.cells #[.int .i64 p1_0,.int .u64 p1_1] 39 (0,0))→∀ (h3:Heap),h3=h1.push (.cells #[.int .i64 p2] 3 (0,0))→∀ (h5:Heap),h5=h3.push (.cells #[.int .i64 p3] 3 (0,0))→∀ (h7:Heap),h7=h5.push (.cells #[.slice p4a p4n p4c] 23 (0,0))→∃ (x9_0:Int) (x9_1:Int),ldCells h7 h.size 0 2=some [.int .i64 x9_0,.int .u64 x9_1]∧CallsH PR Gm3 #[.pointer p0,.agg #[.int .i64 x9_0,.int .u64 x9_1],(Value.func (.func Gm2) #[] #[.pointer (some ⟨h1.size,0,none⟩),.pointer (some ⟨h3.size,0,none⟩),.pointer (some ⟨h5.size,0,none⟩)])] h7 (fun v h11=>∃ (x13:Int),v=(Value.int .i64 x13)∧K x13 h11)
theorem Gdv (p0:Option Addr) (p1_0:Int) (p1_1:Int) (p2:Int) (p3:Int) (p4a:Option Addr) (p4n:Nat) (p4c:Nat) (R:Value→Heap→Prop) (h:Heap) (H:Gds p0 p1_0 p1_1 p2 p3 p4a p4n p4c (fun r0 h'=>R (Value.int .i64 r0) h') h):CallsH PR Gm1 #[.pointer p0,.agg #[.int .i64 p1_0,.int .u64 p1_1],.int .i64 p2,.int .i64 p3,.slice p4a p4n p4c] h R:=by
 refine zD (args:=[.pointer p0,.agg #[.int .i64 p1_0,.int .u64 p1_1],.int .i64 p2,.int .i64 p3,.slice p4a p4n p4c]) Tryz.func91 U U ?_
 intro f hf
 have e0:=hf 0 _ rfl
 have e1:=hf 1 _ rfl
 have e2:=hf 2 _ rfl
 have e3:=hf 3 _ rfl
 have e4:=hf 4 _ rfl
 clear hf
 unfold Gds at H
 refine ze ?_
 refine zc U ?_
 obtain⟨h1,c2⟩ : ∃ h1,h1=h.push (.cells #[.int .i64 p1_0,.int .u64 p1_1] 39 (0,0)):=⟨_,rfl⟩
 replace H:=H h1 c2
 refine za (yd (v:=.agg #[.int .i64 p1_0,.int .u64 p1_1]) e1 c2 ?_)
 obtain⟨h3,c4⟩ : ∃ h3,h3=h1.push (.cells #[.int .i64 p2] 3 (0,0)):=⟨_,rfl⟩
 replace H:=H h3 c4
 refine za (yd (v:=.int .i64 p2) e2 c4 ?_)
 obtain⟨h5,c6⟩ : ∃ h5,h5=h3.push (.cells #[.int .i64 p3] 3 (0,0)):=⟨_,rfl⟩
 replace H:=H h5 c6
 refine za (yd (v:=.int .i64 p3) e3 c6 ?_)
 obtain⟨h7,c8⟩ : ∃ h7,h7=h5.push (.cells #[.slice p4a p4n p4c] 23 (0,0)):=⟨_,rfl⟩
 replace H:=H h7 c8
 refine za (yd (v:=.slice p4a p4n p4c) e4 c8 ?_)
 refine za (zg (v:=.int .i64 0) U ?_)
 refine zh ?_
 refine ze ?_
 refine zc U ?_
 refine za (zd (v:=.pointer p0) e0 ?_)
 obtain⟨x9_0,x9_1,c10,H⟩:=H
 refine za (zS U ag_39 c10 ?_)
 refine za (yl (cs:=[.pointer (some ⟨h1.size,0,none⟩),.pointer (some ⟨h3.size,0,none⟩),.pointer (some ⟨h5.size,0,none⟩)]) (zm U (zm U (zm U zy))) ?_)
 refine za (zG (vs:=[.pointer p0,.agg #[.int .i64 x9_0,.int .u64 x9_1],(Value.func (.func Gm2) #[] #[.pointer (some ⟨h1.size,0,none⟩),.pointer (some ⟨h3.size,0,none⟩),.pointer (some ⟨h5.size,0,none⟩)])]) en_82 (zm U (zm U (zm U zy))) (CallsH.mono H ?_))
 clear H
 rintro _ h11 ⟨x13,rfl,H⟩
 refine za (zg (v:=.int .i64 x13) U ?_)
 refine zh ?_
 refine zx ?_
 exact zv (zq U zu) H
def Ggq:Cert:=⟨[[],[0],[0,1],[0,1,2],[],[0,1,2,3,4],[0,1,2,3,4,5]],[false,false,false,false,false,false,false]⟩
def Ggr:Cert:=⟨[[],[0],[0,1],[0,1,2],[0,1,2],[0,1,2,4],[0,1,2,4,5],[0,1,2,4,5,6],[0,1,2,4,5,6,7],[0,1,2,3,4,5,6,7,8],[0,1,2,3,4,5,6,7,8,9],[0,1,2,3,4,5,6,7,8,9,10],[0,1,2,3,4,5,6,7,8,9,10,11],[0,1,2,3,4,5,6,7,8,9,10,11,12],[0,1,2,3,4,5,6,7,8,9,10,11],[0,1,2,3,4,5,6,7,8,9,10,11,14],[0,1,2,3,4,5,6,7,8,9,10,11,14,15],[0,1,2,3,4,5,6,7,8,9,10,11,14,15,16],[0,1,2,3,4,5,6,7,8,9,10,11,14,15,16,17],[0,1,2,3,4,5,6,7,8,9,10,11],[0,1,2,3,4,5,6,7,8,9,10,11,14,15,16,17,18,19],[0,1,2,3,4,5,6,7,8,9,10,11,12,13,14,15,16,17,18,19,20],[0,1,2,3,4,5,6,7,8,9,10,11,12,13,14,15,16,17,18,19,20,21],[0,1,2,3,4,5,6,7,8,9,10,11,12,13,14,15,16,17,18,19,20,21,22]],[false,false,false,false,false,false,false,false,false,false,false,false,false,false,false,false,false,false,false,false,false,false,false,false]⟩
def Ggs:Cert:=⟨[[],[0],[0,1],[0,1,2],[],[0,1,2,3,4],[],[0,1,2,3,4,5,6]],[false,false,false,false,false,false,false,true]⟩
def Gdt (p0:Option Addr) (q0:Option Addr) (q1:Option Addr) (q2:Option Addr) (K:Int→Heap→Prop) (h:Heap):Prop:=
 ∃ (b1:Nat) (o2:Nat),q0=some ⟨b1,o2,none⟩∧∃ (x4:Int),cellH h b1 o2=some (.int .i64 x4)∧CallsH PR Gm4 #[.int .i64 x4] h (fun v h6=>∃ (x8:Bool),v=(Value.bool x8)∧(x8=false→K 1 h6)∧(x8=true→∃ (b9:Nat) (o10:Nat),p0=some ⟨b9,o10,none⟩∧∃ (x12:Int),cellH h6 b9 (o10+1)=some (.int .i64 x12)∧∃ (x14:Int),cellH h6 b1 o2=some (.int .i64 x14)∧((¬ (x12=x14))→K 8 h6)∧(x12=x14→∃ (b17:Nat) (o18:Nat),q1=some ⟨b17,o18,none⟩∧∃ (x20:Int),cellH h6 b17 o18=some (.int .i64 x20)∧∃ (x23:Int),((¬ (x20<0))→cellH h6 b17 o18=some (.int .i64 x23))∧∃ (x25a:Option Addr) (x25n:Nat) (x25c:Nat),((¬ (x20<0))→cellH h6 b9 (o10+3)=some (.slice x25a x25n x25c))∧∃ (b28:Nat) (o29:Nat),((((decide (x20<0)) || (decide ((x25n:Int)<x23)))=false)→q2=some ⟨b28,o29,none⟩)∧∃ (x31a:Option Addr) (x31n:Nat) (x31c:Nat),((((decide (x20<0)) || (decide ((x25n:Int)<x23)))=false)→cellH h6 b28 o29=some (.slice x31a x31n x31c))∧∃ (x33a:Option Addr) (x33n:Nat) (x33c:Nat),((((decide (x20<0)) || (decide ((x25n:Int)<x23)))=false)→cellH h6 b9 (o10+3)=some (.slice x33a x33n x33c))∧∃ (x35:Int),((((decide (x20<0)) || (decide ((x25n:Int)<x23)))=false)→cellH h6 b17 o18=some (.int .i64 x35))∧((((decide (x20<0)) || (decide ((x25n:Int)<x23))) || (decide ((IntKind.i64.wrap ((x33n:Int) - x35))<(x31n:Int))))=true→K 1 h6)∧((((decide (x20<0)) || (decide ((x25n:Int)<x23))) || (decide ((IntKind.i64.wrap ((x33n:Int) - x35))<(x31n:Int))))=false→∃ (x39a:Option Addr) (x39n:Nat) (x39c:Nat),cellH h6 b9 (o10+3)=some (.slice x39a x39n x39c)∧∃ (x41:Int),cellH h6 b17 o18=some (.int .i64 x41)∧∃ (n43:Nat),x41=(n43:Int)∧(n43≤x39n∧x39n≤x39c∧x39c≤x39c)∧∃ (b46:Nat) (o47:Nat),q2=some ⟨b46,o47,none⟩∧∃ (x49a:Option Addr) (x49n:Nat) (x49c:Nat),cellH h6 b46 o47=some (.slice x49a x49n x49c)∧∃ (m51:Nat) (h52:Heap),copyH 1 (x39n - n43) m51 (cutA x39a n43 x39c 1) (Value.slice x49a x49n x49c) h6 h52∧K 0 h52))))
theorem Gdu (p0:Option Addr) (q0:Option Addr) (q1:Option Addr) (q2:Option Addr) (R:Value→Heap→Prop) (h:Heap) (H:Gdt p0 q0 q1 q2 (fun r0 h'=>R (Value.int .i64 r0) h') h):CallsH PR Gm2 #[.pointer p0,.pointer q0,.pointer q1,.pointer q2] h R:=by
 refine zD (args:=[.pointer p0,.pointer q0,.pointer q1,.pointer q2]) Tryz.func147 U U ?_
 intro f hf
 have e0:=hf 0 _ rfl
 have e1:=hf 1 _ rfl
 have e2:=hf 2 _ rfl
 have e3:=hf 3 _ rfl
 clear hf
 unfold Gdt at H
 refine ze ?_
 refine zc U ?_
 refine za (zg (v:=.int .i64 0) U ?_)
 refine zh ?_
 refine ze ?_
 refine zK ?_
 refine ze ?_
 refine zc U ?_
 obtain⟨b1,o2,rfl,H⟩:=H
 obtain⟨x4,c5,H⟩:=H
 refine za (zk e1 ag_3 c5 ?_)
 refine za (zG (vs:=[.int .i64 x4]) en_133 (zm U zy) (CallsH.mono H ?_))
 clear H
 rintro _ h6 ⟨x8,rfl,H⟩
 refine za (yi U ?_)
 refine za (zg (v:=.bool (!x8)) U ?_)
 refine zh ?_
 refine zz (!x8) U ?_ ?_
 ·intro hb
  replace H:=H.1 (zt hb)
  refine ze ?_
  refine zc U ?_
  refine za (zg (v:=.int .i64 1) U ?_)
  refine zh ?_
  refine zx ?_
  exact zv (zq U zu) H
 ·intro hb
  replace H:=H.2 (zL hb)
  refine ze ?_
  obtain⟨b9,o10,rfl,H⟩:=H
  obtain⟨x12,c13,H⟩:=H
  obtain⟨x14,c15,H⟩:=H
  refine zO Ggq 0 [(Y (some ⟨b9,o10,none⟩)),(Y (some ⟨b9,o10,none⟩)),(Y (some ⟨b9,o10+1,none⟩)),(Z .i64 x12),(Z .i64 x14),(W (!decide (x12=x14))),(W (!decide (x12=x14)))] (by kernel_rfl) U mixed_PR ?_
  refine zJ U (zw [0,1,2,3,4,5,6] U ⟨zb U U (zd (v:=.pointer (some ⟨b9,o10,none⟩)) e0 ⟨U,U⟩),zb U U (zj U ⟨U,U⟩),zb U U (zf U fo_186_1 ⟨U,U⟩),zb U U (zk U ag_3 c13 ⟨U,U⟩),zb U U (zk e1 ag_3 c15 ⟨U,U⟩),zb U U (op_neq U U ⟨U,U⟩),zb U U (zg (v:=.bool (!decide (x12=x14))) U ⟨U,U⟩),V⟩) U ?_
  refine zz (!decide (x12=x14)) U ?_ ?_
  ·intro hb
   replace H:=H.1 (zn (zt hb))
   refine ze ?_
   refine zc U ?_
   refine za (zg (v:=.int .i64 8) U ?_)
   refine zh ?_
   refine zx ?_
   exact zv (zq U zu) H
  ·intro hb
   replace H:=H.2 (zo (zL hb))
   refine ze ?_
   obtain⟨b17,o18,rfl,H⟩:=H
   obtain⟨x20,c21,H⟩:=H
   obtain⟨x23,c24,H⟩:=H
   obtain⟨x25a,x25n,x25c,c26,H⟩:=H
   obtain⟨b28,o29,c30,H⟩:=H
   obtain⟨x31a,x31n,x31c,c32,H⟩:=H
   obtain⟨x33a,x33n,x33c,c34,H⟩:=H
   obtain⟨x35,c36,H⟩:=H
   refine zO Ggr 0 [(Z .i64 x20),(W (decide (x20<0))),(W (decide (x20<0))),(bif !(decide (x20<0)) then (Z .i64 x23) else undef),(bif !(decide (x20<0)) then (Y (some ⟨b9,o10,none⟩)) else undef),(bif !(decide (x20<0)) then (Y (some ⟨b9,o10,none⟩)) else undef),(bif !(decide (x20<0)) then (Y (some ⟨b9,o10+3,none⟩)) else undef),(bif !(decide (x20<0)) then (T x25a x25n x25c) else undef),(bif !(decide (x20<0)) then (Z .i64 (x25n:Int)) else undef),(bif !(decide (x20<0)) then (W (decide ((x25n:Int)<x23))) else undef),(W ((decide (x20<0)) || (decide ((x25n:Int)<x23)))),(W ((decide (x20<0)) || (decide ((x25n:Int)<x23)))),(bif !((decide (x20<0)) || (decide ((x25n:Int)<x23))) then (T x31a x31n x31c) else undef),(bif !((decide (x20<0)) || (decide ((x25n:Int)<x23))) then (Z .i64 (x31n:Int)) else undef),(bif !((decide (x20<0)) || (decide ((x25n:Int)<x23))) then (Y (some ⟨b9,o10,none⟩)) else undef),(bif !((decide (x20<0)) || (decide ((x25n:Int)<x23))) then (Y (some ⟨b9,o10,none⟩)) else undef),(bif !((decide (x20<0)) || (decide ((x25n:Int)<x23))) then (Y (some ⟨b9,o10+3,none⟩)) else undef),(bif !((decide (x20<0)) || (decide ((x25n:Int)<x23))) then (T x33a x33n x33c) else undef),(bif !((decide (x20<0)) || (decide ((x25n:Int)<x23))) then (Z .i64 (x33n:Int)) else undef),(bif !((decide (x20<0)) || (decide ((x25n:Int)<x23))) then (Z .i64 x35) else undef),(bif !((decide (x20<0)) || (decide ((x25n:Int)<x23))) then (Z .i64 (IntKind.i64.wrap ((x33n:Int) - x35))) else undef),(bif !((decide (x20<0)) || (decide ((x25n:Int)<x23))) then (W (decide ((IntKind.i64.wrap ((x33n:Int) - x35))<(x31n:Int)))) else undef),(W (((decide (x20<0)) || (decide ((x25n:Int)<x23))) || (decide ((IntKind.i64.wrap ((x33n:Int) - x35))<(x31n:Int))))),(W (((decide (x20<0)) || (decide ((x25n:Int)<x23))) || (decide ((IntKind.i64.wrap ((x33n:Int) - x35))<(x31n:Int)))))] (by kernel_rfl) U mixed_PR ?_
   refine zJ U (zw [0,1,2,3,4,5,6,7,8,9,10,11,12,13,14,15,16,17,18,19,20,21,22,23] U ⟨zb U U (zk e2 ag_3 c21 ⟨U,U⟩),zb U U (zY U U ⟨U,U⟩),zb U U (zd (v:=.bool (decide (x20<0))) U ⟨U,U⟩),zr (b:=!(decide (x20<0))) U U (zi U U) (fun hb=>zk e2 ag_3 (c24 (zn (zt hb))) ⟨zs hb,U⟩) (fun hb=>⟨zp hb,U⟩),zr (b:=!(decide (x20<0))) U U (zi U U) (fun hb=>zd (v:=.pointer (some ⟨b9,o10,none⟩)) e0 ⟨zs hb,U⟩) (fun hb=>⟨zp hb,U⟩),zr (b:=!(decide (x20<0))) U U (zi U U) (fun hb=>zj (gv hb) ⟨zs hb,U⟩) (fun hb=>⟨zp hb,U⟩),zr (b:=!(decide (x20<0))) U U (zi U U) (fun hb=>zf (gv hb) fo_186_3 ⟨zs hb,U⟩) (fun hb=>⟨zp hb,U⟩),zr (b:=!(decide (x20<0))) U U (zi U U) (fun hb=>zk (gv hb) ag_23 (c26 (zn (zt hb))) ⟨zs hb,U⟩) (fun hb=>⟨zp hb,U⟩),zr (b:=!(decide (x20<0))) U U (zi U U) (fun hb=>zN (gv hb) un_23 ⟨zs hb,U⟩) (fun hb=>⟨zp hb,U⟩),zr (b:=!(decide (x20<0))) U U (zi U U) (fun hb=>yj (gv hb) (gv hb) ⟨zs hb,U⟩) (fun hb=>⟨zp hb,U⟩),zb U U (zR U U (fun hq=>(gv (zP hq))) ⟨U,U⟩),zb U U (zd (v:=.bool ((decide (x20<0)) || (decide ((x25n:Int)<x23)))) U ⟨U,U⟩),zr (b:=!((decide (x20<0)) || (decide ((x25n:Int)<x23)))) U U (zi U U) (fun hb=>zk (Eq.trans e3 (congrArg Y (c30 (zt hb)))) ag_23 (c32 (zt hb)) ⟨zs hb,U⟩) (fun hb=>⟨zp hb,U⟩),zr (b:=!((decide (x20<0)) || (decide ((x25n:Int)<x23)))) U U (zi U U) (fun hb=>zN (gv hb) un_23 ⟨zs hb,U⟩) (fun hb=>⟨zp hb,U⟩),zr (b:=!((decide (x20<0)) || (decide ((x25n:Int)<x23)))) U U (zi U U) (fun hb=>zd (v:=.pointer (some ⟨b9,o10,none⟩)) e0 ⟨zs hb,U⟩) (fun hb=>⟨zp hb,U⟩),zr (b:=!((decide (x20<0)) || (decide ((x25n:Int)<x23)))) U U (zi U U) (fun hb=>zj (gv hb) ⟨zs hb,U⟩) (fun hb=>⟨zp hb,U⟩),zr (b:=!((decide (x20<0)) || (decide ((x25n:Int)<x23)))) U U (zi U U) (fun hb=>zf (gv hb) fo_186_3 ⟨zs hb,U⟩) (fun hb=>⟨zp hb,U⟩),zr (b:=!((decide (x20<0)) || (decide ((x25n:Int)<x23)))) U U (zi U U) (fun hb=>zk (gv hb) ag_23 (c34 (zt hb)) ⟨zs hb,U⟩) (fun hb=>⟨zp hb,U⟩),zr (b:=!((decide (x20<0)) || (decide ((x25n:Int)<x23)))) U U (zi U U) (fun hb=>zN (gv hb) un_23 ⟨zs hb,U⟩) (fun hb=>⟨zp hb,U⟩),zr (b:=!((decide (x20<0)) || (decide ((x25n:Int)<x23)))) U U (zi U U) (fun hb=>zk e2 ag_3 (c36 (zt hb)) ⟨zs hb,U⟩) (fun hb=>⟨zp hb,U⟩),zr (b:=!((decide (x20<0)) || (decide ((x25n:Int)<x23)))) U U (zi U U) (fun hb=>op_sub (gv hb) (gv hb) U ⟨zs hb,U⟩) (fun hb=>⟨zp hb,U⟩),zr (b:=!((decide (x20<0)) || (decide ((x25n:Int)<x23)))) U U (zi U U) (fun hb=>yj (gv hb) (gv hb) ⟨zs hb,U⟩) (fun hb=>⟨zp hb,U⟩),zb U U (zR U U (fun hq=>(gv (zP hq))) ⟨U,U⟩),zb U U (zg (v:=.bool (((decide (x20<0)) || (decide ((x25n:Int)<x23))) || (decide ((IntKind.i64.wrap ((x33n:Int) - x35))<(x31n:Int))))) U ⟨U,U⟩),V⟩) U ?_
   refine zz (((decide (x20<0)) || (decide ((x25n:Int)<x23))) || (decide ((IntKind.i64.wrap ((x33n:Int) - x35))<(x31n:Int)))) U ?_ ?_
   ·intro hb
    replace H:=H.1 hb
    refine ze ?_
    refine zc U ?_
    refine za (zg (v:=.int .i64 1) U ?_)
    refine zh ?_
    refine zx ?_
    exact zv (zq U zu) H
   ·intro hb
    replace H:=H.2 hb
    refine zC ?_
    refine ze ?_
    obtain⟨x39a,x39n,x39c,c40,H⟩:=H
    obtain⟨x41,c42,H⟩:=H
    obtain⟨n43,c44,H⟩:=H
    obtain⟨c45,H⟩:=H
    obtain⟨b46,o47,rfl,H⟩:=H
    obtain⟨x49a,x49n,x49c,c50,H⟩:=H
    refine zO Ggs 1 [(Y (some ⟨b9,o10,none⟩)),(Y (some ⟨b9,o10,none⟩)),(Y (some ⟨b9,o10+3,none⟩)),(T x39a x39n x39c),(Z .i64 x41),(T (cutA x39a n43 x39c 1) (x39n - n43) (x39c - n43)),(T x49a x49n x49c),undef] (by kernel_rfl) U mixed_PR ?_
    refine zA [7] (by decide) U (zw [0,1,2,3,4,5,6] U ⟨zb U U (zd (v:=.pointer (some ⟨b9,o10,none⟩)) e0 ⟨U,U⟩),zb U U (zj U ⟨U,U⟩),zb U U (zf U fo_186_3 ⟨U,U⟩),zb U U (zk U ag_23 c40 ⟨U,U⟩),zb U U (zk e2 ag_3 c42 ⟨U,U⟩),zb U U (yc ei_23 U ⟨_,Eq.trans U (congrArg (Z .i64) c44)⟩ U U (.inl U) c45.1 c45.2.1 c45.2.2 ⟨U,U⟩),zb U U (zk e3 ag_23 c50 ⟨U,U⟩),V⟩) U ⟨?_,V⟩
    obtain⟨m51,h52,c53,H⟩:=H
    refine zb U U (op_copyH (src:=(T x49a x49n x49c)) ei_23 U U c53 ?_)
    refine⟨[(Value.pointer (some ⟨b9,o10,none⟩)),(Value.pointer (some ⟨b9,o10,none⟩)),(Value.pointer (some ⟨b9,o10+3,none⟩)),(Value.slice x39a x39n x39c),(Value.int .i64 x41),(Value.slice (cutA x39a n43 x39c 1) (x39n - n43) (x39c - n43)),(Value.slice x49a x49n x49c),(Value.int .i64 ((min m51 (x39n - n43):Nat):Int))],rfl,(zH [0,1,2,3,4,5,6] rfl ⟨rfl,rfl,rfl,rfl,rfl,rfl,rfl,trivial⟩),?_⟩
    refine zJ U (zw [] U V) U ?_
    refine ze ?_
    refine zc U ?_
    refine za (zg (v:=.int .i64 0) U ?_)
    refine zh ?_
    refine zx ?_
    exact zv (zq U zu) H
def Gdk (p0:Option Addr) (p1_0:Int) (p1_1:Int) (p2:Int) (p3:Int) (K:Option Addr→Nat→Nat→Int→Heap→Prop) (h:Heap):Prop:=
 ∀ (h1:Heap),h1=h.push (.cells #[.int .i64 p1_0,.int .u64 p1_1] 39 (0,0))→∀ (h3:Heap),h3=h1.push (.cells #[.int .i64 p2] 3 (0,0))→∀ (h5:Heap),h5=h3.push (.cells #[.int .i64 p3] 3 (0,0))→∀ (h7:Heap),h7=h5.push (.cells #[.slice none 0 0] 23 (0,0))→∃ (x9_0:Int) (x9_1:Int),ldCells h7 h.size 0 2=some [.int .i64 x9_0,.int .u64 x9_1]∧CallsH PR Gm3 #[.pointer p0,.agg #[.int .i64 x9_0,.int .u64 x9_1],(Value.func (.func Gly) #[] #[.pointer (some ⟨h1.size,0,none⟩),.pointer (some ⟨h3.size,0,none⟩),.pointer (some ⟨h5.size,0,none⟩)])] h7 (fun v h11=>∃ (x13:Int),v=(Value.int .i64 x13)∧∃ (x14a:Option Addr) (x14n:Nat) (x14c:Nat),cellH h11 h5.size 0=some (.slice x14a x14n x14c)∧K x14a x14n x14c x13 h11)
theorem Gdn (p0:Option Addr) (p1_0:Int) (p1_1:Int) (p2:Int) (p3:Int) (R:Value→Heap→Prop) (h:Heap) (H:Gdk p0 p1_0 p1_1 p2 p3 (fun r0a r0n r0c r1 h'=>R (Value.tuple #[.slice r0a r0n r0c,.int .i64 r1]) h') h):CallsH PR Glx #[.pointer p0,.agg #[.int .i64 p1_0,.int .u64 p1_1],.int .i64 p2,.int .i64 p3] h R:=by
 refine zD (args:=[.pointer p0,.agg #[.int .i64 p1_0,.int .u64 p1_1],.int .i64 p2,.int .i64 p3]) Tryz.func20 U U ?_
 intro f hf
 have e0:=hf 0 _ rfl
 have e1:=hf 1 _ rfl
 have e2:=hf 2 _ rfl
 have e3:=hf 3 _ rfl
 clear hf
 unfold Gdk at H
 refine ze ?_
 refine zc U ?_
 obtain⟨h1,c2⟩ : ∃ h1,h1=h.push (.cells #[.int .i64 p1_0,.int .u64 p1_1] 39 (0,0)):=⟨_,rfl⟩
 replace H:=H h1 c2
 refine za (yd (v:=.agg #[.int .i64 p1_0,.int .u64 p1_1]) e1 c2 ?_)
 obtain⟨h3,c4⟩ : ∃ h3,h3=h1.push (.cells #[.int .i64 p2] 3 (0,0)):=⟨_,rfl⟩
 replace H:=H h3 c4
 refine za (yd (v:=.int .i64 p2) e2 c4 ?_)
 obtain⟨h5,c6⟩ : ∃ h5,h5=h3.push (.cells #[.int .i64 p3] 3 (0,0)):=⟨_,rfl⟩
 replace H:=H h5 c6
 refine za (yd (v:=.int .i64 p3) e3 c6 ?_)
 refine za (zg (v:=.slice none 0 0) U ?_)
 refine za (zg (v:=.int .i64 0) U ?_)
 refine zh ?_
 refine ze ?_
 refine zc U ?_
 obtain⟨h7,c8⟩ : ∃ h7,h7=h5.push (.cells #[.slice none 0 0] 23 (0,0)):=⟨_,rfl⟩
 replace H:=H h7 c8
 refine za (zW z_23 c8 ?_)
 refine zh ?_
 refine ze ?_
 refine zc U ?_
 refine za (zd (v:=.pointer p0) e0 ?_)
 obtain⟨x9_0,x9_1,c10,H⟩:=H
 refine za (zS U ag_39 c10 ?_)
 refine za (yl (cs:=[.pointer (some ⟨h1.size,0,none⟩),.pointer (some ⟨h3.size,0,none⟩),.pointer (some ⟨h5.size,0,none⟩)]) (zm U (zm U (zm U zy))) ?_)
 refine za (zG (vs:=[.pointer p0,.agg #[.int .i64 x9_0,.int .u64 x9_1],(Value.func (.func Gly) #[] #[.pointer (some ⟨h1.size,0,none⟩),.pointer (some ⟨h3.size,0,none⟩),.pointer (some ⟨h5.size,0,none⟩)])]) en_82 (zm U (zm U (zm U zy))) (CallsH.mono H ?_))
 clear H
 rintro _ h11 ⟨x13,rfl,H⟩
 refine za (zg (v:=.int .i64 x13) U ?_)
 refine zh ?_
 refine ze ?_
 refine zc U ?_
 obtain⟨x14a,x14n,x14c,c15,H⟩:=H
 refine za (zk U ag_23 c15 ?_)
 refine za (zd (v:=.int .i64 x13) U ?_)
 refine za (zg (v:=.slice x14a x14n x14c) U ?_)
 refine za (zg (v:=.int .i64 x13) U ?_)
 refine zh ?_
 refine zx ?_
 exact zv (zq U (zq U zu)) H
def Ggo:Cert:=⟨[[],[0],[0,1],[0,1,2],[0,1,2,3],[0,1,2,3,4],[0,1,2,3,4,5],[0,1,2,3,4,5,6],[0,1,2,3,4,5,6],[0,1,2,3,4,5,6,8],[0,1,2,3,4,5,6,8,9],[0,1,2,3,4,5,6,8,9,10],[0,1,2,3,4,5,6,8,9,10,11],[0,1,2,3,4,5,6,7,8,9,10,11,12],[0,1,2,3,4,5,6,7,8,9,10,11,12,13],[0,1,2,3,4,5,6,7,8,9,10,11,12,13,14],[0,1,2,3,4,5,6,7,8,9,10,11,12,13,14,15],[0,1,2,3,4,5,6,7,8,9,10,11,12,13,14,15],[0,1,2,3,4,5,6,7,8,9,10,11,12,13,14,15,17],[0,1,2,3,4,5,6,7,8,9,10,11,12,13,14,15,17,18],[0,1,2,3,4,5,6,7,8,9,10,11,12,13,14,15,17,18,19],[0,1,2,3,4,5,6,7,8,9,10,11,12,13,14,15,17,18,19,20],[0,1,2,3,4,5,6,7,8,9,10,11,12,13,14,15],[0,1,2,3,4,5,6,7,8,9,10,11,12,13,14,15,17,18,19,20,21,22],[0,1,2,3,4,5,6,7,8,9,10,11,12,13,14,15,16,17,18,19,20,21,22,23],[0,1,2,3,4,5,6,7,8,9,10,11,12,13,14,15,16,17,18,19,20,21,22,23,24]],[false,false,false,false,false,false,false,false,false,false,false,false,false,false,false,false,false,false,false,false,false,false,false,false,false,false]⟩
def Ggp:Cert:=⟨[[],[0],[0,1],[0,1,2],[],[],[],[5,6],[0,1,2,3,4,5,6,7],[0,1,2,3,4,5,6,7,8],[0,1,2,3,4,5,6,7,8,9]],[false,false,false,false,false,false,false,false,false,true,true]⟩
def Gdl (p0:Option Addr) (q0:Option Addr) (q1:Option Addr) (q2:Option Addr) (K:Int→Heap→Prop) (h:Heap):Prop:=
 ∃ (b1:Nat) (o2:Nat),q0=some ⟨b1,o2,none⟩∧∃ (x4:Int),cellH h b1 o2=some (.int .i64 x4)∧∃ (b7:Nat) (o8:Nat),((¬ (x4<0))→q1=some ⟨b7,o8,none⟩)∧∃ (x10:Int),((¬ (x4<0))→cellH h b7 o8=some (.int .i64 x10))∧∃ (x13:Int),((((decide (x4<0)) || (decide (x10<0)))=false)→cellH h b1 o2=some (.int .i64 x13))∧∃ (b15:Nat) (o16:Nat),((((decide (x4<0)) || (decide (x10<0)))=false)→p0=some ⟨b15,o16,none⟩)∧∃ (x18a:Option Addr) (x18n:Nat) (x18c:Nat),((((decide (x4<0)) || (decide (x10<0)))=false)→cellH h b15 (o16+3)=some (.slice x18a x18n x18c))∧∃ (b21:Nat) (o22:Nat),(((((decide (x4<0)) || (decide (x10<0))) || (decide ((x18n:Int)<x13)))=false)→q1=some ⟨b21,o22,none⟩)∧∃ (x24:Int),(((((decide (x4<0)) || (decide (x10<0))) || (decide ((x18n:Int)<x13)))=false)→cellH h b21 o22=some (.int .i64 x24))∧∃ (b26:Nat) (o27:Nat),(((((decide (x4<0)) || (decide (x10<0))) || (decide ((x18n:Int)<x13)))=false)→p0=some ⟨b26,o27,none⟩)∧∃ (x29a:Option Addr) (x29n:Nat) (x29c:Nat),(((((decide (x4<0)) || (decide (x10<0))) || (decide ((x18n:Int)<x13)))=false)→cellH h b26 (o27+3)=some (.slice x29a x29n x29c))∧∃ (x31:Int),(((((decide (x4<0)) || (decide (x10<0))) || (decide ((x18n:Int)<x13)))=false)→cellH h b1 o2=some (.int .i64 x31))∧(((((decide (x4<0)) || (decide (x10<0))) || (decide ((x18n:Int)<x13))) || (decide ((IntKind.i64.wrap ((x29n:Int) - x31))<x24)))=true→K 1 h)∧(((((decide (x4<0)) || (decide (x10<0))) || (decide ((x18n:Int)<x13))) || (decide ((IntKind.i64.wrap ((x29n:Int) - x31))<x24)))=false→∃ (b35:Nat) (o36:Nat),p0=some ⟨b35,o36,none⟩∧∃ (x38a:Option Addr) (x38n:Nat) (x38c:Nat),cellH h b35 (o36+3)=some (.slice x38a x38n x38c)∧∃ (x40:Int),cellH h b1 o2=some (.int .i64 x40)∧∃ (x42:Int),cellH h b1 o2=some (.int .i64 x42)∧∃ (b44:Nat) (o45:Nat),q1=some ⟨b44,o45,none⟩∧∃ (x47:Int),cellH h b44 o45=some (.int .i64 x47)∧(-9223372036854775808≤x42+x47∧x42+x47<9223372036854775808)∧∃ (n50:Nat),x40=(n50:Int)∧∃ (n52:Nat),x42+x47=(n52:Int)∧(n50≤n52∧n52≤x38c∧x38c≤x38c)∧CallsH PR Ghl #[.slice (cutA x38a n50 x38c 1) (n52 - n50) (x38c - n50)] h (fun v h55=>∃ (x57a:Option Addr) (x57n:Nat) (x57c:Nat),v=(Value.slice x57a x57n x57c)∧∃ (b58:Nat) (o59:Nat),q2=some ⟨b58,o59,none⟩∧∃ (h62:Heap),stCells b58 h55 o59 [.slice x57a x57n x57c]=some h62∧K 0 h62))
theorem Gdm (p0:Option Addr) (q0:Option Addr) (q1:Option Addr) (q2:Option Addr) (R:Value→Heap→Prop) (h:Heap) (H:Gdl p0 q0 q1 q2 (fun r0 h'=>R (Value.int .i64 r0) h') h):CallsH PR Gly #[.pointer p0,.pointer q0,.pointer q1,.pointer q2] h R:=by
 refine zD (args:=[.pointer p0,.pointer q0,.pointer q1,.pointer q2]) Tryz.func83 U U ?_
 intro f hf
 have e0:=hf 0 _ rfl
 have e1:=hf 1 _ rfl
 have e2:=hf 2 _ rfl
 have e3:=hf 3 _ rfl
 clear hf
 unfold Gdl at H
 refine ze ?_
 refine zc U ?_
 refine za (zg (v:=.int .i64 0) U ?_)
 refine zh ?_
 refine ze ?_
 refine ze ?_
 obtain⟨b1,o2,rfl,H⟩:=H
 obtain⟨x4,c5,H⟩:=H
 obtain⟨b7,o8,c9,H⟩:=H
 obtain⟨x10,c11,H⟩:=H
 obtain⟨x13,c14,H⟩:=H
 obtain⟨b15,o16,c17,H⟩:=H
 obtain⟨x18a,x18n,x18c,c19,H⟩:=H
 obtain⟨b21,o22,c23,H⟩:=H
 obtain⟨x24,c25,H⟩:=H
 obtain⟨b26,o27,c28,H⟩:=H
 obtain⟨x29a,x29n,x29c,c30,H⟩:=H
 obtain⟨x31,c32,H⟩:=H
 refine zO Ggo 0 [(Z .i64 x4),(W (decide (x4<0))),(W (decide (x4<0))),(bif !(decide (x4<0)) then (Z .i64 x10) else undef),(bif !(decide (x4<0)) then (W (decide (x10<0))) else undef),(W ((decide (x4<0)) || (decide (x10<0)))),(W ((decide (x4<0)) || (decide (x10<0)))),(bif !((decide (x4<0)) || (decide (x10<0))) then (Z .i64 x13) else undef),(bif !((decide (x4<0)) || (decide (x10<0))) then (Y p0) else undef),(bif !((decide (x4<0)) || (decide (x10<0))) then (Y (some ⟨b15,o16,none⟩)) else undef),(bif !((decide (x4<0)) || (decide (x10<0))) then (Y (some ⟨b15,o16+3,none⟩)) else undef),(bif !((decide (x4<0)) || (decide (x10<0))) then (T x18a x18n x18c) else undef),(bif !((decide (x4<0)) || (decide (x10<0))) then (Z .i64 (x18n:Int)) else undef),(bif !((decide (x4<0)) || (decide (x10<0))) then (W (decide ((x18n:Int)<x13))) else undef),(W (((decide (x4<0)) || (decide (x10<0))) || (decide ((x18n:Int)<x13)))),(W (((decide (x4<0)) || (decide (x10<0))) || (decide ((x18n:Int)<x13)))),(bif !(((decide (x4<0)) || (decide (x10<0))) || (decide ((x18n:Int)<x13))) then (Z .i64 x24) else undef),(bif !(((decide (x4<0)) || (decide (x10<0))) || (decide ((x18n:Int)<x13))) then (Y p0) else undef),(bif !(((decide (x4<0)) || (decide (x10<0))) || (decide ((x18n:Int)<x13))) then (Y (some ⟨b26,o27,none⟩)) else undef),(bif !(((decide (x4<0)) || (decide (x10<0))) || (decide ((x18n:Int)<x13))) then (Y (some ⟨b26,o27+3,none⟩)) else undef),(bif !(((decide (x4<0)) || (decide (x10<0))) || (decide ((x18n:Int)<x13))) then (T x29a x29n x29c) else undef),(bif !(((decide (x4<0)) || (decide (x10<0))) || (decide ((x18n:Int)<x13))) then (Z .i64 (x29n:Int)) else undef),(bif !(((decide (x4<0)) || (decide (x10<0))) || (decide ((x18n:Int)<x13))) then (Z .i64 x31) else undef),(bif !(((decide (x4<0)) || (decide (x10<0))) || (decide ((x18n:Int)<x13))) then (Z .i64 (IntKind.i64.wrap ((x29n:Int) - x31))) else undef),(bif !(((decide (x4<0)) || (decide (x10<0))) || (decide ((x18n:Int)<x13))) then (W (decide ((IntKind.i64.wrap ((x29n:Int) - x31))<x24))) else undef),(W ((((decide (x4<0)) || (decide (x10<0))) || (decide ((x18n:Int)<x13))) || (decide ((IntKind.i64.wrap ((x29n:Int) - x31))<x24))))] (by kernel_rfl) U mixed_PR ?_
 refine zJ U (zw [0,1,2,3,4,5,6,7,8,9,10,11,12,13,14,15,16,17,18,19,20,21,22,23,24,25] U ⟨zb U U (zk e1 ag_3 c5 ⟨U,U⟩),zb U U (zY U U ⟨U,U⟩),zb U U (zd (v:=.bool (decide (x4<0))) U ⟨U,U⟩),zr (b:=!(decide (x4<0))) U U (zi U U) (fun hb=>zk (Eq.trans e2 (congrArg Y (c9 (zn (zt hb))))) ag_3 (c11 (zn (zt hb))) ⟨zs hb,U⟩) (fun hb=>⟨zp hb,U⟩),zr (b:=!(decide (x4<0))) U U (zi U U) (fun hb=>zY (gv hb) U ⟨zs hb,U⟩) (fun hb=>⟨zp hb,U⟩),zb U U (zR U U (fun hq=>(gv (zP hq))) ⟨U,U⟩),zb U U (zd (v:=.bool ((decide (x4<0)) || (decide (x10<0)))) U ⟨U,U⟩),zr (b:=!((decide (x4<0)) || (decide (x10<0)))) U U (zi U U) (fun hb=>zk e1 ag_3 (c14 (zt hb)) ⟨zs hb,U⟩) (fun hb=>⟨zp hb,U⟩),zr (b:=!((decide (x4<0)) || (decide (x10<0)))) U U (zi U U) (fun hb=>zd (v:=.pointer p0) e0 ⟨zs hb,U⟩) (fun hb=>⟨zp hb,U⟩),zr (b:=!((decide (x4<0)) || (decide (x10<0)))) U U (zi U U) (fun hb=>zj (Eq.trans (gv hb) (congrArg Y (c17 (zt hb)))) ⟨zs hb,U⟩) (fun hb=>⟨zp hb,U⟩),zr (b:=!((decide (x4<0)) || (decide (x10<0)))) U U (zi U U) (fun hb=>zf (gv hb) fo_186_3 ⟨zs hb,U⟩) (fun hb=>⟨zp hb,U⟩),zr (b:=!((decide (x4<0)) || (decide (x10<0)))) U U (zi U U) (fun hb=>zk (gv hb) ag_23 (c19 (zt hb)) ⟨zs hb,U⟩) (fun hb=>⟨zp hb,U⟩),zr (b:=!((decide (x4<0)) || (decide (x10<0)))) U U (zi U U) (fun hb=>zN (gv hb) un_23 ⟨zs hb,U⟩) (fun hb=>⟨zp hb,U⟩),zr (b:=!((decide (x4<0)) || (decide (x10<0)))) U U (zi U U) (fun hb=>yj (gv hb) (gv hb) ⟨zs hb,U⟩) (fun hb=>⟨zp hb,U⟩),zb U U (zR U U (fun hq=>(gv (zP hq))) ⟨U,U⟩),zb U U (zd (v:=.bool (((decide (x4<0)) || (decide (x10<0))) || (decide ((x18n:Int)<x13)))) U ⟨U,U⟩),zr (b:=!(((decide (x4<0)) || (decide (x10<0))) || (decide ((x18n:Int)<x13)))) U U (zi U U) (fun hb=>zk (Eq.trans e2 (congrArg Y (c23 (zt hb)))) ag_3 (c25 (zt hb)) ⟨zs hb,U⟩) (fun hb=>⟨zp hb,U⟩),zr (b:=!(((decide (x4<0)) || (decide (x10<0))) || (decide ((x18n:Int)<x13)))) U U (zi U U) (fun hb=>zd (v:=.pointer p0) e0 ⟨zs hb,U⟩) (fun hb=>⟨zp hb,U⟩),zr (b:=!(((decide (x4<0)) || (decide (x10<0))) || (decide ((x18n:Int)<x13)))) U U (zi U U) (fun hb=>zj (Eq.trans (gv hb) (congrArg Y (c28 (zt hb)))) ⟨zs hb,U⟩) (fun hb=>⟨zp hb,U⟩),zr (b:=!(((decide (x4<0)) || (decide (x10<0))) || (decide ((x18n:Int)<x13)))) U U (zi U U) (fun hb=>zf (gv hb) fo_186_3 ⟨zs hb,U⟩) (fun hb=>⟨zp hb,U⟩),zr (b:=!(((decide (x4<0)) || (decide (x10<0))) || (decide ((x18n:Int)<x13)))) U U (zi U U) (fun hb=>zk (gv hb) ag_23 (c30 (zt hb)) ⟨zs hb,U⟩) (fun hb=>⟨zp hb,U⟩),zr (b:=!(((decide (x4<0)) || (decide (x10<0))) || (decide ((x18n:Int)<x13)))) U U (zi U U) (fun hb=>zN (gv hb) un_23 ⟨zs hb,U⟩) (fun hb=>⟨zp hb,U⟩),zr (b:=!(((decide (x4<0)) || (decide (x10<0))) || (decide ((x18n:Int)<x13)))) U U (zi U U) (fun hb=>zk e1 ag_3 (c32 (zt hb)) ⟨zs hb,U⟩) (fun hb=>⟨zp hb,U⟩),zr (b:=!(((decide (x4<0)) || (decide (x10<0))) || (decide ((x18n:Int)<x13)))) U U (zi U U) (fun hb=>op_sub (gv hb) (gv hb) U ⟨zs hb,U⟩) (fun hb=>⟨zp hb,U⟩),zr (b:=!(((decide (x4<0)) || (decide (x10<0))) || (decide ((x18n:Int)<x13)))) U U (zi U U) (fun hb=>yj (gv hb) (gv hb) ⟨zs hb,U⟩) (fun hb=>⟨zp hb,U⟩),zb U U (zR U U (fun hq=>(gv (zP hq))) ⟨U,U⟩),V⟩) U ?_
 refine zz ((((decide (x4<0)) || (decide (x10<0))) || (decide ((x18n:Int)<x13))) || (decide ((IntKind.i64.wrap ((x29n:Int) - x31))<x24))) U ?_ ?_
 ·intro hb
  replace H:=H.1 hb
  refine ze ?_
  refine zc U ?_
  refine za (zg (v:=.int .i64 1) U ?_)
  refine zh ?_
  refine zx ?_
  exact zv (zq U zu) H
 ·intro hb
  replace H:=H.2 hb
  refine zC ?_
  refine ze ?_
  obtain⟨b35,o36,rfl,H⟩:=H
  obtain⟨x38a,x38n,x38c,c39,H⟩:=H
  obtain⟨x40,c41,H⟩:=H
  obtain⟨x42,c43,H⟩:=H
  obtain⟨b44,o45,rfl,H⟩:=H
  obtain⟨x47,c48,H⟩:=H
  obtain⟨c49,H⟩:=H
  obtain⟨n50,c51,H⟩:=H
  obtain⟨n52,c53,H⟩:=H
  obtain⟨c54,H⟩:=H
  refine zO Ggp 2 [(Y (some ⟨b35,o36,none⟩)),(Y (some ⟨b35,o36,none⟩)),(Y (some ⟨b35,o36+3,none⟩)),(T x38a x38n x38c),(Z .i64 x40),(Z .i64 x42),(Z .i64 x47),(Z .i64 (x42+x47)),(T (cutA x38a n50 x38c 1) (n52 - n50) (x38c - n50)),undef,undef] (by kernel_rfl) U mixed_PR ?_
  refine zA [9] (by decide) U (zw [0,1,2,3,4,5,6,7,8] U ⟨zb U U (zd (v:=.pointer (some ⟨b35,o36,none⟩)) e0 ⟨U,U⟩),zb U U (zj U ⟨U,U⟩),zb U U (zf U fo_186_3 ⟨U,U⟩),zb U U (zk U ag_23 c39 ⟨U,U⟩),zb U U (zk e1 ag_3 c41 ⟨U,U⟩),zb U U (zk e1 ag_3 c43 ⟨U,U⟩),zb U U (zk e2 ag_3 c48 ⟨U,U⟩),zb U U (yf U U (zU c49) ⟨U,U⟩),zb U U (yc ei_23 U ⟨_,Eq.trans U (congrArg (Z .i64) c51)⟩ ⟨_,Eq.trans U (congrArg (Z .i64) c53)⟩ U (.inl U) c54.1 c54.2.1 c54.2.2 ⟨U,U⟩),V⟩) U ⟨?_,V⟩
  refine zb U U (zG (vs:=[.slice (cutA x38a n50 x38c 1) (n52 - n50) (x38c - n50)]) en_84 (zm U zy) (CallsH.mono H ?_))
  clear H
  rintro _ h55 ⟨x57a,x57n,x57c,rfl,H⟩
  refine⟨[(Value.pointer (some ⟨b35,o36,none⟩)),(Value.pointer (some ⟨b35,o36,none⟩)),(Value.pointer (some ⟨b35,o36+3,none⟩)),(Value.slice x38a x38n x38c),(Value.int .i64 x40),(Value.int .i64 x42),(Value.int .i64 x47),(Value.int .i64 (x42+x47)),(Value.slice (cutA x38a n50 x38c 1) (n52 - n50) (x38c - n50)),(Value.slice x57a x57n x57c),undef],rfl,(zH [0,1,2,3,4,5,6,7,8] rfl ⟨rfl,rfl,rfl,rfl,rfl,rfl,rfl,rfl,rfl,trivial⟩),?_⟩
  refine zA [10] (by decide) U (zw [] U V) U ⟨?_,V⟩
  obtain⟨b58,o59,rfl,H⟩:=H
  obtain⟨h62,c61,H⟩:=H
  refine zb U U (zI (v:=.slice x57a x57n x57c) e3 U sz_23 U c61 ?_)
  refine⟨[(Value.pointer (some ⟨b35,o36,none⟩)),(Value.pointer (some ⟨b35,o36,none⟩)),(Value.pointer (some ⟨b35,o36+3,none⟩)),(Value.slice x38a x38n x38c),(Value.int .i64 x40),(Value.int .i64 x42),(Value.int .i64 x47),(Value.int .i64 (x42+x47)),(Value.slice (cutA x38a n50 x38c 1) (n52 - n50) (x38c - n50)),(Value.slice x57a x57n x57c),undef],rfl,(zH [0,1,2,3,4,5,6,7,8,9] rfl ⟨rfl,rfl,rfl,rfl,rfl,rfl,rfl,rfl,rfl,rfl,trivial⟩),?_⟩
  refine zJ U (zw [] U V) U ?_
  refine ze ?_
  refine zc U ?_
  refine za (zg (v:=.int .i64 0) U ?_)
  refine zh ?_
  refine zx ?_
  exact zv (zq U zu) H
def Ga0 (p0a:Option Addr) (p0n:Nat) (p0c:Nat) (K:Option Addr→Nat→Nat→Heap→Prop) (h:Heap):Prop:=
 (p0a.isNone=true→K none 0 0 h)∧(p0a.isNone=false→∀ (h2:Heap),h2=h.push (.cells #[] 5 (0,0))→∃ (m4:Nat) (ns5:List Value),(lenH (Value.slice p0a p0n p0c)=some m4∧firstH h2 1 m4 (Value.slice p0a p0n p0c)=some ns5)∧appH 5 1 1 (Value.int .u8 0) (some ⟨h.size,0,none⟩) 0 0 m4 ns5 h2 (fun a8 n9 q10 h11=>K a8 n9 q10 h11))
theorem Ga1 (p0a:Option Addr) (p0n:Nat) (p0c:Nat) (R:Value→Heap→Prop) (h:Heap) (H:Ga0 p0a p0n p0c (fun r0a r0n r0c h'=>R (Value.slice r0a r0n r0c) h') h):CallsH PR Ghl #[.slice p0a p0n p0c] h R:=by
 refine zD (args:=[.slice p0a p0n p0c]) Tryz.func84 U U ?_
 intro f hf
 have e0:=hf 0 _ rfl
 clear hf
 unfold Ga0 at H
 refine ze ?_
 refine zc U ?_
 refine za (zg (v:=.slice none 0 0) U ?_)
 refine zh ?_
 refine ze ?_
 refine ze ?_
 refine zc U ?_
 refine za (zd (v:=.slice p0a p0n p0c) e0 ?_)
 refine za (op_eq_sl_nil U U un_23 ?_)
 refine zh ?_
 refine zz (p0a.isNone) U ?_ ?_
 ·intro hb
  replace H:=H.1 hb
  refine ze ?_
  refine zc U ?_
  refine za (zg (v:=.slice none 0 0) U ?_)
  refine zh ?_
  refine zx ?_
  exact zv (zq U zu) H
 ·intro hb
  replace H:=H.2 hb
  refine zC ?_
  refine ze ?_
  refine zc U ?_
  obtain⟨h2,c3⟩ : ∃ h2,h2=h.push (.cells #[] 5 (0,0)):=⟨_,rfl⟩
  replace H:=H h2 c3
  refine za (yg (cs:=#[]) (vs:=[]) (zl:=[.int .u8 0]) ri_23 (by decide) U U zT U c3 ?_)
  refine za (zd (v:=.slice p0a p0n p0c) e0 ?_)
  obtain⟨m4,ns5,c6,H⟩:=H
  refine za (op_append' (src:=(T p0a p0n p0c)) (news:=ns5) ri_23 (.inl ⟨_,un_23⟩) U U c6.1 c6.2 (appH.mono H ?_))
  clear H
  intro a8 n9 q10 h11 H
  refine za (zg (v:=.slice a8 n9 q10) U ?_)
  refine zh ?_
  refine zx ?_
  exact zv (zq U zu) H
end Go.Proofs.Vf
