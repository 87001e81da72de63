/- Printed by a program of this claim: for each Go function named below a formula over the heap, and the proof that it gives the call of that function. No conditions. -/
import Derived.Test.YtcldahgjomfbpaaGreatBase
namespace Go.Proofs.Vf
open Go Go.Proofs Go.VC
set_option maxRecDepth 100000
set_option maxHeartbeats 4000000
set_option linter.unusedVariables false
def Gc4 (p0_0:Int) (p0_1:Int) (p0_2:Int) (K:Bool→Heap→Prop) (h:Heap):Prop:=
 ∀ (h1:Heap),h1=h.push (.cells #[.int .i64 p0_0,.int .u64 p0_1,.int .i64 p0_2] 148 (0,0))→∃ (x3:Int),cellH h1 h.size 0=some (.int .i64 x3)∧∃ (x6:Int),((0≤x3)→cellH h1 h.size 0=some (.int .i64 x6))∧∃ (x9:Int),((((decide (0≤x3)) && (decide (x6≤65535)))=true)→cellH h1 h.size 1=some (.int .u64 x9))∧∃ J14:Bool→Heap→Prop,(∀ (x13:Bool) (h11:Heap),J14 x13 h11→∃ (x15:Int),(((((decide (0≤x3)) && (decide (x6≤65535))) && x13)=true)→cellH h11 h.size 2=some (.int .i64 x15))∧∃ (x18:Int),((((((decide (0≤x3)) && (decide (x6≤65535))) && x13) && (decide (0≤x15)))=true)→cellH h11 h.size 2=some (.int .i64 x18))∧K (((((decide (0≤x3)) && (decide (x6≤65535))) && x13) && (decide (0≤x15))) && (decide (x18≤1048576))) h11)∧((((decide (0≤x3)) && (decide (x6≤65535)))=true)→CallsH PR Gnq #[.int .u64 x9] h1 (fun v h11=>∃ (x13:Bool),v=(Value.bool x13)∧J14 x13 h11))∧((((decide (0≤x3)) && (decide (x6≤65535)))=false)→∃ (x13:Bool),J14 x13 h1)
theorem Gc5 (p0_0:Int) (p0_1:Int) (p0_2:Int) (R:Value→Heap→Prop) (h:Heap) (H:Gc4 p0_0 p0_1 p0_2 (fun r0 h'=>R (Value.bool r0) h') h):CallsH PR Gl5 #[.agg #[.int .i64 p0_0,.int .u64 p0_1,.int .i64 p0_2]] h R:=by
 refine zD (args:=[.agg #[.int .i64 p0_0,.int .u64 p0_1,.int .i64 p0_2]]) Tryz.func65 U U ?_
 intro f hf
 have e0:=hf 0 _ rfl
 clear hf
 unfold Gc4 at H
 refine ze ?_
 refine zc U ?_
 obtain⟨h1,c2⟩ : ∃ h1,h1=h.push (.cells #[.int .i64 p0_0,.int .u64 p0_1,.int .i64 p0_2] 148 (0,0)):=⟨_,rfl⟩
 replace H:=H h1 c2
 refine za (yd (v:=.agg #[.int .i64 p0_0,.int .u64 p0_1,.int .i64 p0_2]) e0 c2 ?_)
 refine za (zg (v:=.bool false) U ?_)
 refine zh ?_
 refine ze ?_
 refine zc U ?_
 refine za (zf U fo_148_0 ?_)
 obtain⟨x3,c4,H⟩:=H
 refine za (zk U ag_3 c4 ?_)
 refine za (op_geq U U ?_)
 refine za (zd (v:=.bool (decide (0≤x3))) U ?_)
 refine zF (b:=decide (0≤x3)) (zi U U) (Y (some ⟨h.size,0,none⟩)) (fun hb N hN=>zf U fo_148_0 hN) ?_
 obtain⟨x6,c7,H⟩:=H
 refine zF (b:=decide (0≤x3)) (zi U U) (Z .i64 x6) (fun hb N hN=>zk (gv hb) ag_3 (c7 (zo hb)) hN) ?_
 refine zF (b:=decide (0≤x3)) (zi U U) (W (decide (x6≤65535))) (fun hb N hN=>op_leq (gv hb) U hN) ?_
 refine za (zV U (fun hq=>(gv hq)) U ?_)
 refine za (zd (v:=.bool ((decide (0≤x3)) && (decide (x6≤65535)))) U ?_)
 refine zF (b:=(decide (0≤x3)) && (decide (x6≤65535))) (zi U U) (Y (some ⟨h.size,1,none⟩)) (fun hb N hN=>zf U fo_148_1 hN) ?_
 obtain⟨x9,c10,H⟩:=H
 refine zF (b:=(decide (0≤x3)) && (decide (x6≤65535))) (zi U U) (Z .u64 x9) (fun hb N hN=>zk (gv hb) ag_37 (c10 hb) hN) ?_
 obtain⟨J14,HR,HT,HF⟩:=H
 refine wpL_gl (b:=(decide (0≤x3)) && (decide (x6≤65535))) (zi U U) (fun v h11=>∃ (x13:Bool),v=(bif (decide (0≤x3)) && (decide (x6≤65535)) then (W x13) else undef)∧J14 x13 h11) ?_ ?_ ?_
 ·rintro _ h11 ⟨x13,rfl,hJ⟩
  have H:=HR x13 h11 hJ
  refine za (zV U (fun hq=>(gv hq)) U ?_)
  refine za (zd (v:=.bool (((decide (0≤x3)) && (decide (x6≤65535))) && x13)) U ?_)
  refine zF (b:=((decide (0≤x3)) && (decide (x6≤65535))) && x13) (zi U U) (Y (some ⟨h.size,2,none⟩)) (fun hb N hN=>zf U fo_148_2 hN) ?_
  obtain⟨x15,c16,H⟩:=H
  refine zF (b:=((decide (0≤x3)) && (decide (x6≤65535))) && x13) (zi U U) (Z .i64 x15) (fun hb N hN=>zk (gv hb) ag_3 (c16 hb) hN) ?_
  refine zF (b:=((decide (0≤x3)) && (decide (x6≤65535))) && x13) (zi U U) (W (decide (0≤x15))) (fun hb N hN=>op_geq (gv hb) U hN) ?_
  refine za (zV U (fun hq=>(gv hq)) U ?_)
  refine za (zd (v:=.bool ((((decide (0≤x3)) && (decide (x6≤65535))) && x13) && (decide (0≤x15)))) U ?_)
  refine zF (b:=(((decide (0≤x3)) && (decide (x6≤65535))) && x13) && (decide (0≤x15))) (zi U U) (Y (some ⟨h.size,2,none⟩)) (fun hb N hN=>zf U fo_148_2 hN) ?_
  obtain⟨x18,c19,H⟩:=H
  refine zF (b:=(((decide (0≤x3)) && (decide (x6≤65535))) && x13) && (decide (0≤x15))) (zi U U) (Z .i64 x18) (fun hb N hN=>zk (gv hb) ag_3 (c19 hb) hN) ?_
  refine zF (b:=(((decide (0≤x3)) && (decide (x6≤65535))) && x13) && (decide (0≤x15))) (zi U U) (W (decide (x18≤1048576))) (fun hb N hN=>op_leq (gv hb) U hN) ?_
  refine za (zV U (fun hq=>(gv hq)) U ?_)
  refine za (zg (v:=.bool (((((decide (0≤x3)) && (decide (x6≤65535))) && x13) && (decide (0≤x15))) && (decide (x18≤1048576)))) U ?_)
  refine zh ?_
  refine zx ?_
  exact zv (zq U zu) H
 ·intro hb
  refine zG (vs:=[.int .u64 x9]) en_117 (zm (gv hb) zy) (CallsH.mono (HT hb) ?_)
  rintro _ h11 ⟨x13,rfl,hJ⟩
  exact⟨x13,zs hb,hJ⟩
 ·intro hb
  obtain⟨x13,hJ⟩:=HF hb
  exact⟨x13,zp hb,hJ⟩
def Gc6 (K:Option Addr→Heap→Prop) (h:Heap):Prop:=
 ∀ (h1:Heap),h1=h.push (.cells #[.slice none 0 0,.int .i64 0,.bool false] 236 (0,0))→K (some ⟨h.size,0,none⟩) h1
theorem Gc7 (R:Value→Heap→Prop) (h:Heap) (H:Gc6  (fun r0 h'=>R (Value.pointer r0) h') h):CallsH PR Gl6 #[] h R:=by
 refine zD (args:=[]) Tryz.func89 U U ?_
 intro f hf
 clear hf
 unfold Gc6 at H
 refine ze ?_
 refine zc U ?_
 refine za (zg (v:=.pointer none) U ?_)
 refine zh ?_
 refine ze ?_
 refine zc U ?_
 refine za (zX (vs:=[]) (cs:=#[.slice none 0 0,.int .i64 0,.bool false]) z_236 fs_236 zT U ?_)
 obtain⟨h1,c2⟩ : ∃ h1,h1=h.push (.cells #[.slice none 0 0,.int .i64 0,.bool false] 236 (0,0)):=⟨_,rfl⟩
 replace H:=H h1 c2
 refine za (yd (v:=.agg #[.slice none 0 0,.int .i64 0,.bool false]) U c2 ?_)
 refine za (zg (v:=.pointer (some ⟨h.size,0,none⟩)) U ?_)
 refine zh ?_
 refine zx ?_
 exact zv (zq U zu) H
def Ggi:Cert:=⟨[[],[0],[],[2],[0,1,2,3],[],[5],[],[7],[0,1,2,3,4,5,6,7,8],[],[10],[],[12],[0,1,2,3,4,5,6,7,8,9,10,11,12,13],[0,1,2,3,4,5,6,7,8,9,10,11,12,13,14],[0,1,2,3,4,5,6,7,8,9,10,11,12,13,14,15],[0,1,2,3,4,5,6,7,8,9,10,11,12,13,14,15,16]],[false,false,false,false,true,false,false,false,false,true,false,false,false,false,true,true,true,false]⟩
def Gcw (p0_0:Int) (p0_1:Int) (p0_2:Int) (p1_0:Int) (p1_1:Int) (p1_2:Int) (K:Int→Heap→Prop) (h:Heap):Prop:=
 ∀ (h1:Heap),h1=h.push (.cells #[.int .i64 p0_0,.int .u64 p0_1,.int .i64 p0_2] 148 (0,0))→∀ (h3:Heap),h3=h1.push (.cells #[.int .i64 p1_0,.int .u64 p1_1,.int .i64 p1_2] 148 (0,0))→∃ (x5:Int),cellH h3 h.size 1=some (.int .u64 x5)∧∃ (x7:Int),cellH h3 h1.size 1=some (.int .u64 x7)∧∃ (x9:Int),cellH h3 h.size 2=some (.int .i64 x9)∧∃ (x11:Int),cellH h3 h1.size 2=some (.int .i64 x11)∧∃ (x13:Int),cellH h3 h.size 0=some (.int .i64 x13)∧∃ (x15:Int),cellH h3 h1.size 0=some (.int .i64 x15)∧CallsH PR Ghn #[.int .u64 x5,.int .u64 x7] h3 (fun v h17=>∃ (x19:Int),v=(Value.int .i64 x19)∧cellH h17 h.size 2=some (Value.int .i64 x9)∧cellH h17 h1.size 2=some (Value.int .i64 x11)∧cellH h17 h.size 0=some (Value.int .i64 x13)∧cellH h17 h1.size 0=some (Value.int .i64 x15)∧CallsH PR Ghm #[.int .i64 x9,.int .i64 x11] h17 (fun v h24=>∃ (x26:Int),v=(Value.int .i64 x26)∧cellH h24 h.size 0=some (Value.int .i64 x13)∧cellH h24 h1.size 0=some (Value.int .i64 x15)∧CallsH PR Ghm #[.int .i64 x13,.int .i64 x15] h24 (fun v h29=>∃ (x31:Int),v=(Value.int .i64 x31)∧∀ (h32:Heap),h32=h29.push (.cells #[.int .i64 x19,.int .i64 x26,.int .i64 x31] 3 (0,0))→CallsH PR Gho #[.slice (some ⟨h29.size,0,none⟩) 3 3] h32 (fun v h34=>∃ (x36:Int),v=(Value.int .i64 x36)∧K x36 h34))))
theorem Gcx (p0_0:Int) (p0_1:Int) (p0_2:Int) (p1_0:Int) (p1_1:Int) (p1_2:Int) (R:Value→Heap→Prop) (h:Heap) (H:Gcw p0_0 p0_1 p0_2 p1_0 p1_1 p1_2 (fun r0 h'=>R (Value.int .i64 r0) h') h):CallsH PR Glk #[.agg #[.int .i64 p0_0,.int .u64 p0_1,.int .i64 p0_2],.agg #[.int .i64 p1_0,.int .u64 p1_1,.int .i64 p1_2]] h R:=by
 refine zD (args:=[.agg #[.int .i64 p0_0,.int .u64 p0_1,.int .i64 p0_2],.agg #[.int .i64 p1_0,.int .u64 p1_1,.int .i64 p1_2]]) Tryz.func130 U U ?_
 intro f hf
 have e0:=hf 0 _ rfl
 have e1:=hf 1 _ rfl
 clear hf
 unfold Gcw at H
 refine ze ?_
 refine zc U ?_
 obtain⟨h1,c2⟩ : ∃ h1,h1=h.push (.cells #[.int .i64 p0_0,.int .u64 p0_1,.int .i64 p0_2] 148 (0,0)):=⟨_,rfl⟩
 replace H:=H h1 c2
 refine za (yd (v:=.agg #[.int .i64 p0_0,.int .u64 p0_1,.int .i64 p0_2]) e0 c2 ?_)
 obtain⟨h3,c4⟩ : ∃ h3,h3=h1.push (.cells #[.int .i64 p1_0,.int .u64 p1_1,.int .i64 p1_2] 148 (0,0)):=⟨_,rfl⟩
 replace H:=H h3 c4
 refine za (yd (v:=.agg #[.int .i64 p1_0,.int .u64 p1_1,.int .i64 p1_2]) e1 c4 ?_)
 refine za (zg (v:=.int .i64 0) U ?_)
 refine zh ?_
 refine ze ?_
 obtain⟨x5,c6,H⟩:=H
 obtain⟨x7,c8,H⟩:=H
 obtain⟨x9,c10,H⟩:=H
 obtain⟨x11,c12,H⟩:=H
 obtain⟨x13,c14,H⟩:=H
 obtain⟨x15,c16,H⟩:=H
 refine zO Ggi 5 [(Y (some ⟨h.size,1,none⟩)),(Z .u64 x5),(Y (some ⟨h1.size,1,none⟩)),(Z .u64 x7),undef,(Y (some ⟨h.size,2,none⟩)),(Z .i64 x9),(Y (some ⟨h1.size,2,none⟩)),(Z .i64 x11),undef,(Y (some ⟨h.size,0,none⟩)),(Z .i64 x13),(Y (some ⟨h1.size,0,none⟩)),(Z .i64 x15),undef,undef,undef,undef] (by kernel_rfl) U mixed_PR ?_
 refine zA [4] (by decide) U (zw [0,1,2,3,5,6,7,8,10,11,12,13] U ⟨zb U U (zf U fo_148_1 ⟨U,U⟩),zb U U (zk U ag_37 c6 ⟨U,U⟩),zb U U (zf U fo_148_1 ⟨U,U⟩),zb U U (zk U ag_37 c8 ⟨U,U⟩),zb U U (zf U fo_148_2 ⟨U,U⟩),zb U U (zk U ag_3 c10 ⟨U,U⟩),zb U U (zf U fo_148_2 ⟨U,U⟩),zb U U (zk U ag_3 c12 ⟨U,U⟩),zb U U (zf U fo_148_0 ⟨U,U⟩),zb U U (zk U ag_3 c14 ⟨U,U⟩),zb U U (zf U fo_148_0 ⟨U,U⟩),zb U U (zk U ag_3 c16 ⟨U,U⟩),V⟩) U ⟨?_,V⟩
 refine zb U U (zG (vs:=[.int .u64 x5,.int .u64 x7]) en_168 (zm U (zm U zy)) (CallsH.mono H ?_))
 clear H
 rintro _ h17 ⟨x19,rfl,H⟩
 obtain⟨c20,H⟩:=H
 obtain⟨c21,H⟩:=H
 obtain⟨c22,H⟩:=H
 obtain⟨c23,H⟩:=H
 refine⟨[(Value.pointer (some ⟨h.size,1,none⟩)),(Value.int .u64 x5),(Value.pointer (some ⟨h1.size,1,none⟩)),(Value.int .u64 x7),(Value.int .i64 x19),(Value.pointer (some ⟨h.size,2,none⟩)),(Value.int .i64 x9),(Value.pointer (some ⟨h1.size,2,none⟩)),(Value.int .i64 x11),undef,(Value.pointer (some ⟨h.size,0,none⟩)),(Value.int .i64 x13),(Value.pointer (some ⟨h1.size,0,none⟩)),(Value.int .i64 x15),undef,undef,undef,undef],rfl,(zH [0,1,2,3,5,6,7,8,10,11,12,13] rfl ⟨rfl,rfl,rfl,rfl,rfl,rfl,rfl,rfl,rfl,rfl,rfl,rfl,trivial⟩),?_⟩
 refine zA [9] (by decide) U (zw [5,6,7,8,10,11,12,13] U ⟨zb U U (zf U fo_148_2 ⟨U,U⟩),zb U U (zk U ag_3 c20 ⟨U,U⟩),zb U U (zf U fo_148_2 ⟨U,U⟩),zb U U (zk U ag_3 c21 ⟨U,U⟩),zb U U (zf U fo_148_0 ⟨U,U⟩),zb U U (zk U ag_3 c22 ⟨U,U⟩),zb U U (zf U fo_148_0 ⟨U,U⟩),zb U U (zk U ag_3 c23 ⟨U,U⟩),V⟩) U ⟨?_,V⟩
 refine zb U U (zG (vs:=[.int .i64 x9,.int .i64 x11]) en_169 (zm U (zm U zy)) (CallsH.mono H ?_))
 clear H
 rintro _ h24 ⟨x26,rfl,H⟩
 obtain⟨c27,H⟩:=H
 obtain⟨c28,H⟩:=H
 refine⟨[(Value.pointer (some ⟨h.size,1,none⟩)),(Value.int .u64 x5),(Value.pointer (some ⟨h1.size,1,none⟩)),(Value.int .u64 x7),(Value.int .i64 x19),(Value.pointer (some ⟨h.size,2,none⟩)),(Value.int .i64 x9),(Value.pointer (some ⟨h1.size,2,none⟩)),(Value.int .i64 x11),(Value.int .i64 x26),(Value.pointer (some ⟨h.size,0,none⟩)),(Value.int .i64 x13),(Value.pointer (some ⟨h1.size,0,none⟩)),(Value.int .i64 x15),undef,undef,undef,undef],rfl,(zH [0,1,2,3,4,5,6,7,8,10,11,12,13] rfl ⟨rfl,rfl,rfl,rfl,rfl,rfl,rfl,rfl,rfl,rfl,rfl,rfl,rfl,trivial⟩),?_⟩
 refine zA [14] (by decide) U (zw [10,11,12,13] U ⟨zb U U (zf U fo_148_0 ⟨U,U⟩),zb U U (zk U ag_3 c27 ⟨U,U⟩),zb U U (zf U fo_148_0 ⟨U,U⟩),zb U U (zk U ag_3 c28 ⟨U,U⟩),V⟩) U ⟨?_,V⟩
 refine zb U U (zG (vs:=[.int .i64 x13,.int .i64 x15]) en_169 (zm U (zm U zy)) (CallsH.mono H ?_))
 clear H
 rintro _ h29 ⟨x31,rfl,H⟩
 refine⟨[(Value.pointer (some ⟨h.size,1,none⟩)),(Value.int .u64 x5),(Value.pointer (some ⟨h1.size,1,none⟩)),(Value.int .u64 x7),(Value.int .i64 x19),(Value.pointer (some ⟨h.size,2,none⟩)),(Value.int .i64 x9),(Value.pointer (some ⟨h1.size,2,none⟩)),(Value.int .i64 x11),(Value.int .i64 x26),(Value.pointer (some ⟨h.size,0,none⟩)),(Value.int .i64 x13),(Value.pointer (some ⟨h1.size,0,none⟩)),(Value.int .i64 x15),(Value.int .i64 x31),undef,undef,undef],rfl,(zH [0,1,2,3,4,5,6,7,8,9,10,11,12,13] rfl ⟨rfl,rfl,rfl,rfl,rfl,rfl,rfl,rfl,rfl,rfl,rfl,rfl,rfl,rfl,trivial⟩),?_⟩
 refine zA [15] (by decide) U (zw [] U V) U ⟨?_,V⟩
 obtain⟨h32,c33⟩ : ∃ h32,h32=h29.push (.cells #[.int .i64 x19,.int .i64 x26,.int .i64 x31] 3 (0,0)):=⟨_,rfl⟩
 replace H:=H h32 c33
 refine zb U U (yg (cs:=#[.int .i64 x19,.int .i64 x26,.int .i64 x31]) (vs:=[(0,.int .i64 x19),(1,.int .i64 x26),(2,.int .i64 x31)]) (zl:=[.int .i64 0]) ri_34 (by decide) U U (zM U (zM U (zM U zT))) U c33 ?_)
 refine⟨[(Value.pointer (some ⟨h.size,1,none⟩)),(Value.int .u64 x5),(Value.pointer (some ⟨h1.size,1,none⟩)),(Value.int .u64 x7),(Value.int .i64 x19),(Value.pointer (some ⟨h.size,2,none⟩)),(Value.int .i64 x9),(Value.pointer (some ⟨h1.size,2,none⟩)),(Value.int .i64 x11),(Value.int .i64 x26),(Value.pointer (some ⟨h.size,0,none⟩)),(Value.int .i64 x13),(Value.pointer (some ⟨h1.size,0,none⟩)),(Value.int .i64 x15),(Value.int .i64 x31),(Value.slice (some ⟨h29.size,0,none⟩) 3 3),undef,undef],rfl,(zH [0,1,2,3,4,5,6,7,8,9,10,11,12,13,14] rfl ⟨rfl,rfl,rfl,rfl,rfl,rfl,rfl,rfl,rfl,rfl,rfl,rfl,rfl,rfl,rfl,trivial⟩),?_⟩
 refine zA [16] (by decide) U (zw [] U V) U ⟨?_,V⟩
 refine zb U U (zG (vs:=[.slice (some ⟨h29.size,0,none⟩) 3 3]) en_167 (zm U zy) (CallsH.mono H ?_))
 clear H
 rintro _ h34 ⟨x36,rfl,H⟩
 refine⟨[(Value.pointer (some ⟨h.size,1,none⟩)),(Value.int .u64 x5),(Value.pointer (some ⟨h1.size,1,none⟩)),(Value.int .u64 x7),(Value.int .i64 x19),(Value.pointer (some ⟨h.size,2,none⟩)),(Value.int .i64 x9),(Value.pointer (some ⟨h1.size,2,none⟩)),(Value.int .i64 x11),(Value.int .i64 x26),(Value.pointer (some ⟨h.size,0,none⟩)),(Value.int .i64 x13),(Value.pointer (some ⟨h1.size,0,none⟩)),(Value.int .i64 x15),(Value.int .i64 x31),(Value.slice (some ⟨h29.size,0,none⟩) 3 3),(Value.int .i64 x36),(Value.int .i64 x36)],rfl,(zH [0,1,2,3,4,5,6,7,8,9,10,11,12,13,14,15] rfl ⟨rfl,rfl,rfl,rfl,rfl,rfl,rfl,rfl,rfl,rfl,rfl,rfl,rfl,rfl,rfl,rfl,trivial⟩),?_⟩
 refine zJ U (zw [17] U ⟨zb U U (zg (v:=.int .i64 x36) U ⟨U,U⟩),V⟩) U ?_
 refine zx ?_
 exact zv (zq U zu) H
def Gcs (p0:Option Addr) (p1:Int) (K:Int→Heap→Prop) (h:Heap):Prop:=
 ∀ (h1:Heap),h1=h.push (.cells #[.int .i64 p1] 3 (0,0))→∃ (b3:Nat) (o4:Nat),p0=some ⟨b3,o4,none⟩∧∃ (x6a:Option Addr) (x6n:Nat) (x6c:Nat),cellH h1 b3 o4=some (.slice x6a x6n x6c)∧CallsH PR Gn4 #[.slice x6a x6n x6c,(Value.func (.func Glj) #[] #[.pointer (some ⟨h.size,0,none⟩)])] h1 (fun v h8=>∃ (x10:Int),v=(Value.int .i64 x10)∧K x10 h8)
theorem Gcv (p0:Option Addr) (p1:Int) (R:Value→Heap→Prop) (h:Heap) (H:Gcs p0 p1 (fun r0 h'=>R (Value.int .i64 r0) h') h):CallsH PR Gli #[.pointer p0,.int .i64 p1] h R:=by
 refine zD (args:=[.pointer p0,.int .i64 p1]) Tryz.func128 U U ?_
 intro f hf
 have e0:=hf 0 _ rfl
 have e1:=hf 1 _ rfl
 clear hf
 unfold Gcs at H
 refine ze ?_
 refine zc U ?_
 obtain⟨h1,c2⟩ : ∃ h1,h1=h.push (.cells #[.int .i64 p1] 3 (0,0)):=⟨_,rfl⟩
 replace H:=H h1 c2
 refine za (yd (v:=.int .i64 p1) e1 c2 ?_)
 refine za (zg (v:=.int .i64 0) U ?_)
 refine zh ?_
 refine ze ?_
 refine zc U ?_
 refine za (zd (v:=.pointer p0) e0 ?_)
 obtain⟨b3,o4,rfl,H⟩:=H
 refine za (zj U ?_)
 refine za (zf U fo_236_0 ?_)
 obtain⟨x6a,x6n,x6c,c7,H⟩:=H
 refine za (zk U ag_107 c7 ?_)
 refine za (yl (cs:=[.pointer (some ⟨h.size,0,none⟩)]) (zm U zy) ?_)
 refine za (zG (vs:=[.slice x6a x6n x6c,(Value.func (.func Glj) #[] #[.pointer (some ⟨h.size,0,none⟩)])]) en_165 (zm U (zm U zy)) (CallsH.mono H ?_))
 clear H
 rintro _ h8 ⟨x10,rfl,H⟩
 refine za (zg (v:=.int .i64 x10) U ?_)
 refine zh ?_
 refine zx ?_
 exact zv (zq U zu) H
def Gct (p0_0:Int) (p0_1:Int) (p0_2:Int) (q0:Option Addr) (K:Bool→Heap→Prop) (h:Heap):Prop:=
 ∀ (h1:Heap),h1=h.push (.cells #[.int .i64 p0_0,.int .u64 p0_1,.int .i64 p0_2] 148 (0,0))→∃ (x3:Int),cellH h1 h.size 0=some (.int .i64 x3)∧∃ (b5:Nat) (o6:Nat),q0=some ⟨b5,o6,none⟩∧∃ (x8:Int),cellH h1 b5 o6=some (.int .i64 x8)∧K (decide (x3=x8)) h1
theorem Gcu (p0_0:Int) (p0_1:Int) (p0_2:Int) (q0:Option Addr) (R:Value→Heap→Prop) (h:Heap) (H:Gct p0_0 p0_1 p0_2 q0 (fun r0 h'=>R (Value.bool r0) h') h):CallsH PR Glj #[.agg #[.int .i64 p0_0,.int .u64 p0_1,.int .i64 p0_2],.pointer q0] h R:=by
 refine zD (args:=[.agg #[.int .i64 p0_0,.int .u64 p0_1,.int .i64 p0_2],.pointer q0]) Tryz.func166 U U ?_
 intro f hf
 have e0:=hf 0 _ rfl
 have e1:=hf 1 _ rfl
 clear hf
 unfold Gct at H
 refine ze ?_
 refine zc U ?_
 obtain⟨h1,c2⟩ : ∃ h1,h1=h.push (.cells #[.int .i64 p0_0,.int .u64 p0_1,.int .i64 p0_2] 148 (0,0)):=⟨_,rfl⟩
 replace H:=H h1 c2
 refine za (yd (v:=.agg #[.int .i64 p0_0,.int .u64 p0_1,.int .i64 p0_2]) e0 c2 ?_)
 refine za (zg (v:=.bool false) U ?_)
 refine zh ?_
 refine ze ?_
 refine zc U ?_
 refine za (zf U fo_148_0 ?_)
 obtain⟨x3,c4,H⟩:=H
 refine za (zk U ag_3 c4 ?_)
 obtain⟨b5,o6,rfl,H⟩:=H
 obtain⟨x8,c9,H⟩:=H
 refine za (zk e1 ag_3 c9 ?_)
 refine za (op_eql U U ?_)
 refine za (zg (v:=.bool (decide (x3=x8))) U ?_)
 refine zh ?_
 refine zx ?_
 exact zv (zq U zu) H
def Ggc:Cert:=⟨[[],[0],[0,1],[0,1,2],[],[0,1,2,3,4],[0,1,2,3,4,5],[0,1,2,3,4,5,6],[0,1,2,3,4,5,6],[0,1,2,3,4,5,6,7],[0,1,2,3,4,5,6,7,8,9]],[false,false,false,false,false,true,false,false,false,false,false]⟩
def Ggd:Cert:=⟨[[],[],[1],[1,2],[1,2,3],[],[],[6],[1,2,3,4,5,6,7],[0,1,2,3,4,5,6,7,8],[0,1,2,3,4,5,6,7,8,9],[0,1,2,3,4,5,6,7,8,9,10]],[false,false,false,false,false,false,false,true,true,false,false,true]⟩
def Gc8 (p0:Option Addr) (p1_0:Int) (p1_1:Int) (p1_2:Int) (K:Int→Heap→Prop) (h:Heap):Prop:=
 ∀ (h1:Heap),h1=h.push (.cells #[.int .i64 p1_0,.int .u64 p1_1,.int .i64 p1_2] 148 (0,0))→∃ (x3_0:Int) (x3_1:Int) (x3_2:Int),ldCells h1 h.size 0 3=some [.int .i64 x3_0,.int .u64 x3_1,.int .i64 x3_2]∧CallsH PR Gl5 #[.agg #[.int .i64 x3_0,.int .u64 x3_1,.int .i64 x3_2]] h1 (fun v h5=>∃ (x7:Bool),v=(Value.bool x7)∧(x7=false→K 1 h5)∧(x7=true→∃ (x8:Int),cellH h5 h.size 0=some (.int .i64 x8)∧CallsH PR Gli #[.pointer p0,.int .i64 x8] h5 (fun v h10=>∃ (x12:Int),v=(Value.int .i64 x12)∧(0≤x12→K 7 h10)∧((¬ (0≤x12))→∃ (b14:Nat) (o15:Nat),p0=some ⟨b14,o15,none⟩∧∃ (x17a:Option Addr) (x17n:Nat) (x17c:Nat),cellH h10 b14 o15=some (.slice x17a x17n x17c)∧(64≤(x17n:Int)→K 4 h10)∧((¬ (64≤(x17n:Int)))→∃ (x20a:Option Addr) (x20n:Nat) (x20c:Nat),cellH h10 b14 o15=some (.slice x20a x20n x20c)∧∃ (x22_0:Int) (x22_1:Int) (x22_2:Int),ldCells h10 h.size 0 3=some [.int .i64 x22_0,.int .u64 x22_1,.int .i64 x22_2]∧CallsH PR Gmx #[.slice x20a x20n x20c,.agg #[.int .i64 x22_0,.int .u64 x22_1,.int .i64 x22_2],(Value.func (.func Glk) #[] #[])] h10 (fun v h24=>∃ (x26:Int) (x27:Bool),v=(Value.tuple #[.int .i64 x26,.bool x27])∧∃ (x28a:Option Addr) (x28n:Nat) (x28c:Nat),cellH h24 b14 o15=some (.slice x28a x28n x28c)∧∃ (x30_0:Int) (x30_1:Int) (x30_2:Int),ldCells h24 h.size 0 3=some [.int .i64 x30_0,.int .u64 x30_1,.int .i64 x30_2]∧∀ (h32:Heap),h32=h24.push (.cells #[.int .i64 x30_0,.int .u64 x30_1,.int .i64 x30_2] 148 (0,0))→cellH h32 b14 o15=some (Value.slice x28a x28n x28c)∧CallsH PR Gn5 #[.slice x28a x28n x28c,.int .i64 x26,.slice (some ⟨h24.size,0,none⟩) 1 1] h32 (fun v h35=>∃ (x37a:Option Addr) (x37n:Nat) (x37c:Nat),v=(Value.slice x37a x37n x37c)∧∃ (h39:Heap),stCells b14 h35 o15 [.slice x37a x37n x37c]=some h39∧K 0 h39)))))))
theorem Gc9 (p0:Option Addr) (p1_0:Int) (p1_1:Int) (p1_2:Int) (R:Value→Heap→Prop) (h:Heap) (H:Gc8 p0 p1_0 p1_1 p1_2 (fun r0 h'=>R (Value.int .i64 r0) h') h):CallsH PR Gl7 #[.pointer p0,.agg #[.int .i64 p1_0,.int .u64 p1_1,.int .i64 p1_2]] h R:=by
 refine zD (args:=[.pointer p0,.agg #[.int .i64 p1_0,.int .u64 p1_1,.int .i64 p1_2]]) Tryz.func69 U U ?_
 intro f hf
 have e0:=hf 0 _ rfl
 have e1:=hf 1 _ rfl
 clear hf
 unfold Gc8 at H
 refine ze ?_
 refine zc U ?_
 obtain⟨h1,c2⟩ : ∃ h1,h1=h.push (.cells #[.int .i64 p1_0,.int .u64 p1_1,.int .i64 p1_2] 148 (0,0)):=⟨_,rfl⟩
 replace H:=H h1 c2
 refine za (yd (v:=.agg #[.int .i64 p1_0,.int .u64 p1_1,.int .i64 p1_2]) e1 c2 ?_)
 refine za (zg (v:=.int .i64 0) U ?_)
 refine zh ?_
 refine ze ?_
 refine zK ?_
 refine ze ?_
 refine zc U ?_
 obtain⟨x3_0,x3_1,x3_2,c4,H⟩:=H
 refine za (zS U ag_148 c4 ?_)
 refine za (zG (vs:=[.agg #[.int .i64 x3_0,.int .u64 x3_1,.int .i64 x3_2]]) en_65 (zm U zy) (CallsH.mono H ?_))
 clear H
 rintro _ h5 ⟨x7,rfl,H⟩
 refine za (yi U ?_)
 refine za (zg (v:=.bool (!x7)) U ?_)
 refine zh ?_
 refine zz (!x7) U ?_ ?_
 ·intro hb
  replace H:=H.1 (zt hb)
  refine ze ?_
  refine zc U ?_
  refine za (zg (v:=.int .i64 1) U ?_)
  refine zh ?_
  refine zx ?_
  exact zv (zq U zu) H
 ·intro hb
  replace H:=H.2 (zL hb)
  refine ze ?_
  refine zc U ?_
  refine za (zd (v:=.pointer p0) e0 ?_)
  refine za (zf U fo_148_0 ?_)
  obtain⟨x8,c9,H⟩:=H
  refine za (zk U ag_3 c9 ?_)
  refine za (zG (vs:=[.pointer p0,.int .i64 x8]) en_128 (zm U (zm U zy)) (CallsH.mono H ?_))
  clear H
  rintro _ h10 ⟨x12,rfl,H⟩
  refine za (op_geq U U ?_)
  refine za (zg (v:=.bool (decide (0≤x12))) U ?_)
  refine zh ?_
  refine zz (decide (0≤x12)) U ?_ ?_
  ·intro hb
   replace H:=H.1 (zo hb)
   refine ze ?_
   refine zc U ?_
   refine za (zg (v:=.int .i64 7) U ?_)
   refine zh ?_
   refine zx ?_
   exact zv (zq U zu) H
  ·intro hb
   replace H:=H.2 (zn hb)
   refine ze ?_
   refine zc U ?_
   refine za (zd (v:=.pointer p0) e0 ?_)
   obtain⟨b14,o15,rfl,H⟩:=H
   refine za (zj U ?_)
   refine za (zf U fo_236_0 ?_)
   obtain⟨x17a,x17n,x17c,c18,H⟩:=H
   refine za (zk U ag_107 c18 ?_)
   refine za (zN U un_107 ?_)
   refine za (op_geq U U ?_)
   refine za (zg (v:=.bool (decide (64≤(x17n:Int)))) U ?_)
   refine zh ?_
   refine zz (decide (64≤(x17n:Int))) U ?_ ?_
   ·intro hb
    replace H:=H.1 (zo hb)
    refine ze ?_
    refine zc U ?_
    refine za (zg (v:=.int .i64 4) U ?_)
    refine zh ?_
    refine zx ?_
    exact zv (zq U zu) H
   ·intro hb
    replace H:=H.2 (zn hb)
    refine zC ?_
    refine ze ?_
    obtain⟨x20a,x20n,x20c,c21,H⟩:=H
    obtain⟨x22_0,x22_1,x22_2,c23,H⟩:=H
    refine zO Ggc 1 [(Y (some ⟨b14,o15,none⟩)),(Y (some ⟨b14,o15,none⟩)),(Y (some ⟨b14,o15,none⟩)),(T x20a x20n x20c),(X #[.int .i64 x22_0,.int .u64 x22_1,.int .i64 x22_2]),undef,undef,undef,undef,undef,undef] (by kernel_rfl) U mixed_PR ?_
    refine zA [5] (by decide) U (zw [0,1,2,3,4] U ⟨zb U U (zd (v:=.pointer (some ⟨b14,o15,none⟩)) e0 ⟨U,U⟩),zb U U (zj U ⟨U,U⟩),zb U U (zf U fo_236_0 ⟨U,U⟩),zb U U (zk U ag_107 c21 ⟨U,U⟩),zb U U (zS U ag_148 c23 ⟨U,U⟩),V⟩) U ⟨?_,V⟩
    refine zb U U (zG (vs:=[.slice x20a x20n x20c,.agg #[.int .i64 x22_0,.int .u64 x22_1,.int .i64 x22_2],(Value.func (.func Glk) #[] #[])]) en_129 (zm U (zm U (zm U zy))) (CallsH.mono H ?_))
    clear H
    rintro _ h24 ⟨x26,x27,rfl,H⟩
    refine⟨[(Value.pointer (some ⟨b14,o15,none⟩)),(Value.pointer (some ⟨b14,o15,none⟩)),(Value.pointer (some ⟨b14,o15,none⟩)),(Value.slice x20a x20n x20c),(Value.agg #[.int .i64 x22_0,.int .u64 x22_1,.int .i64 x22_2]),(Value.tuple #[.int .i64 x26,.bool x27]),(Value.tuple #[.int .i64 x26,.bool x27]),(Value.int .i64 x26),(Value.bool x27),(Value.int .i64 x26),(Value.bool x27)],rfl,(zH [0,1,2,3,4] rfl ⟨rfl,rfl,rfl,rfl,rfl,trivial⟩),?_⟩
    refine zJ U (zw [6,7,8,9,10] U ⟨zb U U (zd (v:=.tuple #[.int .i64 x26,.bool x27]) U ⟨U,U⟩),zb U U (zB U U ⟨U,U⟩),zb U U (zB U U ⟨U,U⟩),zb U U (zg (v:=.int .i64 x26) U ⟨U,U⟩),zb U U (zg (v:=.bool x27) U ⟨U,U⟩),V⟩) U ?_
    refine ze ?_
    obtain⟨x28a,x28n,x28c,c29,H⟩:=H
    obtain⟨x30_0,x30_1,x30_2,c31,H⟩:=H
    refine zO Ggd 3 [(Y (some ⟨b14,o15,none⟩)),(Y (some ⟨b14,o15,none⟩)),(Y (some ⟨b14,o15,none⟩)),(Y (some ⟨b14,o15,none⟩)),(T x28a x28n x28c),(Z .i64 x26),(X #[.int .i64 x30_0,.int .u64 x30_1,.int .i64 x30_2]),undef,undef,undef,undef,undef] (by kernel_rfl) U mixed_PR ?_
    refine zA [7] (by decide) U (zw [0,1,2,3,4,5,6] U ⟨zb U U (zd (v:=.pointer (some ⟨b14,o15,none⟩)) e0 ⟨U,U⟩),zb U U (zd (v:=.pointer (some ⟨b14,o15,none⟩)) e0 ⟨U,U⟩),zb U U (zj U ⟨U,U⟩),zb U U (zf U fo_236_0 ⟨U,U⟩),zb U U (zk U ag_107 c29 ⟨U,U⟩),zb U U (zd (v:=.int .i64 x26) U ⟨U,U⟩),zb U U (zS U ag_148 c31 ⟨U,U⟩),V⟩) U ⟨?_,V⟩
    obtain⟨h32,c33⟩ : ∃ h32,h32=h24.push (.cells #[.int .i64 x30_0,.int .u64 x30_1,.int .i64 x30_2] 148 (0,0)):=⟨_,rfl⟩
    replace H:=H h32 c33
    refine zb U U (yg (cs:=#[.int .i64 x30_0,.int .u64 x30_1,.int .i64 x30_2]) (vs:=[(0,.agg #[.int .i64 x30_0,.int .u64 x30_1,.int .i64 x30_2])]) (zl:=[.int .i64 0,.int .u64 0,.int .i64 0]) ri_107 (by decide) U U (zM U zT) U c33 ?_)
    obtain⟨c34,H⟩:=H
    refine⟨[(Value.pointer (some ⟨b14,o15,none⟩)),(Value.pointer (some ⟨b14,o15,none⟩)),(Value.pointer (some ⟨b14,o15,none⟩)),(Value.pointer (some ⟨b14,o15,none⟩)),(Value.slice x28a x28n x28c),(Value.int .i64 x26),(Value.agg #[.int .i64 x30_0,.int .u64 x30_1,.int .i64 x30_2]),(Value.slice (some ⟨h24.size,0,none⟩) 1 1),undef,undef,undef,undef],rfl,(zH [0,1,2,3,4,5,6] rfl ⟨rfl,rfl,rfl,rfl,rfl,rfl,rfl,trivial⟩),?_⟩
    refine zA [8] (by decide) U (zw [0,1,2,3,4,5] U ⟨zb U U (zd (v:=.pointer (some ⟨b14,o15,none⟩)) e0 ⟨U,U⟩),zb U U (zd (v:=.pointer (some ⟨b14,o15,none⟩)) e0 ⟨U,U⟩),zb U U (zj U ⟨U,U⟩),zb U U (zf U fo_236_0 ⟨U,U⟩),zb U U (zk U ag_107 c34 ⟨U,U⟩),zb U U (zd (v:=.int .i64 x26) U ⟨U,U⟩),V⟩) U ⟨?_,V⟩
    refine zb U U (zG (vs:=[.slice x28a x28n x28c,.int .i64 x26,.slice (some ⟨h24.size,0,none⟩) 1 1]) en_131 (zm U (zm U (zm U zy))) (CallsH.mono H ?_))
    clear H
    rintro _ h35 ⟨x37a,x37n,x37c,rfl,H⟩
    refine⟨[(Value.pointer (some ⟨b14,o15,none⟩)),(Value.pointer (some ⟨b14,o15,none⟩)),(Value.pointer (some ⟨b14,o15,none⟩)),(Value.pointer (some ⟨b14,o15,none⟩)),(Value.slice x28a x28n x28c),(Value.int .i64 x26),(Value.agg #[.int .i64 x30_0,.int .u64 x30_1,.int .i64 x30_2]),(Value.slice (some ⟨h24.size,0,none⟩) 1 1),(Value.slice x37a x37n x37c),(Value.pointer (some ⟨b14,o15,none⟩)),(Value.pointer (some ⟨b14,o15,none⟩)),undef],rfl,(zH [0,1,2,3,4,5,6,7] rfl ⟨rfl,rfl,rfl,rfl,rfl,rfl,rfl,rfl,trivial⟩),?_⟩
    refine zA [11] (by decide) U (zw [0,9,10] U ⟨zb U U (zd (v:=.pointer (some ⟨b14,o15,none⟩)) e0 ⟨U,U⟩),zb U U (zj U ⟨U,U⟩),zb U U (zf U fo_236_0 ⟨U,U⟩),V⟩) U ⟨?_,V⟩
    obtain⟨h39,c38,H⟩:=H
    refine zb U U (zI (v:=.slice x37a x37n x37c) U U sz_107 U c38 ?_)
    refine⟨[(Value.pointer (some ⟨b14,o15,none⟩)),(Value.pointer (some ⟨b14,o15,none⟩)),(Value.pointer (some ⟨b14,o15,none⟩)),(Value.pointer (some ⟨b14,o15,none⟩)),(Value.slice x28a x28n x28c),(Value.int .i64 x26),(Value.agg #[.int .i64 x30_0,.int .u64 x30_1,.int .i64 x30_2]),(Value.slice (some ⟨h24.size,0,none⟩) 1 1),(Value.slice x37a x37n x37c),(Value.pointer (some ⟨b14,o15,none⟩)),(Value.pointer (some ⟨b14,o15,none⟩)),undef],rfl,(zH [0,1,2,3,4,5,6,7,8,9,10] rfl ⟨rfl,rfl,rfl,rfl,rfl,rfl,rfl,rfl,rfl,rfl,rfl,trivial⟩),?_⟩
    refine zJ U (zw [] U V) U ?_
    refine ze ?_
    refine zc U ?_
    refine za (zg (v:=.int .i64 0) U ?_)
    refine zh ?_
    refine zx ?_
    exact zv (zq U zu) H
def Gcc (p0:Option Addr) (p1:Int) (K:Int→Heap→Prop) (h:Heap):Prop:=
 CallsH PR Gli #[.pointer p0,.int .i64 p1] h (fun v h1=>∃ (x3:Int),v=(Value.int .i64 x3)∧(x3<0→K 6 h1)∧((¬ (x3<0))→∃ (b5:Nat) (o6:Nat),p0=some ⟨b5,o6,none⟩∧∃ (x8a:Option Addr) (x8n:Nat) (x8c:Nat),cellH h1 b5 o6=some (.slice x8a x8n x8c)∧(-9223372036854775808≤x3+1∧x3+1<9223372036854775808)∧CallsH PR Gn2 #[.slice x8a x8n x8c,.int .i64 x3,.int .i64 (x3+1)] h1 (fun v h11=>∃ (x13a:Option Addr) (x13n:Nat) (x13c:Nat),v=(Value.slice x13a x13n x13c)∧∃ (h15:Heap),stCells b5 h11 o6 [.slice x13a x13n x13c]=some h15∧K 0 h15)))
theorem Gcd (p0:Option Addr) (p1:Int) (R:Value→Heap→Prop) (h:Heap) (H:Gcc p0 p1 (fun r0 h'=>R (Value.int .i64 r0) h') h):CallsH PR Gl9 #[.pointer p0,.int .i64 p1] h R:=by
 refine zD (args:=[.pointer p0,.int .i64 p1]) Tryz.func137 U U ?_
 intro f hf
 have e0:=hf 0 _ rfl
 have e1:=hf 1 _ rfl
 clear hf
 unfold Gcc at H
 refine ze ?_
 refine zc U ?_
 refine za (zg (v:=.int .i64 0) U ?_)
 refine zh ?_
 refine ze ?_
 refine zc U ?_
 refine za (zd (v:=.pointer p0) e0 ?_)
 refine za (zd (v:=.int .i64 p1) e1 ?_)
 refine za (zG (vs:=[.pointer p0,.int .i64 p1]) en_128 (zm U (zm U zy)) (CallsH.mono H ?_))
 clear H
 rintro _ h1 ⟨x3,rfl,H⟩
 refine za (zg (v:=.int .i64 x3) U ?_)
 refine zh ?_
 refine ze ?_
 refine ze ?_
 refine zc U ?_
 refine za (zd (v:=.int .i64 x3) U ?_)
 refine za (zY U U ?_)
 refine zh ?_
 refine zz (decide (x3<0)) U ?_ ?_
 ·intro hb
  replace H:=H.1 (zo hb)
  refine ze ?_
  refine zc U ?_
  refine za (zg (v:=.int .i64 6) U ?_)
  refine zh ?_
  refine zx ?_
  exact zv (zq U zu) H
 ·intro hb
  replace H:=H.2 (zn hb)
  refine zC ?_
  refine ze ?_
  refine zc U ?_
  refine za (zd (v:=.pointer p0) e0 ?_)
  refine za (zd (v:=.pointer p0) e0 ?_)
  obtain⟨b5,o6,rfl,H⟩:=H
  refine za (zj U ?_)
  refine za (zf U fo_236_0 ?_)
  obtain⟨x8a,x8n,x8c,c9,H⟩:=H
  refine za (zk U ag_107 c9 ?_)
  refine za (zd (v:=.int .i64 x3) U ?_)
  refine za (zd (v:=.int .i64 x3) U ?_)
  obtain⟨c10,H⟩:=H
  refine za (yf U U (zU c10) ?_)
  refine za (zG (vs:=[.slice x8a x8n x8c,.int .i64 x3,.int .i64 (x3+1)]) en_176 (zm U (zm U (zm U zy))) (CallsH.mono H ?_))
  clear H
  rintro _ h11 ⟨x13a,x13n,x13c,rfl,H⟩
  refine za (zj U ?_)
  refine za (zf U fo_236_0 ?_)
  obtain⟨h15,c14,H⟩:=H
  refine za (zI (v:=.slice x13a x13n x13c) U U sz_107 U c14 ?_)
  refine zh ?_
  refine ze ?_
  refine zc U ?_
  refine za (zg (v:=.int .i64 0) U ?_)
  refine zh ?_
  refine zx ?_
  exact zv (zq U zu) H
def Gca (p0:Option Addr) (K:Option Addr→Nat→Nat→Heap→Prop) (h:Heap):Prop:=
 ∃ (b1:Nat) (o2:Nat),p0=some ⟨b1,o2,none⟩∧∃ (x4a:Option Addr) (x4n:Nat) (x4c:Nat),cellH h b1 o2=some (.slice x4a x4n x4c)∧CallsH PR Gmy #[.slice x4a x4n x4c] h (fun v h6=>∃ (x8a:Option Addr) (x8n:Nat) (x8c:Nat),v=(Value.slice x8a x8n x8c)∧K x8a x8n x8c h6)
theorem Gcb (p0:Option Addr) (R:Value→Heap→Prop) (h:Heap) (H:Gca p0 (fun r0a r0n r0c h'=>R (Value.slice r0a r0n r0c) h') h):CallsH PR Gl8 #[.pointer p0] h R:=by
 refine zD (args:=[.pointer p0]) Tryz.func67 U U ?_
 intro f hf
 have e0:=hf 0 _ rfl
 clear hf
 unfold Gca at H
 refine ze ?_
 refine zc U ?_
 refine za (zg (v:=.slice none 0 0) U ?_)
 refine zh ?_
 refine ze ?_
 refine zc U ?_
 refine za (zd (v:=.pointer p0) e0 ?_)
 obtain⟨b1,o2,rfl,H⟩:=H
 refine za (zj U ?_)
 refine za (zf U fo_236_0 ?_)
 obtain⟨x4a,x4n,x4c,c5,H⟩:=H
 refine za (zk U ag_107 c5 ?_)
 refine za (zG (vs:=[.slice x4a x4n x4c]) en_124 (zm U zy) (CallsH.mono H ?_))
 clear H
 rintro _ h6 ⟨x8a,x8n,x8c,rfl,H⟩
 refine za (zg (v:=.slice x8a x8n x8c) U ?_)
 refine zh ?_
 refine zx ?_
 exact zv (zq U zu) H
def Ggh:Cert:=⟨[[],[],[1],[1,2],[1,2,3],[1,2,3,4],[0,1,2,3,4,5],[0,1,2,3,4,5,6],[0,1,2,3,4,5,6,7],[0,1,2,3,4,5,6,7,8],[0,1,2,3,4,5,6,7,8,9],[0,1,2,3,4,5,6,7,8,9,10],[0,1,2,3,4,5,6,7],[0,1,2,3,4,5,6,7,8,9,10,11,12],[0,1,2,3,4,5,6,7,8,9,10,11,12,13],[0,1,2,3,4,5,6,7,8,9,10,11,12,13,14],[0,1,2,3,4,5,6,7],[0,1,2,3,4,5,6,7,16],[0,1,2,3,4,5,6,7,16,17],[0,1,2,3,4,5,6,7,16,17,18],[0,1,2,3,4,5,6,7,16,17,18,19],[0,1,2,3,4,5,6,7,16,17,18,19,20],[0,1,2,3,4,5,6,7,16,17,18,19,20,21],[0,1,2,3,4,5,6,7,8,9,10,11,12,13,14,15,16,17,18,19,20,21,22],[0,1,2,3,4,5,6,7,8,9,10,11,12,13,14,15,16,17,18,19,20,21,22,23]],[false,false,false,false,false,false,false,false,false,false,false,false,false,false,false,false,false,false,false,false,false,false,false,false,false]⟩
def Gco (p0:Option Addr) (K:Option Addr→Nat→Nat→Heap→Prop) (h:Heap):Prop:=
 ∃ (I2:Int→Heap→Prop) (mu3:Int→Heap→Nat),I2 0 h∧∀ (x1:Int) (h5:Heap),I2 x1 h5→∃ (b6:Nat) (o7:Nat),p0=some ⟨b6,o7,none⟩∧∃ (x9a:Option Addr) (x9n:Nat) (x9c:Nat),cellH h5 b6 o7=some (.slice x9a x9n x9c)∧∃ (x12a:Option Addr) (x12n:Nat) (x12c:Nat),((x1<(x9n:Int))→cellH h5 b6 o7=some (.slice x12a x12n x12c))∧∃ (b15:Nat) (o16:Nat),((x1<(x9n:Int))→x12a=some ⟨b15,o16,none⟩)∧((x1<(x9n:Int))→0≤x1∧x1<(x12n:Int))∧∃ (x18:Int),((x1<(x9n:Int))→cellH h5 b15 (o16+x1.toNat * 3+1)=some (.int .u64 x18))∧∃ (x20a:Option Addr) (x20n:Nat) (x20c:Nat),((x1<(x9n:Int))→cellH h5 b6 o7=some (.slice x20a x20n x20c))∧∃ (b23:Nat) (o24:Nat),((x1<(x9n:Int))→x20a=some ⟨b23,o24,none⟩)∧((x1<(x9n:Int))→0≤(0:Int)∧(0:Int)<(x20n:Int))∧∃ (x26:Int),((x1<(x9n:Int))→cellH h5 b23 (o24+1)=some (.int .u64 x26))∧(((decide (x1<(x9n:Int))) && (decide (x18=x26)))=true→(-9223372036854775808≤x1+1∧x1+1<9223372036854775808)∧(I2 (x1+1) h5∧mu3 (x1+1) h5<mu3 x1 h5))∧(((decide (x1<(x9n:Int))) && (decide (x18=x26)))=false→∃ (x30a:Option Addr) (x30n:Nat) (x30c:Nat),cellH h5 b6 o7=some (.slice x30a x30n x30c)∧∃ (n32:Nat),x1=(n32:Int)∧∃ (n34:Nat),x1=(n34:Int)∧(0≤n32∧n32≤n34∧n34≤x30c)∧K (cutA x30a 0 n34 3) n32 n34 h5)
theorem Gcp (p0:Option Addr) (R:Value→Heap→Prop) (h:Heap) (H:Gco p0 (fun r0a r0n r0c h'=>R (Value.slice r0a r0n r0c) h') h):CallsH PR Glg #[.pointer p0] h R:=by
 refine zD (args:=[.pointer p0]) Tryz.func172 U U ?_
 intro f hf
 have e0:=hf 0 _ rfl
 clear hf
 unfold Gco at H
 refine ze ?_
 refine zc U ?_
 refine za (zg (v:=.slice none 0 0) U ?_)
 refine zh ?_
 refine ze ?_
 refine zc U ?_
 refine za (zg (v:=.int .i64 0) U ?_)
 refine zh ?_
 refine ze ?_
 refine zK ?_
 obtain⟨I2,mu3,hI,H⟩:=H
 obtain⟨I4,mu4,hin4,hout4,hmu4⟩ : ∃ (J4:Fr→Heap→Prop) (m:Fr→Heap→Nat),(∀ f hz (x1:Int),f 3 = .int .i64 x1→f 0 = .pointer p0→I2 x1 hz→J4 f hz)∧(∀ f hz,J4 f hz→∃ (x1:Int),f 3 = .int .i64 x1∧f 0 = .pointer p0∧I2 x1 hz)∧(∀ f hz (x1:Int),f 3 = .int .i64 x1→m f hz=mu3 x1 hz):=⟨fun f hz=>∃ (x1:Int),f 3 = .int .i64 x1∧f 0 = .pointer p0∧I2 x1 hz,fun f hz=>mu3 (dInt (f 3)) hz,fun _ _ x1 a0 a1 z=>⟨x1,a0,a1,z⟩,fun _ _ hz=>hz,fun f hz x1 a0=>by simp only [a0]; rfl⟩
 refine yb I4 mu4 (hin4 _ _ _ U e0 hI) ?_
 clear hI
 intro f h5 hf
 obtain⟨x1,a4_0,a4_1,hJ⟩:=hout4 _ _ hf
 replace H:=H x1 h5 hJ
 refine ze ?_
 refine ze ?_
 obtain⟨b6,o7,rfl,H⟩:=H
 obtain⟨x9a,x9n,x9c,c10,H⟩:=H
 obtain⟨x12a,x12n,x12c,c13,H⟩:=H
 obtain⟨b15,o16,c17,H⟩:=H
 obtain⟨c14,H⟩:=H
 obtain⟨x18,c19,H⟩:=H
 obtain⟨x20a,x20n,x20c,c21,H⟩:=H
 obtain⟨b23,o24,c25,H⟩:=H
 obtain⟨c22,H⟩:=H
 obtain⟨x26,c27,H⟩:=H
 refine zO Ggh 0 [(Z .i64 x1),(Y (some ⟨b6,o7,none⟩)),(Y (some ⟨b6,o7,none⟩)),(Y (some ⟨b6,o7,none⟩)),(T x9a x9n x9c),(Z .i64 (x9n:Int)),(W (decide (x1<(x9n:Int)))),(W (decide (x1<(x9n:Int)))),(bif decide (x1<(x9n:Int)) then (Y (some ⟨b6,o7,none⟩)) else undef),(bif decide (x1<(x9n:Int)) then (Y (some ⟨b6,o7,none⟩)) else undef),(bif decide (x1<(x9n:Int)) then (Y (some ⟨b6,o7,none⟩)) else undef),(bif decide (x1<(x9n:Int)) then (T x12a x12n x12c) else undef),(bif decide (x1<(x9n:Int)) then (Z .i64 x1) else undef),(bif decide (x1<(x9n:Int)) then (Y (some ⟨b15,o16+x1.toNat * 3,none⟩)) else undef),(bif decide (x1<(x9n:Int)) then (Y (some ⟨b15,o16+x1.toNat * 3+1,none⟩)) else undef),(bif decide (x1<(x9n:Int)) then (Z .u64 x18) else undef),(bif decide (x1<(x9n:Int)) then (Y (some ⟨b6,o7,none⟩)) else undef),(bif decide (x1<(x9n:Int)) then (Y (some ⟨b6,o7,none⟩)) else undef),(bif decide (x1<(x9n:Int)) then (Y (some ⟨b6,o7,none⟩)) else undef),(bif decide (x1<(x9n:Int)) then (T x20a x20n x20c) else undef),(bif decide (x1<(x9n:Int)) then (Y (some ⟨b23,o24,none⟩)) else undef),(bif decide (x1<(x9n:Int)) then (Y (some ⟨b23,o24+1,none⟩)) else undef),(bif decide (x1<(x9n:Int)) then (Z .u64 x26) else undef),(bif decide (x1<(x9n:Int)) then (W (decide (x18=x26))) else undef),(W ((decide (x1<(x9n:Int))) && (decide (x18=x26))))] (by kernel_rfl) U mixed_PR ?_
 refine zJ U (zw [0,1,2,3,4,5,6,7,8,9,10,11,12,13,14,15,16,17,18,19,20,21,22,23,24] U ⟨zb U U (zd (v:=.int .i64 x1) a4_0 ⟨U,U⟩),zb U U (zd (v:=.pointer (some ⟨b6,o7,none⟩)) a4_1 ⟨U,U⟩),zb U U (zj U ⟨U,U⟩),zb U U (zf U fo_236_0 ⟨U,U⟩),zb U U (zk U ag_107 c10 ⟨U,U⟩),zb U U (zN U un_107 ⟨U,U⟩),zb U U (zY U U ⟨U,U⟩),zb U U (zd (v:=.bool (decide (x1<(x9n:Int)))) U ⟨U,U⟩),zr (b:=decide (x1<(x9n:Int))) U U (zi U U) (fun hb=>zd (v:=.pointer (some ⟨b6,o7,none⟩)) a4_1 ⟨zs hb,U⟩) (fun hb=>⟨zp hb,U⟩),zr (b:=decide (x1<(x9n:Int))) U U (zi U U) (fun hb=>zj (gv hb) ⟨zs hb,U⟩) (fun hb=>⟨zp hb,U⟩),zr (b:=decide (x1<(x9n:Int))) U U (zi U U) (fun hb=>zf (gv hb) fo_236_0 ⟨zs hb,U⟩) (fun hb=>⟨zp hb,U⟩),zr (b:=decide (x1<(x9n:Int))) U U (zi U U) (fun hb=>zk (gv hb) ag_107 (c13 (zo hb)) ⟨zs hb,U⟩) (fun hb=>⟨zp hb,U⟩),zr (b:=decide (x1<(x9n:Int))) U U (zi U U) (fun hb=>zd (v:=.int .i64 x1) a4_0 ⟨zs hb,U⟩) (fun hb=>⟨zp hb,U⟩),zr (b:=decide (x1<(x9n:Int))) U U (zi U U) (fun hb=>zE (Eq.trans (gv hb) (congrArg (fun a=>T a x12n x12c) (c17 (zo hb)))) (gv hb) ei_107 (c14 (zo hb)) ⟨zs hb,U⟩) (fun hb=>⟨zp hb,U⟩),zr (b:=decide (x1<(x9n:Int))) U U (zi U U) (fun hb=>zf (gv hb) fo_148_1 ⟨zs hb,U⟩) (fun hb=>⟨zp hb,U⟩),zr (b:=decide (x1<(x9n:Int))) U U (zi U U) (fun hb=>zk (gv hb) ag_37 (c19 (zo hb)) ⟨zs hb,U⟩) (fun hb=>⟨zp hb,U⟩),zr (b:=decide (x1<(x9n:Int))) U U (zi U U) (fun hb=>zd (v:=.pointer (some ⟨b6,o7,none⟩)) a4_1 ⟨zs hb,U⟩) (fun hb=>⟨zp hb,U⟩),zr (b:=decide (x1<(x9n:Int))) U U (zi U U) (fun hb=>zj (gv hb) ⟨zs hb,U⟩) (fun hb=>⟨zp hb,U⟩),zr (b:=decide (x1<(x9n:Int))) U U (zi U U) (fun hb=>zf (gv hb) fo_236_0 ⟨zs hb,U⟩) (fun hb=>⟨zp hb,U⟩),zr (b:=decide (x1<(x9n:Int))) U U (zi U U) (fun hb=>zk (gv hb) ag_107 (c21 (zo hb)) ⟨zs hb,U⟩) (fun hb=>⟨zp hb,U⟩),zr (b:=decide (x1<(x9n:Int))) U U (zi U U) (fun hb=>zE (Eq.trans (gv hb) (congrArg (fun a=>T a x20n x20c) (c25 (zo hb)))) U ei_107 (c22 (zo hb)) ⟨zs hb,U⟩) (fun hb=>⟨zp hb,U⟩),zr (b:=decide (x1<(x9n:Int))) U U (zi U U) (fun hb=>zf (gv hb) fo_148_1 ⟨zs hb,U⟩) (fun hb=>⟨zp hb,U⟩),zr (b:=decide (x1<(x9n:Int))) U U (zi U U) (fun hb=>zk (gv hb) ag_37 (c27 (zo hb)) ⟨zs hb,U⟩) (fun hb=>⟨zp hb,U⟩),zr (b:=decide (x1<(x9n:Int))) U U (zi U U) (fun hb=>op_eql (gv hb) (gv hb) ⟨zs hb,U⟩) (fun hb=>⟨zp hb,U⟩),zb U U (zV U (fun hq=>(gv hq)) U ⟨U,U⟩),V⟩) U ?_
 refine zz ((decide (x1<(x9n:Int))) && (decide (x18=x26))) U ?_ ?_
 ·intro hb
  replace H:=H.1 hb
  refine zC ?_
  refine zK ?_
  refine zc U ?_
  refine za (zd (v:=.int .i64 x1) a4_0 ?_)
  obtain⟨c29,H⟩:=H
  refine za (yf U U (zU c29) ?_)
  refine za (zg (v:=.int .i64 (x1+1)) U ?_)
  refine zh ?_
  exact And.intro (hin4 _ _ _ rfl a4_1 H.1) (yk (hmu4 _ _ _ rfl) (hmu4 _ _ _ a4_0) H.2)
 ·intro hb
  replace H:=H.2 hb
  refine ya ?_
  refine ze ?_
  refine zc U ?_
  refine za (zd (v:=.pointer (some ⟨b6,o7,none⟩)) a4_1 ?_)
  refine za (zj U ?_)
  refine za (zf U fo_236_0 ?_)
  obtain⟨x30a,x30n,x30c,c31,H⟩:=H
  refine za (zk U ag_107 c31 ?_)
  refine za (zd (v:=.int .i64 x1) a4_0 ?_)
  refine za (zd (v:=.int .i64 x1) a4_0 ?_)
  obtain⟨n32,c33,H⟩:=H
  obtain⟨n34,c35,H⟩:=H
  obtain⟨c36,H⟩:=H
  refine za (yc ei_107 U U ⟨_,Eq.trans U (congrArg (Z .i64) c33)⟩ ⟨_,Eq.trans U (congrArg (Z .i64) c35)⟩ (.inr U) c36.1 c36.2.1 c36.2.2 ?_)
  refine za (zg (v:=.slice (cutA x30a 0 n34 3) n32 n34) U ?_)
  refine zh ?_
  refine zx ?_
  exact zv (zq U zu) H
def Gci (p0:Option Addr) (p1a:Option Addr) (p1n:Nat) (p1c:Nat) (K:Int→Int→Int→Bool→Heap→Prop) (h:Heap):Prop:=
 ∀ (h1:Heap),h1=h.push (.cells #[.pointer p0] 150 (0,0))→∀ (h3:Heap),h3=h1.push (.cells #[.int .i64 0,.int .u64 0,.int .i64 0] 148 (0,0))→CallsH PR Gn4 #[.slice p1a p1n p1c,(Value.func (.func Gle) #[] #[.pointer (some ⟨h.size,0,none⟩)])] h3 (fun v h5=>∃ (x7:Int),v=(Value.int .i64 x7)∧(x7<0→∃ (h10:Heap),stCells h1.size h5 0 [.int .i64 0,.int .u64 0,.int .i64 0]=some h10∧∃ (x11_0:Int) (x11_1:Int) (x11_2:Int),ldCells h10 h1.size 0 3=some [.int .i64 x11_0,.int .u64 x11_1,.int .i64 x11_2]∧K x11_0 x11_1 x11_2 false h10)∧((¬ (x7<0))→∃ (b14:Nat) (o15:Nat),p1a=some ⟨b14,o15,none⟩∧(0≤x7∧x7<(p1n:Int))∧∃ (x17_0:Int) (x17_1:Int) (x17_2:Int),ldCells h5 b14 (o15+x7.toNat * 3) 3=some [.int .i64 x17_0,.int .u64 x17_1,.int .i64 x17_2]∧∃ (h20:Heap),stCells h1.size h5 0 [.int .i64 x17_0,.int .u64 x17_1,.int .i64 x17_2]=some h20∧∃ (x21_0:Int) (x21_1:Int) (x21_2:Int),ldCells h20 h1.size 0 3=some [.int .i64 x21_0,.int .u64 x21_1,.int .i64 x21_2]∧K x21_0 x21_1 x21_2 true h20))
theorem Gcl (p0:Option Addr) (p1a:Option Addr) (p1n:Nat) (p1c:Nat) (R:Value→Heap→Prop) (h:Heap) (H:Gci p0 p1a p1n p1c (fun r0_0 r0_1 r0_2 r1 h'=>R (Value.tuple #[.agg #[.int .i64 r0_0,.int .u64 r0_1,.int .i64 r0_2],.bool r1]) h') h):CallsH PR Gld #[.pointer p0,.slice p1a p1n p1c] h R:=by
 refine zD (args:=[.pointer p0,.slice p1a p1n p1c]) Tryz.func173 U U ?_
 intro f hf
 have e0:=hf 0 _ rfl
 have e1:=hf 1 _ rfl
 clear hf
 unfold Gci at H
 refine ze ?_
 refine zc U ?_
 obtain⟨h1,c2⟩ : ∃ h1,h1=h.push (.cells #[.pointer p0] 150 (0,0)):=⟨_,rfl⟩
 replace H:=H h1 c2
 refine za (yd (v:=.pointer p0) e0 c2 ?_)
 obtain⟨h3,c4⟩ : ∃ h3,h3=h1.push (.cells #[.int .i64 0,.int .u64 0,.int .i64 0] 148 (0,0)):=⟨_,rfl⟩
 replace H:=H h3 c4
 refine za (zW z_148 c4 ?_)
 refine za (zg (v:=.bool false) U ?_)
 refine zh ?_
 refine ze ?_
 refine zc U ?_
 refine za (zd (v:=.slice p1a p1n p1c) e1 ?_)
 refine za (yl (cs:=[.pointer (some ⟨h.size,0,none⟩)]) (zm U zy) ?_)
 refine za (zG (vs:=[.slice p1a p1n p1c,(Value.func (.func Gle) #[] #[.pointer (some ⟨h.size,0,none⟩)])]) en_165 (zm U (zm U zy)) (CallsH.mono H ?_))
 clear H
 rintro _ h5 ⟨x7,rfl,H⟩
 refine za (zg (v:=.int .i64 x7) U ?_)
 refine zh ?_
 refine ze ?_
 refine ze ?_
 refine zc U ?_
 refine za (zd (v:=.int .i64 x7) U ?_)
 refine za (zY U U ?_)
 refine zh ?_
 refine zz (decide (x7<0)) U ?_ ?_
 ·intro hb
  replace H:=H.1 (zo hb)
  refine ze ?_
  refine zc U ?_
  refine za (zX (vs:=[]) (cs:=#[.int .i64 0,.int .u64 0,.int .i64 0]) z_148 fs_148 zT U ?_)
  obtain⟨h10,c9,H⟩:=H
  refine za (zI (v:=.agg #[.int .i64 0,.int .u64 0,.int .i64 0]) U U sz_148 U c9 ?_)
  refine za (zg (v:=.bool false) U ?_)
  refine zh ?_
  refine zx ?_
  obtain⟨x11_0,x11_1,x11_2,c12,H⟩:=H
  exact zv (ye U ag_148 c12 (zq U zu)) H
 ·intro hb
  replace H:=H.2 (zn hb)
  refine zC ?_
  refine ze ?_
  refine zc U ?_
  refine za (zd (v:=.slice p1a p1n p1c) e1 ?_)
  refine za (zd (v:=.int .i64 x7) U ?_)
  obtain⟨b14,o15,rfl,H⟩:=H
  obtain⟨c13,H⟩:=H
  refine za (zE U U ei_107 c13 ?_)
  obtain⟨x17_0,x17_1,x17_2,c18,H⟩:=H
  refine za (zS U ag_148 c18 ?_)
  obtain⟨h20,c19,H⟩:=H
  refine za (zI (v:=.agg #[.int .i64 x17_0,.int .u64 x17_1,.int .i64 x17_2]) U U sz_148 U c19 ?_)
  refine za (zg (v:=.bool true) U ?_)
  refine zh ?_
  refine zx ?_
  obtain⟨x21_0,x21_1,x21_2,c22,H⟩:=H
  exact zv (ye U ag_148 c22 (zq U zu)) H
def Gge:Cert:=⟨[[],[0],[],[2],[2,3],[2,3,4],[0,1,2,3,4,5],[0,1,2,3,4,5,6]],[false,false,false,false,false,false,false,false]⟩
def Gcj (p0_0:Int) (p0_1:Int) (p0_2:Int) (q0:Option Addr) (K:Bool→Heap→Prop) (h:Heap):Prop:=
 ∀ (h1:Heap),h1=h.push (.cells #[.int .i64 p0_0,.int .u64 p0_1,.int .i64 p0_2] 148 (0,0))→∃ (x3:Int),cellH h1 h.size 2=some (.int .i64 x3)∧∃ (b5:Nat) (o6:Nat),q0=some ⟨b5,o6,none⟩∧∃ (x8:Option Addr),cellH h1 b5 o6=some (.pointer x8)∧∃ (b10:Nat) (o11:Nat),x8=some ⟨b10,o11,none⟩∧∃ (x13:Int),cellH h1 b10 (o11+1)=some (.int .i64 x13)∧K (decide (x13≤x3)) h1
theorem Gck (p0_0:Int) (p0_1:Int) (p0_2:Int) (q0:Option Addr) (R:Value→Heap→Prop) (h:Heap) (H:Gcj p0_0 p0_1 p0_2 q0 (fun r0 h'=>R (Value.bool r0) h') h):CallsH PR Gle #[.agg #[.int .i64 p0_0,.int .u64 p0_1,.int .i64 p0_2],.pointer q0] h R:=by
 refine zD (args:=[.agg #[.int .i64 p0_0,.int .u64 p0_1,.int .i64 p0_2],.pointer q0]) Tryz.func192 U U ?_
 intro f hf
 have e0:=hf 0 _ rfl
 have e1:=hf 1 _ rfl
 clear hf
 unfold Gcj at H
 refine ze ?_
 refine zc U ?_
 obtain⟨h1,c2⟩ : ∃ h1,h1=h.push (.cells #[.int .i64 p0_0,.int .u64 p0_1,.int .i64 p0_2] 148 (0,0)):=⟨_,rfl⟩
 replace H:=H h1 c2
 refine za (yd (v:=.agg #[.int .i64 p0_0,.int .u64 p0_1,.int .i64 p0_2]) e0 c2 ?_)
 refine za (zg (v:=.bool false) U ?_)
 refine zh ?_
 refine ze ?_
 obtain⟨x3,c4,H⟩:=H
 obtain⟨b5,o6,rfl,H⟩:=H
 obtain⟨x8,c9,H⟩:=H
 obtain⟨b10,o11,rfl,H⟩:=H
 obtain⟨x13,c14,H⟩:=H
 refine zO Gge 0 [(Y (some ⟨h.size,2,none⟩)),(Z .i64 x3),(Y (some ⟨b10,o11,none⟩)),(Y (some ⟨b10,o11,none⟩)),(Y (some ⟨b10,o11+1,none⟩)),(Z .i64 x13),(W (decide (x13≤x3))),(W (decide (x13≤x3)))] (by kernel_rfl) U mixed_PR ?_
 refine zJ U (zw [0,1,2,3,4,5,6,7] U ⟨zb U U (zf U fo_148_2 ⟨U,U⟩),zb U U (zk U ag_3 c4 ⟨U,U⟩),zb U U (zk e1 ag_150 c9 ⟨U,U⟩),zb U U (zj U ⟨U,U⟩),zb U U (zf U fo_236_1 ⟨U,U⟩),zb U U (zk U ag_3 c14 ⟨U,U⟩),zb U U (op_geq U U ⟨U,U⟩),zb U U (zg (v:=.bool (decide (x13≤x3))) U ⟨U,U⟩),V⟩) U ?_
 refine zx ?_
 exact zv (zq U zu) H
def Ggf:Cert:=⟨[[],[0],[],[2],[2,3],[2,3,4],[0,1,2,3,4,5],[0,1,2,3,4,5,6],[0,1,2,3,4,5,6,7],[0,1,2,3,4,5,6,7,8],[0,1,2,3,4,5,6,7],[0,1,2,3,4,5,6,7,10],[0,1,2,3,4,5,6,7,8,9,10,11],[0,1,2,3,4,5,6,7,8,9,10,11,12]],[false,false,false,false,false,false,false,false,false,false,false,false,false,false]⟩
def Ggg:Cert:=⟨[[],[],[1],[1,2],[0],[0,1,2,3,4]],[false,false,false,false,true,false]⟩
def Gcm (p0:Option Addr) (p1a:Option Addr) (p1n:Nat) (p1c:Nat) (K:Int→Int→Int→Bool→Heap→Prop) (h:Heap):Prop:=
 ∀ (h1:Heap),h1=h.push (.cells #[.int .i64 0,.int .u64 0,.int .i64 0] 148 (0,0))→∀ (h3:Heap),h3=h1.push (.cells #[.int .i64 0,.int .u64 0,.int .i64 0] 148 (0,0))→∃ (h6:Heap),stCells h1.size h3 0 [.int .i64 0,.int .u64 0,.int .i64 (-1)]=some h6∧∃ (I8:Int→Heap→Prop) (mu9:Int→Heap→Nat),I8 0 h6∧∀ (x7:Int) (h11:Heap),I8 x7 h11→(x7<(p1n:Int)→∃ J13:Heap→Prop,(∀ (h15:Heap),J13 h15→(-9223372036854775808≤x7+1∧x7+1<9223372036854775808)∧(I8 (x7+1) h15∧mu9 (x7+1) h15<mu9 x7 h11))∧∃ (b18:Nat) (o19:Nat),p1a=some ⟨b18,o19,none⟩∧(0≤x7∧x7<(p1n:Int))∧∃ (x21_0:Int) (x21_1:Int) (x21_2:Int),ldCells h11 b18 (o19+x7.toNat * 3) 3=some [.int .i64 x21_0,.int .u64 x21_1,.int .i64 x21_2]∧∀ (h23:Heap),h23=h11.push (.cells #[.int .i64 0,.int .u64 0,.int .i64 0] 148 (0,0))→∃ (h26:Heap),stCells h11.size h23 0 [.int .i64 x21_0,.int .u64 x21_1,.int .i64 x21_2]=some h26∧∃ (x27:Int),cellH h26 h11.size 2=some (.int .i64 x27)∧∃ (b29:Nat) (o30:Nat),p0=some ⟨b29,o30,none⟩∧∃ (x32:Int),cellH h26 b29 (o30+1)=some (.int .i64 x32)∧∃ (x35:Int),((x27≤x32)→cellH h26 h11.size 2=some (.int .i64 x35))∧∃ (x37:Int),((x27≤x32)→cellH h26 h1.size 2=some (.int .i64 x37))∧(((decide (x27≤x32)) && (decide (x37<x35)))=true→∃ (x40_0:Int) (x40_1:Int) (x40_2:Int),ldCells h26 h11.size 0 3=some [.int .i64 x40_0,.int .u64 x40_1,.int .i64 x40_2]∧∃ (h43:Heap),stCells h1.size h26 0 [.int .i64 x40_0,.int .u64 x40_1,.int .i64 x40_2]=some h43∧J13 h43)∧(((decide (x27≤x32)) && (decide (x37<x35)))=false→J13 h26))∧((¬ (x7<(p1n:Int)))→∃ (x44_0:Int) (x44_1:Int) (x44_2:Int),ldCells h11 h1.size 0 3=some [.int .i64 x44_0,.int .u64 x44_1,.int .i64 x44_2]∧∃ (x46:Int),cellH h11 h1.size 2=some (.int .i64 x46)∧∃ (h50:Heap),stCells h.size h11 0 [.int .i64 x44_0,.int .u64 x44_1,.int .i64 x44_2]=some h50∧cellH h50 h1.size 2=some (Value.int .i64 x46)∧∃ (x52_0:Int) (x52_1:Int) (x52_2:Int),ldCells h50 h.size 0 3=some [.int .i64 x52_0,.int .u64 x52_1,.int .i64 x52_2]∧K x52_0 x52_1 x52_2 (decide (0≤x46)) h50)
theorem Gcn (p0:Option Addr) (p1a:Option Addr) (p1n:Nat) (p1c:Nat) (R:Value→Heap→Prop) (h:Heap) (H:Gcm p0 p1a p1n p1c (fun r0_0 r0_1 r0_2 r1 h'=>R (Value.tuple #[.agg #[.int .i64 r0_0,.int .u64 r0_1,.int .i64 r0_2],.bool r1]) h') h):CallsH PR Glf #[.pointer p0,.slice p1a p1n p1c] h R:=by
 refine zD (args:=[.pointer p0,.slice p1a p1n p1c]) Tryz.func174 U U ?_
 intro f hf
 have e0:=hf 0 _ rfl
 have e1:=hf 1 _ rfl
 clear hf
 unfold Gcm at H
 refine ze ?_
 refine zc U ?_
 obtain⟨h1,c2⟩ : ∃ h1,h1=h.push (.cells #[.int .i64 0,.int .u64 0,.int .i64 0] 148 (0,0)):=⟨_,rfl⟩
 replace H:=H h1 c2
 refine za (zW z_148 c2 ?_)
 refine za (zg (v:=.bool false) U ?_)
 refine zh ?_
 refine ze ?_
 refine zc U ?_
 refine za (zX (vs:=[(2,.int .i64 (-1))]) (cs:=#[.int .i64 0,.int .u64 0,.int .i64 (-1)]) z_148 fs_148 (zM U zT) U ?_)
 obtain⟨h3,c4⟩ : ∃ h3,h3=h1.push (.cells #[.int .i64 0,.int .u64 0,.int .i64 0] 148 (0,0)):=⟨_,rfl⟩
 replace H:=H h3 c4
 refine za (zW z_148 c4 ?_)
 obtain⟨h6,c5,H⟩:=H
 refine za (zI (v:=.agg #[.int .i64 0,.int .u64 0,.int .i64 (-1)]) U U sz_148 U c5 ?_)
 refine zh ?_
 refine ze ?_
 refine ze ?_
 refine zc U ?_
 refine za (zd (v:=.slice p1a p1n p1c) e1 ?_)
 refine za (zN U un_107 ?_)
 refine za (zd (v:=.int .i64 0) U ?_)
 refine zh ?_
 refine zK ?_
 obtain⟨I8,mu9,hI,H⟩:=H
 obtain⟨I10,mu10,hin10,hout10,hmu10⟩ : ∃ (J10:Fr→Heap→Prop) (m:Fr→Heap→Nat),(∀ f hz (x7:Int),f 12 = .int .i64 x7→f 0 = .pointer p0→f 4 = .pointer (some ⟨h.size,0,none⟩)→f 6 = .pointer (some ⟨h1.size,0,none⟩)→f 10 = .slice p1a p1n p1c→f 11 = .int .i64 (p1n:Int)→I8 x7 hz→J10 f hz)∧(∀ f hz,J10 f hz→∃ (x7:Int),f 12 = .int .i64 x7∧f 0 = .pointer p0∧f 4 = .pointer (some ⟨h.size,0,none⟩)∧f 6 = .pointer (some ⟨h1.size,0,none⟩)∧f 10 = .slice p1a p1n p1c∧f 11 = .int .i64 (p1n:Int)∧I8 x7 hz)∧(∀ f hz (x7:Int),f 12 = .int .i64 x7→m f hz=mu9 x7 hz):=⟨fun f hz=>∃ (x7:Int),f 12 = .int .i64 x7∧f 0 = .pointer p0∧f 4 = .pointer (some ⟨h.size,0,none⟩)∧f 6 = .pointer (some ⟨h1.size,0,none⟩)∧f 10 = .slice p1a p1n p1c∧f 11 = .int .i64 (p1n:Int)∧I8 x7 hz,fun f hz=>mu9 (dInt (f 12)) hz,fun _ _ x7 a0 a1 a2 a3 a4 a5 z=>⟨x7,a0,a1,a2,a3,a4,a5,z⟩,fun _ _ hz=>hz,fun f hz x7 a0=>by simp only [a0]; rfl⟩
 refine yb I10 mu10 (hin10 _ _ _ U e0 U U U U hI) ?_
 clear hI
 intro f h11 hf
 obtain⟨x7,a10_0,a10_1,a10_2,a10_3,a10_4,a10_5,hJ⟩:=hout10 _ _ hf
 replace H:=H x7 h11 hJ
 refine ze ?_
 refine zc U ?_
 refine za (zY a10_0 a10_5 ?_)
 refine zh ?_
 refine ze ?_
 refine zz (decide (x7<(p1n:Int))) U ?_ ?_
 ·intro hb
  replace H:=H.1 (zo hb)
  refine zC ?_
  obtain⟨J13,HR,H⟩:=H
  obtain⟨J14,hin14,hout14⟩ : ∃ J14:Fr→Heap→Prop,(∀ f hz,f 0 = .pointer p0→f 4 = .pointer (some ⟨h.size,0,none⟩)→f 6 = .pointer (some ⟨h1.size,0,none⟩)→f 10 = .slice p1a p1n p1c→f 11 = .int .i64 (p1n:Int)→f 12 = .int .i64 x7→J13 hz→J14 f hz)∧(∀ f hz,J14 f hz→f 0 = .pointer p0∧f 4 = .pointer (some ⟨h.size,0,none⟩)∧f 6 = .pointer (some ⟨h1.size,0,none⟩)∧f 10 = .slice p1a p1n p1c∧f 11 = .int .i64 (p1n:Int)∧f 12 = .int .i64 x7∧J13 hz):=⟨fun f hz=>f 0 = .pointer p0∧f 4 = .pointer (some ⟨h.size,0,none⟩)∧f 6 = .pointer (some ⟨h1.size,0,none⟩)∧f 10 = .slice p1a p1n p1c∧f 11 = .int .i64 (p1n:Int)∧f 12 = .int .i64 x7∧J13 hz,fun _ _ a0 a1 a2 a3 a4 a5 z=>⟨a0,a1,a2,a3,a4,a5,z⟩,fun _ _ hz=>hz⟩
  refine ym J14 ?_ ?_
  ·skip
   refine zK ?_
   refine ze ?_
   refine zc U ?_
   obtain⟨b18,o19,rfl,H⟩:=H
   obtain⟨c17,H⟩:=H
   refine za (zE a10_4 a10_0 ei_107 c17 ?_)
   obtain⟨x21_0,x21_1,x21_2,c22,H⟩:=H
   refine za (zS U ag_148 c22 ?_)
   obtain⟨h23,c24⟩ : ∃ h23,h23=h11.push (.cells #[.int .i64 0,.int .u64 0,.int .i64 0] 148 (0,0)):=⟨_,rfl⟩
   replace H:=H h23 c24
   refine za (zW z_148 c24 ?_)
   obtain⟨h26,c25,H⟩:=H
   refine za (zI (v:=.agg #[.int .i64 x21_0,.int .u64 x21_1,.int .i64 x21_2]) U U sz_148 U c25 ?_)
   refine zh ?_
   refine ze ?_
   obtain⟨x27,c28,H⟩:=H
   obtain⟨b29,o30,rfl,H⟩:=H
   obtain⟨x32,c33,H⟩:=H
   obtain⟨x35,c36,H⟩:=H
   obtain⟨x37,c38,H⟩:=H
   refine zO Ggf 0 [(Y (some ⟨h11.size,2,none⟩)),(Z .i64 x27),(Y (some ⟨b29,o30,none⟩)),(Y (some ⟨b29,o30,none⟩)),(Y (some ⟨b29,o30+1,none⟩)),(Z .i64 x32),(W (decide (x27≤x32))),(W (decide (x27≤x32))),(bif decide (x27≤x32) then (Y (some ⟨h11.size,2,none⟩)) else undef),(bif decide (x27≤x32) then (Z .i64 x35) else undef),(bif decide (x27≤x32) then (Y (some ⟨h1.size,2,none⟩)) else undef),(bif decide (x27≤x32) then (Z .i64 x37) else undef),(bif decide (x27≤x32) then (W (decide (x37<x35))) else undef),(W ((decide (x27≤x32)) && (decide (x37<x35))))] (by kernel_rfl) U mixed_PR ?_
   refine zJ U (zw [0,1,2,3,4,5,6,7,8,9,10,11,12,13] U ⟨zb U U (zf U fo_148_2 ⟨U,U⟩),zb U U (zk U ag_3 c28 ⟨U,U⟩),zb U U (zd (v:=.pointer (some ⟨b29,o30,none⟩)) a10_1 ⟨U,U⟩),zb U U (zj U ⟨U,U⟩),zb U U (zf U fo_236_1 ⟨U,U⟩),zb U U (zk U ag_3 c33 ⟨U,U⟩),zb U U (op_leq U U ⟨U,U⟩),zb U U (zd (v:=.bool (decide (x27≤x32))) U ⟨U,U⟩),zr (b:=decide (x27≤x32)) U U (zi U U) (fun hb=>zf U fo_148_2 ⟨zs hb,U⟩) (fun hb=>⟨zp hb,U⟩),zr (b:=decide (x27≤x32)) U U (zi U U) (fun hb=>zk (gv hb) ag_3 (c36 (zo hb)) ⟨zs hb,U⟩) (fun hb=>⟨zp hb,U⟩),zr (b:=decide (x27≤x32)) U U (zi U U) (fun hb=>zf a10_3 fo_148_2 ⟨zs hb,U⟩) (fun hb=>⟨zp hb,U⟩),zr (b:=decide (x27≤x32)) U U (zi U U) (fun hb=>zk (gv hb) ag_3 (c38 (zo hb)) ⟨zs hb,U⟩) (fun hb=>⟨zp hb,U⟩),zr (b:=decide (x27≤x32)) U U (zi U U) (fun hb=>yj (gv hb) (gv hb) ⟨zs hb,U⟩) (fun hb=>⟨zp hb,U⟩),zb U U (zV U (fun hq=>(gv hq)) U ⟨U,U⟩),V⟩) U ?_
   refine zz ((decide (x27≤x32)) && (decide (x37<x35))) U ?_ ?_
   ·intro hb
    replace H:=H.1 hb
    refine zc U ?_
    obtain⟨x40_0,x40_1,x40_2,c41,H⟩:=H
    refine za (zS U ag_148 c41 ?_)
    obtain⟨h43,c42,H⟩:=H
    refine za (zI (v:=.agg #[.int .i64 x40_0,.int .u64 x40_1,.int .i64 x40_2]) a10_3 U sz_148 U c42 ?_)
    refine zh ?_
    exact hin14 _ _ a10_1 a10_2 a10_3 a10_4 a10_5 a10_0 H
   ·intro hb
    replace H:=H.2 hb
    refine zC ?_
    exact hin14 _ _ a10_1 a10_2 a10_3 a10_4 a10_5 a10_0 H
  ·clear H
   intro f h15 hf
   obtain⟨a14_0,a14_1,a14_2,a14_3,a14_4,a14_5,hJ⟩:=hout14 _ _ hf
   have H:=HR h15 hJ
   refine zc U ?_
   obtain⟨c16,H⟩:=H
   refine za (yf a14_5 U (zU c16) ?_)
   refine za (zd (v:=.int .i64 (x7+1)) U ?_)
   refine zh ?_
   exact And.intro (hin10 _ _ _ rfl a14_0 a14_1 a14_2 a14_3 a14_4 H.1) (yk (hmu10 _ _ _ rfl) (hmu10 _ _ _ a10_0) H.2)
 ·intro hb
  replace H:=H.2 (zn hb)
  refine ya ?_
  refine ze ?_
  obtain⟨x44_0,x44_1,x44_2,c45,H⟩:=H
  obtain⟨x46,c47,H⟩:=H
  refine zO Ggg 1 [(X #[.int .i64 x44_0,.int .u64 x44_1,.int .i64 x44_2]),(Y (some ⟨h1.size,2,none⟩)),(Z .i64 x46),(W (decide (0≤x46))),undef,undef] (by kernel_rfl) U mixed_PR ?_
  refine zA [4] (by decide) U (zw [0,1,2,3] U ⟨zb U U (zS a10_3 ag_148 c45 ⟨U,U⟩),zb U U (zf a10_3 fo_148_2 ⟨U,U⟩),zb U U (zk U ag_3 c47 ⟨U,U⟩),zb U U (op_geq U U ⟨U,U⟩),V⟩) U ⟨?_,V⟩
  obtain⟨h50,c49,H⟩:=H
  refine zb U U (zI (v:=.agg #[.int .i64 x44_0,.int .u64 x44_1,.int .i64 x44_2]) a10_2 U sz_148 U c49 ?_)
  obtain⟨c51,H⟩:=H
  refine⟨[(Value.agg #[.int .i64 x44_0,.int .u64 x44_1,.int .i64 x44_2]),(Value.pointer (some ⟨h1.size,2,none⟩)),(Value.int .i64 x46),(Value.bool (decide (0≤x46))),undef,(Value.bool (decide (0≤x46)))],rfl,(zH [0,1,2,3] rfl ⟨rfl,rfl,rfl,rfl,trivial⟩),?_⟩
  refine zJ U (zw [1,2,3,5] U ⟨zb U U (zf a10_3 fo_148_2 ⟨U,U⟩),zb U U (zk U ag_3 c51 ⟨U,U⟩),zb U U (op_geq U U ⟨U,U⟩),zb U U (zg (v:=.bool (decide (0≤x46))) U ⟨U,U⟩),V⟩) U ?_
  refine zx ?_
  obtain⟨x52_0,x52_1,x52_2,c53,H⟩:=H
  exact zv (ye a10_2 ag_148 c53 (zq U zu)) H
def Gcq (p0:Option Addr) (K:Int→Int→Int→Bool→Int→Heap→Prop) (h:Heap):Prop:=
 ∀ (h1:Heap),h1=h.push (.cells #[.int .i64 0,.int .u64 0,.int .i64 0] 148 (0,0))→CallsH PR Glg #[.pointer p0] h1 (fun v h3=>∃ (x5a:Option Addr) (x5n:Nat) (x5c:Nat),v=(Value.slice x5a x5n x5c)∧((x5n:Int)=0→∃ (h8:Heap),stCells h.size h3 0 [.int .i64 0,.int .u64 0,.int .i64 0]=some h8∧∃ (x9_0:Int) (x9_1:Int) (x9_2:Int),ldCells h8 h.size 0 3=some [.int .i64 x9_0,.int .u64 x9_1,.int .i64 x9_2]∧K x9_0 x9_1 x9_2 false 5 h8)∧((¬ ((x5n:Int)=0))→CallsH PR Gld #[.pointer p0,.slice x5a x5n x5c] h3 (fun v h11=>∃ (x13_0:Int) (x13_1:Int) (x13_2:Int) (x14:Bool),v=(Value.tuple #[.agg #[.int .i64 x13_0,.int .u64 x13_1,.int .i64 x13_2],.bool x14])∧∀ (h15:Heap),h15=h11.push (.cells #[.int .i64 0,.int .u64 0,.int .i64 0] 148 (0,0))→∃ (h18:Heap),stCells h11.size h15 0 [.int .i64 x13_0,.int .u64 x13_1,.int .i64 x13_2]=some h18∧CallsH PR Glf #[.pointer p0,.slice x5a x5n x5c] h18 (fun v h19=>∃ (x21_0:Int) (x21_1:Int) (x21_2:Int) (x22:Bool),v=(Value.tuple #[.agg #[.int .i64 x21_0,.int .u64 x21_1,.int .i64 x21_2],.bool x22])∧∀ (h23:Heap),h23=h19.push (.cells #[.int .i64 0,.int .u64 0,.int .i64 0] 148 (0,0))→∃ (h26:Heap),stCells h19.size h23 0 [.int .i64 x21_0,.int .u64 x21_1,.int .i64 x21_2]=some h26∧∃ (b27:Nat) (o28:Nat),p0=some ⟨b27,o28,none⟩∧∃ (x30:Bool),cellH h26 b27 (o28+2)=some (.bool x30)∧(((x30 && x22) || (!x14))=true→∃ (x32_0:Int) (x32_1:Int) (x32_2:Int),ldCells h26 h19.size 0 3=some [.int .i64 x32_0,.int .u64 x32_1,.int .i64 x32_2]∧∃ (h35:Heap),stCells h.size h26 0 [.int .i64 x32_0,.int .u64 x32_1,.int .i64 x32_2]=some h35∧∃ (x36_0:Int) (x36_1:Int) (x36_2:Int),ldCells h35 h.size 0 3=some [.int .i64 x36_0,.int .u64 x36_1,.int .i64 x36_2]∧K x36_0 x36_1 x36_2 true 0 h35)∧(((x30 && x22) || (!x14))=false→∃ (x38_0:Int) (x38_1:Int) (x38_2:Int),ldCells h26 h11.size 0 3=some [.int .i64 x38_0,.int .u64 x38_1,.int .i64 x38_2]∧∃ (h41:Heap),stCells h.size h26 0 [.int .i64 x38_0,.int .u64 x38_1,.int .i64 x38_2]=some h41∧∃ (x42_0:Int) (x42_1:Int) (x42_2:Int),ldCells h41 h.size 0 3=some [.int .i64 x42_0,.int .u64 x42_1,.int .i64 x42_2]∧K x42_0 x42_1 x42_2 false 0 h41)))))
theorem Gcr (p0:Option Addr) (R:Value→Heap→Prop) (h:Heap) (H:Gcq p0 (fun r0_0 r0_1 r0_2 r1 r2 h'=>R (Value.tuple #[.agg #[.int .i64 r0_0,.int .u64 r0_1,.int .i64 r0_2],.bool r1,.int .i64 r2]) h') h):CallsH PR Glh #[.pointer p0] h R:=by
 refine zD (args:=[.pointer p0]) Tryz.func134 U U ?_
 intro f hf
 have e0:=hf 0 _ rfl
 clear hf
 unfold Gcq at H
 refine ze ?_
 refine zc U ?_
 obtain⟨h1,c2⟩ : ∃ h1,h1=h.push (.cells #[.int .i64 0,.int .u64 0,.int .i64 0] 148 (0,0)):=⟨_,rfl⟩
 replace H:=H h1 c2
 refine za (zW z_148 c2 ?_)
 refine za (zg (v:=.bool false) U ?_)
 refine za (zg (v:=.int .i64 0) U ?_)
 refine zh ?_
 refine ze ?_
 refine zc U ?_
 refine za (zd (v:=.pointer p0) e0 ?_)
 refine za (zG (vs:=[.pointer p0]) en_172 (zm U zy) (CallsH.mono H ?_))
 clear H
 rintro _ h3 ⟨x5a,x5n,x5c,rfl,H⟩
 refine za (zg (v:=.slice x5a x5n x5c) U ?_)
 refine zh ?_
 refine ze ?_
 refine ze ?_
 refine zc U ?_
 refine za (zd (v:=.slice x5a x5n x5c) U ?_)
 refine za (zN U un_107 ?_)
 refine za (op_eql U U ?_)
 refine zh ?_
 refine zz (decide ((x5n:Int)=0)) U ?_ ?_
 ·intro hb
  replace H:=H.1 (zo hb)
  refine ze ?_
  refine zc U ?_
  refine za (zX (vs:=[]) (cs:=#[.int .i64 0,.int .u64 0,.int .i64 0]) z_148 fs_148 zT U ?_)
  obtain⟨h8,c7,H⟩:=H
  refine za (zI (v:=.agg #[.int .i64 0,.int .u64 0,.int .i64 0]) U U sz_148 U c7 ?_)
  refine za (zg (v:=.bool false) U ?_)
  refine za (zg (v:=.int .i64 5) U ?_)
  refine zh ?_
  refine zx ?_
  obtain⟨x9_0,x9_1,x9_2,c10,H⟩:=H
  exact zv (ye U ag_148 c10 (zq U (zq U zu))) H
 ·intro hb
  replace H:=H.2 (zn hb)
  refine zC ?_
  refine ze ?_
  refine zc U ?_
  refine za (zd (v:=.pointer p0) e0 ?_)
  refine za (zd (v:=.slice x5a x5n x5c) U ?_)
  refine za (zG (vs:=[.pointer p0,.slice x5a x5n x5c]) en_173 (zm U (zm U zy)) (CallsH.mono H ?_))
  clear H
  rintro _ h11 ⟨x13_0,x13_1,x13_2,x14,rfl,H⟩
  refine za (zd (v:=.tuple #[.agg #[.int .i64 x13_0,.int .u64 x13_1,.int .i64 x13_2],.bool x14]) U ?_)
  refine za (zB U U ?_)
  refine za (zB U U ?_)
  obtain⟨h15,c16⟩ : ∃ h15,h15=h11.push (.cells #[.int .i64 0,.int .u64 0,.int .i64 0] 148 (0,0)):=⟨_,rfl⟩
  replace H:=H h15 c16
  refine za (zW z_148 c16 ?_)
  obtain⟨h18,c17,H⟩:=H
  refine za (zI (v:=.agg #[.int .i64 x13_0,.int .u64 x13_1,.int .i64 x13_2]) U U sz_148 U c17 ?_)
  refine za (zg (v:=.bool x14) U ?_)
  refine zh ?_
  refine ze ?_
  refine zc U ?_
  refine za (zd (v:=.pointer p0) e0 ?_)
  refine za (zd (v:=.slice x5a x5n x5c) U ?_)
  refine za (zG (vs:=[.pointer p0,.slice x5a x5n x5c]) en_174 (zm U (zm U zy)) (CallsH.mono H ?_))
  clear H
  rintro _ h19 ⟨x21_0,x21_1,x21_2,x22,rfl,H⟩
  refine za (zd (v:=.tuple #[.agg #[.int .i64 x21_0,.int .u64 x21_1,.int .i64 x21_2],.bool x22]) U ?_)
  refine za (zB U U ?_)
  refine za (zB U U ?_)
  obtain⟨h23,c24⟩ : ∃ h23,h23=h19.push (.cells #[.int .i64 0,.int .u64 0,.int .i64 0] 148 (0,0)):=⟨_,rfl⟩
  replace H:=H h23 c24
  refine za (zW z_148 c24 ?_)
  obtain⟨h26,c25,H⟩:=H
  refine za (zI (v:=.agg #[.int .i64 x21_0,.int .u64 x21_1,.int .i64 x21_2]) U U sz_148 U c25 ?_)
  refine za (zg (v:=.bool x22) U ?_)
  refine zh ?_
  refine ze ?_
  refine ze ?_
  refine zc U ?_
  refine za (zd (v:=.pointer p0) e0 ?_)
  obtain⟨b27,o28,rfl,H⟩:=H
  refine za (zj U ?_)
  refine za (zf U fo_236_2 ?_)
  obtain⟨x30,c31,H⟩:=H
  refine za (zk U ag_4 c31 ?_)
  refine za (zd (v:=.bool x30) U ?_)
  refine zF (b:=x30) (zi U U) (W x22) (fun hb N hN=>zd (v:=.bool x22) U hN) ?_
  refine za (zV U (fun hq=>(gv hq)) U ?_)
  refine za (zd (v:=.bool (x30 && x22)) U ?_)
  refine zF (b:=!(x30 && x22)) (zi U U) (W x14) (fun hb N hN=>zd (v:=.bool x14) U hN) ?_
  refine zF (b:=!(x30 && x22)) (zi U U) (W (!x14)) (fun hb N hN=>yi (gv hb) hN) ?_
  refine za (zR U U (fun hq=>(gv (zP hq))) ?_)
  refine zh ?_
  refine zz ((x30 && x22) || (!x14)) U ?_ ?_
  ·intro hb
   replace H:=H.1 hb
   refine ze ?_
   refine zc U ?_
   obtain⟨x32_0,x32_1,x32_2,c33,H⟩:=H
   refine za (zS U ag_148 c33 ?_)
   obtain⟨h35,c34,H⟩:=H
   refine za (zI (v:=.agg #[.int .i64 x32_0,.int .u64 x32_1,.int .i64 x32_2]) U U sz_148 U c34 ?_)
   refine za (zg (v:=.bool true) U ?_)
   refine za (zg (v:=.int .i64 0) U ?_)
   refine zh ?_
   refine zx ?_
   obtain⟨x36_0,x36_1,x36_2,c37,H⟩:=H
   exact zv (ye U ag_148 c37 (zq U (zq U zu))) H
  ·intro hb
   replace H:=H.2 hb
   refine zC ?_
   refine ze ?_
   refine zc U ?_
   obtain⟨x38_0,x38_1,x38_2,c39,H⟩:=H
   refine za (zS U ag_148 c39 ?_)
   obtain⟨h41,c40,H⟩:=H
   refine za (zI (v:=.agg #[.int .i64 x38_0,.int .u64 x38_1,.int .i64 x38_2]) U U sz_148 U c40 ?_)
   refine za (zg (v:=.bool false) U ?_)
   refine za (zg (v:=.int .i64 0) U ?_)
   refine zh ?_
   refine zx ?_
   obtain⟨x42_0,x42_1,x42_2,c43,H⟩:=H
   exact zv (ye U ag_148 c43 (zq U (zq U zu))) H
def Gce (p0:Option Addr) (K:Int→Int→Int→Int→Heap→Prop) (h:Heap):Prop:=
 ∀ (h1:Heap),h1=h.push (.cells #[.int .i64 0,.int .u64 0,.int .i64 0] 148 (0,0))→CallsH PR Glh #[.pointer p0] h1 (fun v h3=>∃ (x5_0:Int) (x5_1:Int) (x5_2:Int) (x6:Bool) (x7:Int),v=(Value.tuple #[.agg #[.int .i64 x5_0,.int .u64 x5_1,.int .i64 x5_2],.bool x6,.int .i64 x7])∧∀ (h8:Heap),h8=h3.push (.cells #[.int .i64 0,.int .u64 0,.int .i64 0] 148 (0,0))→∃ (h11:Heap),stCells h3.size h8 0 [.int .i64 x5_0,.int .u64 x5_1,.int .i64 x5_2]=some h11∧∃ (x12_0:Int) (x12_1:Int) (x12_2:Int),ldCells h11 h3.size 0 3=some [.int .i64 x12_0,.int .u64 x12_1,.int .i64 x12_2]∧∃ (h15:Heap),stCells h.size h11 0 [.int .i64 x12_0,.int .u64 x12_1,.int .i64 x12_2]=some h15∧∃ (x16_0:Int) (x16_1:Int) (x16_2:Int),ldCells h15 h.size 0 3=some [.int .i64 x16_0,.int .u64 x16_1,.int .i64 x16_2]∧K x16_0 x16_1 x16_2 x7 h15)
theorem Gcf (p0:Option Addr) (R:Value→Heap→Prop) (h:Heap) (H:Gce p0 (fun r0_0 r0_1 r0_2 r1 h'=>R (Value.tuple #[.agg #[.int .i64 r0_0,.int .u64 r0_1,.int .i64 r0_2],.int .i64 r1]) h') h):CallsH PR Glb #[.pointer p0] h R:=by
 refine zD (args:=[.pointer p0]) Tryz.func71 U U ?_
 intro f hf
 have e0:=hf 0 _ rfl
 clear hf
 unfold Gce at H
 refine ze ?_
 refine zc U ?_
 obtain⟨h1,c2⟩ : ∃ h1,h1=h.push (.cells #[.int .i64 0,.int .u64 0,.int .i64 0] 148 (0,0)):=⟨_,rfl⟩
 replace H:=H h1 c2
 refine za (zW z_148 c2 ?_)
 refine za (zg (v:=.int .i64 0) U ?_)
 refine zh ?_
 refine ze ?_
 refine zc U ?_
 refine za (zd (v:=.pointer p0) e0 ?_)
 refine za (zG (vs:=[.pointer p0]) en_134 (zm U zy) (CallsH.mono H ?_))
 clear H
 rintro _ h3 ⟨x5_0,x5_1,x5_2,x6,x7,rfl,H⟩
 refine za (zd (v:=.tuple #[.agg #[.int .i64 x5_0,.int .u64 x5_1,.int .i64 x5_2],.bool x6,.int .i64 x7]) U ?_)
 refine za (zB U U ?_)
 refine za (zB U U ?_)
 refine za (zB U U ?_)
 obtain⟨h8,c9⟩ : ∃ h8,h8=h3.push (.cells #[.int .i64 0,.int .u64 0,.int .i64 0] 148 (0,0)):=⟨_,rfl⟩
 replace H:=H h8 c9
 refine za (zW z_148 c9 ?_)
 obtain⟨h11,c10,H⟩:=H
 refine za (zI (v:=.agg #[.int .i64 x5_0,.int .u64 x5_1,.int .i64 x5_2]) U U sz_148 U c10 ?_)
 refine za (zg (v:=.bool x6) U ?_)
 refine za (zg (v:=.int .i64 x7) U ?_)
 refine zh ?_
 refine ze ?_
 refine zc U ?_
 obtain⟨x12_0,x12_1,x12_2,c13,H⟩:=H
 refine za (zS U ag_148 c13 ?_)
 refine za (zd (v:=.int .i64 x7) U ?_)
 obtain⟨h15,c14,H⟩:=H
 refine za (zI (v:=.agg #[.int .i64 x12_0,.int .u64 x12_1,.int .i64 x12_2]) U U sz_148 U c14 ?_)
 refine za (zg (v:=.int .i64 x7) U ?_)
 refine zh ?_
 refine zx ?_
 obtain⟨x16_0,x16_1,x16_2,c17,H⟩:=H
 exact zv (ye U ag_148 c17 (zq U zu)) H
def Gcg (p0:Option Addr) (K:Int→Int→Int→Int→Heap→Prop) (h:Heap):Prop:=
 ∀ (h1:Heap),h1=h.push (.cells #[.int .i64 0,.int .u64 0,.int .i64 0] 148 (0,0))→CallsH PR Glh #[.pointer p0] h1 (fun v h3=>∃ (x5_0:Int) (x5_1:Int) (x5_2:Int) (x6:Bool) (x7:Int),v=(Value.tuple #[.agg #[.int .i64 x5_0,.int .u64 x5_1,.int .i64 x5_2],.bool x6,.int .i64 x7])∧∀ (h8:Heap),h8=h3.push (.cells #[.int .i64 0,.int .u64 0,.int .i64 0] 148 (0,0))→∃ (h11:Heap),stCells h3.size h8 0 [.int .i64 x5_0,.int .u64 x5_1,.int .i64 x5_2]=some h11∧((¬ (x7=0))→∃ (x13_0:Int) (x13_1:Int) (x13_2:Int),ldCells h11 h3.size 0 3=some [.int .i64 x13_0,.int .u64 x13_1,.int .i64 x13_2]∧∃ (h16:Heap),stCells h.size h11 0 [.int .i64 x13_0,.int .u64 x13_1,.int .i64 x13_2]=some h16∧∃ (x17_0:Int) (x17_1:Int) (x17_2:Int),ldCells h16 h.size 0 3=some [.int .i64 x17_0,.int .u64 x17_1,.int .i64 x17_2]∧K x17_0 x17_1 x17_2 x7 h16)∧(x7=0→∃ (x19:Int),cellH h11 h3.size 0=some (.int .i64 x19)∧CallsH PR Gl9 #[.pointer p0,.int .i64 x19] h11 (fun v h21=>∃ (x23:Int),v=(Value.int .i64 x23)∧∃ (x24:Int),cellH h21 h3.size 2=some (.int .i64 x24)∧∃ (b26:Nat) (o27:Nat),p0=some ⟨b26,o27,none⟩∧∃ (h30:Heap),stCells b26 h21 (o27+1) [.int .i64 x24]=some h30∧∃ (h32:Heap),stCells b26 h30 (o27+2) [.bool x6]=some h32∧∃ (x33_0:Int) (x33_1:Int) (x33_2:Int),ldCells h32 h3.size 0 3=some [.int .i64 x33_0,.int .u64 x33_1,.int .i64 x33_2]∧∃ (h36:Heap),stCells h.size h32 0 [.int .i64 x33_0,.int .u64 x33_1,.int .i64 x33_2]=some h36∧∃ (x37_0:Int) (x37_1:Int) (x37_2:Int),ldCells h36 h.size 0 3=some [.int .i64 x37_0,.int .u64 x37_1,.int .i64 x37_2]∧K x37_0 x37_1 x37_2 0 h36)))
theorem Gch (p0:Option Addr) (R:Value→Heap→Prop) (h:Heap) (H:Gcg p0 (fun r0_0 r0_1 r0_2 r1 h'=>R (Value.tuple #[.agg #[.int .i64 r0_0,.int .u64 r0_1,.int .i64 r0_2],.int .i64 r1]) h') h):CallsH PR Glc #[.pointer p0] h R:=by
 refine zD (args:=[.pointer p0]) Tryz.func73 U U ?_
 intro f hf
 have e0:=hf 0 _ rfl
 clear hf
 unfold Gcg at H
 refine ze ?_
 refine zc U ?_
 obtain⟨h1,c2⟩ : ∃ h1,h1=h.push (.cells #[.int .i64 0,.int .u64 0,.int .i64 0] 148 (0,0)):=⟨_,rfl⟩
 replace H:=H h1 c2
 refine za (zW z_148 c2 ?_)
 refine za (zg (v:=.int .i64 0) U ?_)
 refine zh ?_
 refine ze ?_
 refine zc U ?_
 refine za (zd (v:=.pointer p0) e0 ?_)
 refine za (zG (vs:=[.pointer p0]) en_134 (zm U zy) (CallsH.mono H ?_))
 clear H
 rintro _ h3 ⟨x5_0,x5_1,x5_2,x6,x7,rfl,H⟩
 refine za (zd (v:=.tuple #[.agg #[.int .i64 x5_0,.int .u64 x5_1,.int .i64 x5_2],.bool x6,.int .i64 x7]) U ?_)
 refine za (zB U U ?_)
 refine za (zB U U ?_)
 refine za (zB U U ?_)
 obtain⟨h8,c9⟩ : ∃ h8,h8=h3.push (.cells #[.int .i64 0,.int .u64 0,.int .i64 0] 148 (0,0)):=⟨_,rfl⟩
 replace H:=H h8 c9
 refine za (zW z_148 c9 ?_)
 obtain⟨h11,c10,H⟩:=H
 refine za (zI (v:=.agg #[.int .i64 x5_0,.int .u64 x5_1,.int .i64 x5_2]) U U sz_148 U c10 ?_)
 refine za (zg (v:=.bool x6) U ?_)
 refine za (zg (v:=.int .i64 x7) U ?_)
 refine zh ?_
 refine ze ?_
 refine ze ?_
 refine zc U ?_
 refine za (zd (v:=.int .i64 x7) U ?_)
 refine za (op_neq U U ?_)
 refine zh ?_
 refine zz (!decide (x7=0)) U ?_ ?_
 ·intro hb
  replace H:=H.1 (zn (zt hb))
  refine ze ?_
  refine zc U ?_
  obtain⟨x13_0,x13_1,x13_2,c14,H⟩:=H
  refine za (zS U ag_148 c14 ?_)
  refine za (zd (v:=.int .i64 x7) U ?_)
  obtain⟨h16,c15,H⟩:=H
  refine za (zI (v:=.agg #[.int .i64 x13_0,.int .u64 x13_1,.int .i64 x13_2]) U U sz_148 U c15 ?_)
  refine za (zg (v:=.int .i64 x7) U ?_)
  refine zh ?_
  refine zx ?_
  obtain⟨x17_0,x17_1,x17_2,c18,H⟩:=H
  exact zv (ye U ag_148 c18 (zq U zu)) H
 ·intro hb
  replace H:=H.2 (zo (zL hb))
  refine zC ?_
  refine ze ?_
  refine zc U ?_
  refine za (zd (v:=.pointer p0) e0 ?_)
  refine za (zf U fo_148_0 ?_)
  obtain⟨x19,c20,H⟩:=H
  refine za (zk U ag_3 c20 ?_)
  refine za (zG (vs:=[.pointer p0,.int .i64 x19]) en_137 (zm U (zm U zy)) (CallsH.mono H ?_))
  clear H
  rintro _ h21 ⟨x23,rfl,H⟩
  refine zh ?_
  refine ze ?_
  refine zc U ?_
  refine za (zd (v:=.pointer p0) e0 ?_)
  refine za (zd (v:=.pointer p0) e0 ?_)
  refine za (zf U fo_148_2 ?_)
  obtain⟨x24,c25,H⟩:=H
  refine za (zk U ag_3 c25 ?_)
  refine za (zd (v:=.bool x6) U ?_)
  obtain⟨b26,o27,rfl,H⟩:=H
  refine za (zj U ?_)
  refine za (zf U fo_236_1 ?_)
  obtain⟨h30,c29,H⟩:=H
  refine za (zI (v:=.int .i64 x24) U U sz_3 U c29 ?_)
  refine za (zj U ?_)
  refine za (zf U fo_236_2 ?_)
  obtain⟨h32,c31,H⟩:=H
  refine za (zI (v:=.bool x6) U U sz_4 U c31 ?_)
  refine zh ?_
  refine ze ?_
  refine zc U ?_
  obtain⟨x33_0,x33_1,x33_2,c34,H⟩:=H
  refine za (zS U ag_148 c34 ?_)
  obtain⟨h36,c35,H⟩:=H
  refine za (zI (v:=.agg #[.int .i64 x33_0,.int .u64 x33_1,.int .i64 x33_2]) U U sz_148 U c35 ?_)
  refine za (zg (v:=.int .i64 0) U ?_)
  refine zh ?_
  refine zx ?_
  obtain⟨x37_0,x37_1,x37_2,c38,H⟩:=H
  exact zv (ye U ag_148 c38 (zq U zu)) H
def Geg (p0a:Option Addr) (p0n:Nat) (p0c:Nat) (K:Option Addr→Nat→Nat→Heap→Prop) (h:Heap):Prop:=
 (p0a.isNone=true→K none 0 0 h)∧(p0a.isNone=false→∀ (h2:Heap),h2=h.push (.cells #[] 148 (0,0))→∃ (m4:Nat) (ns5:List Value),(lenH (Value.slice p0a p0n p0c)=some m4∧firstH h2 3 m4 (Value.slice p0a p0n p0c)=some ns5)∧appH 148 3 24 (Value.agg #[.int .i64 0,.int .u64 0,.int .i64 0]) (some ⟨h.size,0,none⟩) 0 0 m4 ns5 h2 (fun a8 n9 q10 h11=>K a8 n9 q10 h11))
theorem Geh (p0a:Option Addr) (p0n:Nat) (p0c:Nat) (R:Value→Heap→Prop) (h:Heap) (H:Geg p0a p0n p0c (fun r0a r0n r0c h'=>R (Value.slice r0a r0n r0c) h') h):CallsH PR Gmy #[.slice p0a p0n p0c] h R:=by
 refine zD (args:=[.slice p0a p0n p0c]) Tryz.func124 U U ?_
 intro f hf
 have e0:=hf 0 _ rfl
 clear hf
 unfold Geg at H
 refine ze ?_
 refine zc U ?_
 refine za (zg (v:=.slice none 0 0) U ?_)
 refine zh ?_
 refine ze ?_
 refine ze ?_
 refine zc U ?_
 refine za (zd (v:=.slice p0a p0n p0c) e0 ?_)
 refine za (op_eq_sl_nil U U un_107 ?_)
 refine zh ?_
 refine zz (p0a.isNone) U ?_ ?_
 ·intro hb
  replace H:=H.1 hb
  refine ze ?_
  refine zc U ?_
  refine za (zg (v:=.slice none 0 0) U ?_)
  refine zh ?_
  refine zx ?_
  exact zv (zq U zu) H
 ·intro hb
  replace H:=H.2 hb
  refine zC ?_
  refine ze ?_
  refine zc U ?_
  obtain⟨h2,c3⟩ : ∃ h2,h2=h.push (.cells #[] 148 (0,0)):=⟨_,rfl⟩
  replace H:=H h2 c3
  refine za (yg (cs:=#[]) (vs:=[]) (zl:=[.int .i64 0,.int .u64 0,.int .i64 0]) ri_107 (by decide) U U zT U c3 ?_)
  refine za (zd (v:=.slice p0a p0n p0c) e0 ?_)
  obtain⟨m4,ns5,c6,H⟩:=H
  refine za (op_append' (src:=(T p0a p0n p0c)) (news:=ns5) ri_107 (.inl ⟨_,un_107⟩) U U c6.1 c6.2 (appH.mono H ?_))
  clear H
  intro a8 n9 q10 h11 H
  refine za (zg (v:=.slice a8 n9 q10) U ?_)
  refine zh ?_
  refine zx ?_
  exact zv (zq U zu) H
def Gh5:Cert:=⟨[[],[],[],[1,2],[1,2,3],[],[0,1,2,3,4,5],[0,1,2,3,4,5,6]],[false,false,false,false,false,false,true,false]⟩
def Gh6:Cert:=⟨[[],[],[],[1,2],[1,2,3],[1,2,3,4],[1,2,3,4],[1,2,3,4],[1,2,3,4,6,7],[1,2,3,4,6,7,8],[1,2,3,4],[1,2,3,4,5,6,7,8,9,10],[1,2,3,4,5,6,7,8,9,10,11],[1,2,3,4,5,6,7,8,9,10,11,12],[0,1,2,3,4,5,6,7,8,9,10,11],[0,1,2,3,4,5,6,7,8,9,10,11,12,13,14]],[false,false,false,false,false,false,false,false,false,false,false,true,false,false,false,false]⟩
def Gee (p0a:Option Addr) (p0n:Nat) (p0c:Nat) (p1_0:Int) (p1_1:Int) (p1_2:Int) (p2:Value) (K:Int→Bool→Heap→Prop) (h:Heap):Prop:=
 ∀ (h1:Heap),h1=h.push (.cells #[.int .i64 p1_0,.int .u64 p1_1,.int .i64 p1_2] 148 (0,0))→∃ (I5:Int→Int→Heap→Prop) (mu6:Int→Int→Heap→Nat),I5 0 (p0n:Int) h1∧∀ (x3:Int) (x4:Int) (h8:Heap),I5 x3 x4 h8→(x3<x4→(-9223372036854775808≤x3+x4∧x3+x4<9223372036854775808)∧∃ (b13:Nat) (o14:Nat),p0a=some ⟨b13,o14,none⟩∧(0≤IntKind.i64.wrap ((IntKind.u64.wrap (x3+x4)).fdiv (2 ^ (min (1:Int).toNat IntKind.u64.bits)))∧IntKind.i64.wrap ((IntKind.u64.wrap (x3+x4)).fdiv (2 ^ (min (1:Int).toNat IntKind.u64.bits)))<(p0n:Int))∧∃ (x16_0:Int) (x16_1:Int) (x16_2:Int),ldCells h8 b13 (o14+(IntKind.i64.wrap ((IntKind.u64.wrap (x3+x4)).fdiv (2 ^ (min (1:Int).toNat IntKind.u64.bits)))).toNat * 3) 3=some [.int .i64 x16_0,.int .u64 x16_1,.int .i64 x16_2]∧∃ (x18_0:Int) (x18_1:Int) (x18_2:Int),ldCells h8 h.size 0 3=some [.int .i64 x18_0,.int .u64 x18_1,.int .i64 x18_2]∧CallsV PR p2 [.agg #[.int .i64 x16_0,.int .u64 x16_1,.int .i64 x16_2],.agg #[.int .i64 x18_0,.int .u64 x18_1,.int .i64 x18_2]] h8 (fun v h20=>∃ (x22:Int),v=(Value.int .i64 x22)∧(x22<0→(-9223372036854775808≤(IntKind.i64.wrap ((IntKind.u64.wrap (x3+x4)).fdiv (2 ^ (min (1:Int).toNat IntKind.u64.bits))))+1∧(IntKind.i64.wrap ((IntKind.u64.wrap (x3+x4)).fdiv (2 ^ (min (1:Int).toNat IntKind.u64.bits))))+1<9223372036854775808)∧(I5 ((IntKind.i64.wrap ((IntKind.u64.wrap (x3+x4)).fdiv (2 ^ (min (1:Int).toNat IntKind.u64.bits))))+1) x4 h20∧mu6 ((IntKind.i64.wrap ((IntKind.u64.wrap (x3+x4)).fdiv (2 ^ (min (1:Int).toNat IntKind.u64.bits))))+1) x4 h20<mu6 x3 x4 h8))∧((¬ (x22<0))→(I5 x3 (IntKind.i64.wrap ((IntKind.u64.wrap (x3+x4)).fdiv (2 ^ (min (1:Int).toNat IntKind.u64.bits)))) h20∧mu6 x3 (IntKind.i64.wrap ((IntKind.u64.wrap (x3+x4)).fdiv (2 ^ (min (1:Int).toNat IntKind.u64.bits)))) h20<mu6 x3 x4 h8))))∧((¬ (x3<x4))→∃ (b27:Nat) (o28:Nat),((x3<(p0n:Int))→p0a=some ⟨b27,o28,none⟩)∧((x3<(p0n:Int))→0≤x3∧x3<(p0n:Int))∧∃ (x30_0:Int) (x30_1:Int) (x30_2:Int),((x3<(p0n:Int))→ldCells h8 b27 (o28+x3.toNat * 3) 3=some [.int .i64 x30_0,.int .u64 x30_1,.int .i64 x30_2])∧∃ (x32_0:Int) (x32_1:Int) (x32_2:Int),((x3<(p0n:Int))→ldCells h8 h.size 0 3=some [.int .i64 x32_0,.int .u64 x32_1,.int .i64 x32_2])∧∃ J37:Int→Heap→Prop,(∀ (x36:Int) (h34:Heap),J37 x36 h34→K x3 ((decide (x3<(p0n:Int))) && (decide (x36=0))) h34)∧((x3<(p0n:Int))→CallsV PR p2 [.agg #[.int .i64 x30_0,.int .u64 x30_1,.int .i64 x30_2],.agg #[.int .i64 x32_0,.int .u64 x32_1,.int .i64 x32_2]] h8 (fun v h34=>∃ (x36:Int),v=(Value.int .i64 x36)∧J37 x36 h34))∧((¬ (x3<(p0n:Int)))→∃ (x36:Int),J37 x36 h8))
theorem Gef (p0a:Option Addr) (p0n:Nat) (p0c:Nat) (p1_0:Int) (p1_1:Int) (p1_2:Int) (p2:Value) (R:Value→Heap→Prop) (h:Heap) (H:Gee p0a p0n p0c p1_0 p1_1 p1_2 p2 (fun r0 r1 h'=>R (Value.tuple #[.int .i64 r0,.bool r1]) h') h):CallsH PR Gmx #[.slice p0a p0n p0c,.agg #[.int .i64 p1_0,.int .u64 p1_1,.int .i64 p1_2],p2] h R:=by
 refine zD (args:=[.slice p0a p0n p0c,.agg #[.int .i64 p1_0,.int .u64 p1_1,.int .i64 p1_2],p2]) Tryz.func129 U U ?_
 intro f hf
 have e0:=hf 0 _ rfl
 have e1:=hf 1 _ rfl
 have e2:=hf 2 _ rfl
 clear hf
 unfold Gee at H
 refine ze ?_
 refine zc U ?_
 obtain⟨h1,c2⟩ : ∃ h1,h1=h.push (.cells #[.int .i64 p1_0,.int .u64 p1_1,.int .i64 p1_2] 148 (0,0)):=⟨_,rfl⟩
 replace H:=H h1 c2
 refine za (yd (v:=.agg #[.int .i64 p1_0,.int .u64 p1_1,.int .i64 p1_2]) e1 c2 ?_)
 refine za (zg (v:=.int .i64 0) U ?_)
 refine za (zg (v:=.bool false) U ?_)
 refine zh ?_
 refine ze ?_
 refine zc U ?_
 refine za (zd (v:=.slice p0a p0n p0c) e0 ?_)
 refine za (zN U un_107 ?_)
 refine za (zg (v:=.int .i64 (p0n:Int)) U ?_)
 refine zh ?_
 refine ze ?_
 refine zc U ?_
 refine za (zd (v:=.int .i64 (p0n:Int)) U ?_)
 refine za (zg (v:=.int .i64 0) U ?_)
 refine za (zg (v:=.int .i64 (p0n:Int)) U ?_)
 refine zh ?_
 refine ze ?_
 refine zK ?_
 obtain⟨I5,mu6,hI,H⟩:=H
 obtain⟨I7,mu7,hin7,hout7,hmu7⟩ : ∃ (J7:Fr→Heap→Prop) (m:Fr→Heap→Nat),(∀ f hz (x3:Int) (x4:Int),f 9 = .int .i64 x3→f 10 = .int .i64 x4→f 0 = .slice p0a p0n p0c→f 2=p2→f 4 = .pointer (some ⟨h.size,0,none⟩)→f 8 = .int .i64 (p0n:Int)→I5 x3 x4 hz→J7 f hz)∧(∀ f hz,J7 f hz→∃ (x3:Int) (x4:Int),f 9 = .int .i64 x3∧f 10 = .int .i64 x4∧f 0 = .slice p0a p0n p0c∧f 2=p2∧f 4 = .pointer (some ⟨h.size,0,none⟩)∧f 8 = .int .i64 (p0n:Int)∧I5 x3 x4 hz)∧(∀ f hz (x3:Int) (x4:Int),f 9 = .int .i64 x3→f 10 = .int .i64 x4→m f hz=mu6 x3 x4 hz):=⟨fun f hz=>∃ (x3:Int) (x4:Int),f 9 = .int .i64 x3∧f 10 = .int .i64 x4∧f 0 = .slice p0a p0n p0c∧f 2=p2∧f 4 = .pointer (some ⟨h.size,0,none⟩)∧f 8 = .int .i64 (p0n:Int)∧I5 x3 x4 hz,fun f hz=>mu6 (dInt (f 9)) (dInt (f 10)) hz,fun _ _ x3 x4 a0 a1 a2 a3 a4 a5 z=>⟨x3,x4,a0,a1,a2,a3,a4,a5,z⟩,fun _ _ hz=>hz,fun f hz x3 x4 a0 a1=>by simp only [a0,a1]; rfl⟩
 refine yb I7 mu7 (hin7 _ _ _ _ U U e0 e2 U U hI) ?_
 clear hI
 intro f h8 hf
 obtain⟨x3,x4,a7_0,a7_1,a7_2,a7_3,a7_4,a7_5,hJ⟩:=hout7 _ _ hf
 replace H:=H x3 x4 h8 hJ
 refine ze ?_
 refine ze ?_
 refine zc U ?_
 refine za (zd (v:=.int .i64 x3) a7_0 ?_)
 refine za (zd (v:=.int .i64 x4) a7_1 ?_)
 refine za (zY U U ?_)
 refine zh ?_
 refine zz (decide (x3<x4)) U ?_ ?_
 ·intro hb
  replace H:=H.1 (zo hb)
  refine zC ?_
  refine zK ?_
  refine ze ?_
  refine zc U ?_
  refine za (zd (v:=.int .i64 x3) a7_0 ?_)
  refine za (zd (v:=.int .i64 x4) a7_1 ?_)
  obtain⟨c10,H⟩:=H
  refine za (yf U U (zU c10) ?_)
  refine za (op_conv U (congrArg (Option.map fun _=>()) un_3) un_48 U ?_)
  refine za (op_shr U U (by decide) U ?_)
  refine za (op_conv U (congrArg (Option.map fun _=>()) un_48) un_3 U ?_)
  refine za (zg (v:=.int .i64 (IntKind.i64.wrap ((IntKind.u64.wrap (x3+x4)).fdiv (2 ^ (min (1:Int).toNat IntKind.u64.bits))))) U ?_)
  refine zh ?_
  refine ze ?_
  obtain⟨b13,o14,rfl,H⟩:=H
  obtain⟨c12,H⟩:=H
  obtain⟨x16_0,x16_1,x16_2,c17,H⟩:=H
  obtain⟨x18_0,x18_1,x18_2,c19,H⟩:=H
  refine zO Gh5 1 [p2,(T (some ⟨b13,o14,none⟩) p0n p0c),(Z .i64 (IntKind.i64.wrap ((IntKind.u64.wrap (x3+x4)).fdiv (2 ^ (min (1:Int).toNat IntKind.u64.bits))))),(Y (some ⟨b13,o14+(IntKind.i64.wrap ((IntKind.u64.wrap (x3+x4)).fdiv (2 ^ (min (1:Int).toNat IntKind.u64.bits)))).toNat * 3,none⟩)),(X #[.int .i64 x16_0,.int .u64 x16_1,.int .i64 x16_2]),(X #[.int .i64 x18_0,.int .u64 x18_1,.int .i64 x18_2]),undef,undef] (by kernel_rfl) U mixed_PR ?_
  refine zA [6] (by decide) U (zw [0,1,2,3,4,5] U ⟨zb U U (zd (v:=p2) a7_3 ⟨U,U⟩),zb U U (zd (v:=.slice (some ⟨b13,o14,none⟩) p0n p0c) a7_2 ⟨U,U⟩),zb U U (zd (v:=.int .i64 (IntKind.i64.wrap ((IntKind.u64.wrap (x3+x4)).fdiv (2 ^ (min (1:Int).toNat IntKind.u64.bits))))) U ⟨U,U⟩),zb U U (zE U U ei_107 c12 ⟨U,U⟩),zb U U (zS U ag_148 c17 ⟨U,U⟩),zb U U (zS a7_4 ag_148 c19 ⟨U,U⟩),V⟩) U ⟨?_,V⟩
  refine zb U U (op_callV (vs:=[.agg #[.int .i64 x16_0,.int .u64 x16_1,.int .i64 x16_2],.agg #[.int .i64 x18_0,.int .u64 x18_1,.int .i64 x18_2]]) U (zm U (zm U zy)) (CallsV.mono H ?_))
  clear H
  rintro _ h20 ⟨x22,rfl,H⟩
  refine⟨[p2,(Value.slice (some ⟨b13,o14,none⟩) p0n p0c),(Value.int .i64 (IntKind.i64.wrap ((IntKind.u64.wrap (x3+x4)).fdiv (2 ^ (min (1:Int).toNat IntKind.u64.bits))))),(Value.pointer (some ⟨b13,o14+(IntKind.i64.wrap ((IntKind.u64.wrap (x3+x4)).fdiv (2 ^ (min (1:Int).toNat IntKind.u64.bits)))).toNat * 3,none⟩)),(Value.agg #[.int .i64 x16_0,.int .u64 x16_1,.int .i64 x16_2]),(Value.agg #[.int .i64 x18_0,.int .u64 x18_1,.int .i64 x18_2]),(Value.int .i64 x22),(Value.bool (decide (x22<0)))],rfl,(zH [0,1,2,3,4,5] rfl ⟨rfl,rfl,rfl,rfl,rfl,rfl,trivial⟩),?_⟩
  refine zJ U (zw [7] U ⟨zb U U (zY U U ⟨U,U⟩),V⟩) U ?_
  refine zz (decide (x22<0)) U ?_ ?_
  ·intro hb
   replace H:=H.1 (zo hb)
   refine zc U ?_
   refine za (zd (v:=.int .i64 (IntKind.i64.wrap ((IntKind.u64.wrap (x3+x4)).fdiv (2 ^ (min (1:Int).toNat IntKind.u64.bits))))) U ?_)
   obtain⟨c24,H⟩:=H
   refine za (yf U U (zU c24) ?_)
   refine za (zg (v:=.int .i64 ((IntKind.i64.wrap ((IntKind.u64.wrap (x3+x4)).fdiv (2 ^ (min (1:Int).toNat IntKind.u64.bits))))+1)) U ?_)
   refine zh ?_
   exact And.intro (hin7 _ _ _ _ rfl a7_1 a7_2 a7_3 a7_4 a7_5 H.1) (yk (hmu7 _ _ _ _ rfl a7_1) (hmu7 _ _ _ _ a7_0 a7_1) H.2)
  ·intro hb
   replace H:=H.2 (zn hb)
   refine zc U ?_
   refine za (zd (v:=.int .i64 (IntKind.i64.wrap ((IntKind.u64.wrap (x3+x4)).fdiv (2 ^ (min (1:Int).toNat IntKind.u64.bits))))) U ?_)
   refine za (zg (v:=.int .i64 (IntKind.i64.wrap ((IntKind.u64.wrap (x3+x4)).fdiv (2 ^ (min (1:Int).toNat IntKind.u64.bits))))) U ?_)
   refine zh ?_
   exact And.intro (hin7 _ _ _ _ a7_0 rfl a7_2 a7_3 a7_4 a7_5 H.1) (yk (hmu7 _ _ _ _ a7_0 rfl) (hmu7 _ _ _ _ a7_0 a7_1) H.2)
 ·intro hb
  replace H:=H.2 (zn hb)
  refine ya ?_
  refine ze ?_
  obtain⟨b27,o28,c29,H⟩:=H
  obtain⟨c26,H⟩:=H
  obtain⟨x30_0,x30_1,x30_2,c31,H⟩:=H
  obtain⟨x32_0,x32_1,x32_2,c33,H⟩:=H
  refine zO Gh6 1 [(Z .i64 x3),(Z .i64 x3),(Z .i64 (p0n:Int)),(W (decide (x3<(p0n:Int)))),(W (decide (x3<(p0n:Int)))),(bif decide (x3<(p0n:Int)) then p2 else undef),(bif decide (x3<(p0n:Int)) then (T p0a p0n p0c) else undef),(bif decide (x3<(p0n:Int)) then (Z .i64 x3) else undef),(bif decide (x3<(p0n:Int)) then (Y (some ⟨b27,o28+x3.toNat * 3,none⟩)) else undef),(bif decide (x3<(p0n:Int)) then (X #[.int .i64 x30_0,.int .u64 x30_1,.int .i64 x30_2]) else undef),(bif decide (x3<(p0n:Int)) then (X #[.int .i64 x32_0,.int .u64 x32_1,.int .i64 x32_2]) else undef),undef,undef,undef,undef,undef] (by kernel_rfl) U mixed_PR ?_
  refine zA [11] (by decide) U (zw [0,1,2,3,4,5,6,7,8,9,10] U ⟨zb U U (zd (v:=.int .i64 x3) a7_0 ⟨U,U⟩),zb U U (zd (v:=.int .i64 x3) a7_0 ⟨U,U⟩),zb U U (zd (v:=.int .i64 (p0n:Int)) a7_5 ⟨U,U⟩),zb U U (zY U U ⟨U,U⟩),zb U U (zd (v:=.bool (decide (x3<(p0n:Int)))) U ⟨U,U⟩),zr (b:=decide (x3<(p0n:Int))) U U (zi U U) (fun hb=>zd (v:=p2) a7_3 ⟨zs hb,U⟩) (fun hb=>⟨zp hb,U⟩),zr (b:=decide (x3<(p0n:Int))) U U (zi U U) (fun hb=>zd (v:=.slice p0a p0n p0c) a7_2 ⟨zs hb,U⟩) (fun hb=>⟨zp hb,U⟩),zr (b:=decide (x3<(p0n:Int))) U U (zi U U) (fun hb=>zd (v:=.int .i64 x3) a7_0 ⟨zs hb,U⟩) (fun hb=>⟨zp hb,U⟩),zr (b:=decide (x3<(p0n:Int))) U U (zi U U) (fun hb=>zE (Eq.trans (gv hb) (congrArg (fun a=>T a p0n p0c) (c29 (zo hb)))) (gv hb) ei_107 (c26 (zo hb)) ⟨zs hb,U⟩) (fun hb=>⟨zp hb,U⟩),zr (b:=decide (x3<(p0n:Int))) U U (zi U U) (fun hb=>zS (gv hb) ag_148 (c31 (zo hb)) ⟨zs hb,U⟩) (fun hb=>⟨zp hb,U⟩),zr (b:=decide (x3<(p0n:Int))) U U (zi U U) (fun hb=>zS a7_4 ag_148 (c33 (zo hb)) ⟨zs hb,U⟩) (fun hb=>⟨zp hb,U⟩),V⟩) U ⟨?_,V⟩
  obtain⟨J37,HR,HT,HF⟩:=H
  refine stepAt_gl (b:=decide (x3<(p0n:Int))) U U (zi U U) (fun v h34=>∃ (x36:Int),v=(bif decide (x3<(p0n:Int)) then (Z .i64 x36) else undef)∧J37 x36 h34) ?_ ?_ ?_
  ·rintro _ h34 ⟨x36,rfl,hJ⟩
   have H:=HR x36 h34 hJ
   refine⟨[(Value.int .i64 x3),(Value.int .i64 x3),(Value.int .i64 (p0n:Int)),(Value.bool (decide (x3<(p0n:Int)))),(Value.bool (decide (x3<(p0n:Int)))),(bif decide (x3<(p0n:Int)) then p2 else undef),(bif decide (x3<(p0n:Int)) then (Value.slice p0a p0n p0c) else undef),(bif decide (x3<(p0n:Int)) then (Value.int .i64 x3) else undef),(bif decide (x3<(p0n:Int)) then (Value.pointer (some ⟨b27,o28+x3.toNat * 3,none⟩)) else undef),(bif decide (x3<(p0n:Int)) then (Value.agg #[.int .i64 x30_0,.int .u64 x30_1,.int .i64 x30_2]) else undef),(bif decide (x3<(p0n:Int)) then (Value.agg #[.int .i64 x32_0,.int .u64 x32_1,.int .i64 x32_2]) else undef),(bif decide (x3<(p0n:Int)) then (Value.int .i64 x36) else undef),(bif decide (x3<(p0n:Int)) then (Value.bool (decide (x36=0))) else undef),(Value.bool ((decide (x3<(p0n:Int))) && (decide (x36=0)))),(Value.int .i64 x3),(Value.bool ((decide (x3<(p0n:Int))) && (decide (x36=0))))],rfl,(zH [0,1,2,3,4,5,6,7,8,9,10] rfl ⟨rfl,rfl,rfl,rfl,rfl,rfl,rfl,rfl,rfl,rfl,rfl,trivial⟩),?_⟩
   refine zJ U (zw [0,12,13,14,15] U ⟨zb U U (zd (v:=.int .i64 x3) a7_0 ⟨U,U⟩),zr (b:=decide (x3<(p0n:Int))) U U (zi U U) (fun hb=>op_eql (gv hb) U ⟨zs hb,U⟩) (fun hb=>⟨zp hb,U⟩),zb U U (zV U (fun hq=>(gv hq)) U ⟨U,U⟩),zb U U (zg (v:=.int .i64 x3) U ⟨U,U⟩),zb U U (zg (v:=.bool ((decide (x3<(p0n:Int))) && (decide (x36=0)))) U ⟨U,U⟩),V⟩) U ?_
   refine zx ?_
   exact zv (zq U (zq U zu)) H
  ·intro hb
   refine op_callV (vs:=[.agg #[.int .i64 x30_0,.int .u64 x30_1,.int .i64 x30_2],.agg #[.int .i64 x32_0,.int .u64 x32_1,.int .i64 x32_2]]) (gv hb) (zm (gv hb) (zm (gv hb) zy)) (CallsV.mono (HT (zo hb)) ?_)
   rintro _ h34 ⟨x36,rfl,hJ⟩
   exact⟨x36,zs hb,hJ⟩
  ·intro hb
   obtain⟨x36,hJ⟩:=HF (zn hb)
   exact⟨x36,zp hb,hJ⟩
def Gh8:Cert:=⟨[[],[],[],[1,2],[0,1,2,3],[],[],[5,6],[0,1,2,3,4,5,6,7]],[false,false,false,false,false,false,false,false,true]⟩
def Gh9:Cert:=⟨[[],[],[],[1,2],[0,1,2,3],[],[],[5,6],[0,1,2,3,4,5,6,7]],[false,false,false,false,false,false,false,false,true]⟩
def Ges (p0a:Option Addr) (p0n:Nat) (p0c:Nat) (p1:Int) (p2a:Option Addr) (p2n:Nat) (p2c:Nat) (K:Option Addr→Nat→Nat→Heap→Prop) (h:Heap):Prop:=
 ∃ (n1:Nat),p1=(n1:Int)∧(n1≤p0n∧p0n≤p0c∧p0c≤p0c)∧((p2n:Int)=0→K p0a p0n p0c h)∧((¬ ((p2n:Int)=0))→(p1=(p0n:Int)→∃ (m6:Nat) (ns7:List Value),(lenH (Value.slice p2a p2n p2c)=some m6∧firstH h 3 m6 (Value.slice p2a p2n p2c)=some ns7)∧appH 148 3 24 (Value.agg #[.int .i64 0,.int .u64 0,.int .i64 0]) p0a p0n p0c m6 ns7 h (fun a10 n11 q12 h13=>K a10 n11 q12 h13))∧((¬ (p1=(p0n:Int)))→(-9223372036854775808≤(p0n:Int)+(p2n:Int)∧(p0n:Int)+(p2n:Int)<9223372036854775808)∧((p0c:Int)<((p0n:Int)+(p2n:Int))→∃ (n16:Nat),p1=(n16:Int)∧(0≤n16∧n16≤p0c∧p0c≤p0c)∧(-9223372036854775808≤(p0n:Int)+(p2n:Int)∧(p0n:Int)+(p2n:Int)<9223372036854775808)∧(-9223372036854775808≤((p0n:Int)+(p2n:Int)) - p1∧((p0n:Int)+(p2n:Int)) - p1<9223372036854775808)∧∃ (n29:Nat),((p0n:Int)+(p2n:Int)) - p1=(n29:Int)∧appH 148 3 24 (Value.agg #[.int .i64 0,.int .u64 0,.int .i64 0]) (cutA p0a 0 p0c 3) n16 p0c n29 (zrep n29 [.int .i64 0,.int .u64 0,.int .i64 0]) h (fun a25 n26 q27 h28=>∃ (n30:Nat),p1=(n30:Int)∧(n30≤n26∧n26≤q27∧q27≤q27)∧∃ (m33:Nat) (h34:Heap),copyH 3 (n26 - n30) m33 (cutA a25 n30 q27 3) (Value.slice p2a p2n p2c) h28 h34∧(-9223372036854775808≤p1+(p2n:Int)∧p1+(p2n:Int)<9223372036854775808)∧∃ (n37:Nat),p1+(p2n:Int)=(n37:Int)∧(n37≤n26∧n26≤q27∧q27≤q27)∧∃ (n40:Nat),p1=(n40:Int)∧(n40≤p0n∧p0n≤p0c∧p0c≤p0c)∧∃ (m43:Nat) (h44:Heap),copyH 3 (n26 - n37) m43 (cutA a25 n37 q27 3) (Value.slice (cutA p0a n40 p0c 3) (p0n - n40) (p0c - n40)) h34 h44∧K a25 n26 q27 h44))∧((¬ ((p0c:Int)<((p0n:Int)+(p2n:Int))))→(-9223372036854775808≤(p0n:Int)+(p2n:Int)∧(p0n:Int)+(p2n:Int)<9223372036854775808)∧∃ (n47:Nat),(p0n:Int)+(p2n:Int)=(n47:Int)∧(0≤n47∧n47≤p0c∧p0c≤p0c)∧(-9223372036854775808≤p1+(p2n:Int)∧p1+(p2n:Int)<9223372036854775808)∧∃ (n51:Nat),p1+(p2n:Int)=(n51:Int)∧(n51≤n47∧n47≤p0c∧p0c≤p0c)∧ovH h p2a (cutA (cutA p0a 0 p0c 3) n51 p0c 3)∧(-9223372036854775808≤p1+(p2n:Int)∧p1+(p2n:Int)<9223372036854775808)∧∃ (n56:Nat),p1+(p2n:Int)=(n56:Int)∧(n56≤n47∧n47≤p0c∧p0c≤p0c)∧∃ (n59:Nat),p1=(n59:Int)∧(n59≤n47∧n47≤p0c∧p0c≤p0c)∧∃ (m62:Nat) (h63:Heap),copyH 3 (n47 - n56) m62 (cutA (cutA p0a 0 p0c 3) n56 p0c 3) (Value.slice (cutA (cutA p0a 0 p0c 3) n59 p0c 3) (n47 - n59) (p0c - n59)) h h63∧∃ (n65:Nat),p1=(n65:Int)∧(n65≤n47∧n47≤p0c∧p0c≤p0c)∧∃ (m68:Nat) (h69:Heap),copyH 3 (n47 - n65) m68 (cutA (cutA p0a 0 p0c 3) n65 p0c 3) (Value.slice p2a p2n p2c) h63 h69∧K (cutA p0a 0 p0c 3) n47 p0c h69)))
theorem Get (p0a:Option Addr) (p0n:Nat) (p0c:Nat) (p1:Int) (p2a:Option Addr) (p2n:Nat) (p2c:Nat) (R:Value→Heap→Prop) (h:Heap) (H:Ges p0a p0n p0c p1 p2a p2n p2c (fun r0a r0n r0c h'=>R (Value.slice r0a r0n r0c) h') h):CallsH PR Gn5 #[.slice p0a p0n p0c,.int .i64 p1,.slice p2a p2n p2c] h R:=by
 refine zD (args:=[.slice p0a p0n p0c,.int .i64 p1,.slice p2a p2n p2c]) Tryz.func131 U U ?_
 intro f hf
 have e0:=hf 0 _ rfl
 have e1:=hf 1 _ rfl
 have e2:=hf 2 _ rfl
 clear hf
 unfold Ges at H
 refine ze ?_
 refine zc U ?_
 refine za (zg (v:=.slice none 0 0) U ?_)
 refine zh ?_
 refine ze ?_
 refine zc U ?_
 refine za (zd (v:=.slice p0a p0n p0c) e0 ?_)
 refine za (zd (v:=.int .i64 p1) e1 ?_)
 obtain⟨n1,c2,H⟩:=H
 obtain⟨c3,H⟩:=H
 refine za (yc ei_107 U ⟨_,Eq.trans U (congrArg (Z .i64) c2)⟩ U U (.inl U) c3.1 c3.2.1 c3.2.2 ?_)
 refine zh ?_
 refine ze ?_
 refine zc U ?_
 refine za (zd (v:=.slice p2a p2n p2c) e2 ?_)
 refine za (zN U un_107 ?_)
 refine za (zg (v:=.int .i64 (p2n:Int)) U ?_)
 refine zh ?_
 refine ze ?_
 refine ze ?_
 refine zc U ?_
 refine za (zd (v:=.int .i64 (p2n:Int)) U ?_)
 refine za (op_eql U U ?_)
 refine zh ?_
 refine zz (decide ((p2n:Int)=0)) U ?_ ?_
 ·intro hb
  replace H:=H.1 (zo hb)
  refine ze ?_
  refine zc U ?_
  refine za (zd (v:=.slice p0a p0n p0c) e0 ?_)
  refine za (zg (v:=.slice p0a p0n p0c) U ?_)
  refine zh ?_
  refine zx ?_
  exact zv (zq U zu) H
 ·intro hb
  replace H:=H.2 (zn hb)
  refine zC ?_
  refine ze ?_
  refine zc U ?_
  refine za (zd (v:=.slice p0a p0n p0c) e0 ?_)
  refine za (zN U un_107 ?_)
  refine za (zg (v:=.int .i64 (p0n:Int)) U ?_)
  refine zh ?_
  refine ze ?_
  refine ze ?_
  refine zc U ?_
  refine za (zd (v:=.int .i64 p1) e1 ?_)
  refine za (zd (v:=.int .i64 (p0n:Int)) U ?_)
  refine za (op_eql U U ?_)
  refine zh ?_
  refine zz (decide (p1=(p0n:Int))) U ?_ ?_
  ·intro hb
   replace H:=H.1 (zo hb)
   refine ze ?_
   refine zc U ?_
   refine za (zd (v:=.slice p0a p0n p0c) e0 ?_)
   refine za (zd (v:=.slice p2a p2n p2c) e2 ?_)
   obtain⟨m6,ns7,c8,H⟩:=H
   refine za (op_append' (src:=(T p2a p2n p2c)) (news:=ns7) ri_107 (.inl ⟨_,un_107⟩) U U c8.1 c8.2 (appH.mono H ?_))
   clear H
   intro a10 n11 q12 h13 H
   refine za (zg (v:=.slice a10 n11 q12) U ?_)
   refine zh ?_
   refine zx ?_
   exact zv (zq U zu) H
  ·intro hb
   replace H:=H.2 (zn hb)
   refine zC ?_
   refine ze ?_
   refine ze ?_
   refine zc U ?_
   refine za (zd (v:=.int .i64 (p0n:Int)) U ?_)
   refine za (zd (v:=.int .i64 (p2n:Int)) U ?_)
   obtain⟨c14,H⟩:=H
   refine za (yf U U (zU c14) ?_)
   refine za (zd (v:=.slice p0a p0n p0c) e0 ?_)
   refine za (op_cap_slice U un_107 ?_)
   refine za (yj U U ?_)
   refine zh ?_
   refine zz (decide ((p0c:Int)<((p0n:Int)+(p2n:Int)))) U ?_ ?_
   ·intro hb
    replace H:=H.1 (zo hb)
    refine ze ?_
    refine zc U ?_
    refine za (zd (v:=.slice p0a p0n p0c) e0 ?_)
    refine za (zd (v:=.int .i64 p1) e1 ?_)
    obtain⟨n16,c17,H⟩:=H
    obtain⟨c18,H⟩:=H
    refine za (yc ei_107 U U ⟨_,Eq.trans U (congrArg (Z .i64) c17)⟩ U (.inl U) c18.1 c18.2.1 c18.2.2 ?_)
    refine za (zd (v:=.int .i64 (p0n:Int)) U ?_)
    refine za (zd (v:=.int .i64 (p2n:Int)) U ?_)
    obtain⟨c19,H⟩:=H
    refine za (yf U U (zU c19) ?_)
    refine za (zd (v:=.int .i64 p1) e1 ?_)
    obtain⟨c20,H⟩:=H
    refine za (op_sub U U (zU c20) ?_)
    obtain⟨n29,c23,H⟩:=H
    refine za (op_appendZ (zl:=[.int .i64 0,.int .u64 0,.int .i64 0]) ri_107 un_3 U U U (Eq.trans U (congrArg (Z .i64) c23)) (appH.mono H ?_))
    clear H
    intro a25 n26 q27 h28 H
    refine za (zg (v:=.slice a25 n26 q27) U ?_)
    refine zh ?_
    refine ze ?_
    refine zc U ?_
    refine za (zd (v:=.slice a25 n26 q27) U ?_)
    refine za (zd (v:=.int .i64 p1) e1 ?_)
    obtain⟨n30,c31,H⟩:=H
    obtain⟨c32,H⟩:=H
    refine za (yc ei_107 U ⟨_,Eq.trans U (congrArg (Z .i64) c31)⟩ U U (.inl U) c32.1 c32.2.1 c32.2.2 ?_)
    refine za (zd (v:=.slice p2a p2n p2c) e2 ?_)
    obtain⟨m33,h34,c35,H⟩:=H
    refine za (op_copyH (src:=(T p2a p2n p2c)) ei_107 U U c35 ?_)
    refine zh ?_
    refine ze ?_
    obtain⟨c36,H⟩:=H
    obtain⟨n37,c38,H⟩:=H
    obtain⟨c39,H⟩:=H
    obtain⟨n40,c41,H⟩:=H
    obtain⟨c42,H⟩:=H
    refine zO Gh8 1 [(T a25 n26 q27),(Z .i64 p1),(Z .i64 (p2n:Int)),(Z .i64 (p1+(p2n:Int))),(T (cutA a25 n37 q27 3) (n26 - n37) (q27 - n37)),(T p0a p0n p0c),(Z .i64 p1),(T (cutA p0a n40 p0c 3) (p0n - n40) (p0c - n40)),undef] (by kernel_rfl) U mixed_PR ?_
    refine zA [8] (by decide) U (zw [0,1,2,3,4,5,6,7] U ⟨zb U U (zd (v:=.slice a25 n26 q27) U ⟨U,U⟩),zb U U (zd (v:=.int .i64 p1) e1 ⟨U,U⟩),zb U U (zd (v:=.int .i64 (p2n:Int)) U ⟨U,U⟩),zb U U (yf U U (zU c36) ⟨U,U⟩),zb U U (yc ei_107 U ⟨_,Eq.trans U (congrArg (Z .i64) c38)⟩ U U (.inl U) c39.1 c39.2.1 c39.2.2 ⟨U,U⟩),zb U U (zd (v:=.slice p0a p0n p0c) e0 ⟨U,U⟩),zb U U (zd (v:=.int .i64 p1) e1 ⟨U,U⟩),zb U U (yc ei_107 U ⟨_,Eq.trans U (congrArg (Z .i64) c41)⟩ U U (.inl U) c42.1 c42.2.1 c42.2.2 ⟨U,U⟩),V⟩) U ⟨?_,V⟩
    obtain⟨m43,h44,c45,H⟩:=H
    refine zb U U (op_copyH (src:=(T (cutA p0a n40 p0c 3) (p0n - n40) (p0c - n40))) ei_107 U U c45 ?_)
    refine⟨[(Value.slice a25 n26 q27),(Value.int .i64 p1),(Value.int .i64 (p2n:Int)),(Value.int .i64 (p1+(p2n:Int))),(Value.slice (cutA a25 n37 q27 3) (n26 - n37) (q27 - n37)),(Value.slice p0a p0n p0c),(Value.int .i64 p1),(Value.slice (cutA p0a n40 p0c 3) (p0n - n40) (p0c - n40)),(Value.int .i64 ((min m43 (n26 - n37):Nat):Int))],rfl,(zH [0,1,2,3,4,5,6,7] rfl ⟨rfl,rfl,rfl,rfl,rfl,rfl,rfl,rfl,trivial⟩),?_⟩
    refine zJ U (zw [] U V) U ?_
    refine ze ?_
    refine zc U ?_
    refine za (zd (v:=.slice a25 n26 q27) U ?_)
    refine za (zg (v:=.slice a25 n26 q27) U ?_)
    refine zh ?_
    refine zx ?_
    exact zv (zq U zu) H
   ·intro hb
    replace H:=H.2 (zn hb)
    refine zC ?_
    refine ze ?_
    refine zc U ?_
    refine za (zd (v:=.slice p0a p0n p0c) e0 ?_)
    refine za (zd (v:=.int .i64 (p0n:Int)) U ?_)
    refine za (zd (v:=.int .i64 (p2n:Int)) U ?_)
    obtain⟨c46,H⟩:=H
    refine za (yf U U (zU c46) ?_)
    obtain⟨n47,c48,H⟩:=H
    obtain⟨c49,H⟩:=H
    refine za (yc ei_107 U U ⟨_,Eq.trans U (congrArg (Z .i64) c48)⟩ U (.inl U) c49.1 c49.2.1 c49.2.2 ?_)
    refine za (zg (v:=.slice (cutA p0a 0 p0c 3) n47 p0c) U ?_)
    refine zh ?_
    refine ze ?_
    refine ze ?_
    refine zc U ?_
    refine za (zd (v:=.slice p2a p2n p2c) e2 ?_)
    refine za (zd (v:=.slice (cutA p0a 0 p0c 3) n47 p0c) U ?_)
    refine za (zd (v:=.int .i64 p1) e1 ?_)
    refine za (zd (v:=.int .i64 (p2n:Int)) U ?_)
    obtain⟨c50,H⟩:=H
    refine za (yf U U (zU c50) ?_)
    obtain⟨n51,c52,H⟩:=H
    obtain⟨c53,H⟩:=H
    refine za (yc ei_107 U ⟨_,Eq.trans U (congrArg (Z .i64) c52)⟩ U U (.inl U) c53.1 c53.2.1 c53.2.2 ?_)
    obtain⟨c54,H⟩:=H
    refine za (op_overlaps ov_170 un_107 sz_148 U U c54 ?_)
    refine za (yi U ?_)
    refine zh ?_
    refine zz true U (fun _=>?_) (fun hq=>by cases hq)
    refine ze ?_
    obtain⟨c55,H⟩:=H
    obtain⟨n56,c57,H⟩:=H
    obtain⟨c58,H⟩:=H
    obtain⟨n59,c60,H⟩:=H
    obtain⟨c61,H⟩:=H
    refine zO Gh9 1 [(T (cutA p0a 0 p0c 3) n47 p0c),(Z .i64 p1),(Z .i64 (p2n:Int)),(Z .i64 (p1+(p2n:Int))),(T (cutA (cutA p0a 0 p0c 3) n56 p0c 3) (n47 - n56) (p0c - n56)),(T (cutA p0a 0 p0c 3) n47 p0c),(Z .i64 p1),(T (cutA (cutA p0a 0 p0c 3) n59 p0c 3) (n47 - n59) (p0c - n59)),undef] (by kernel_rfl) U mixed_PR ?_
    refine zA [8] (by decide) U (zw [0,1,2,3,4,5,6,7] U ⟨zb U U (zd (v:=.slice (cutA p0a 0 p0c 3) n47 p0c) U ⟨U,U⟩),zb U U (zd (v:=.int .i64 p1) e1 ⟨U,U⟩),zb U U (zd (v:=.int .i64 (p2n:Int)) U ⟨U,U⟩),zb U U (yf U U (zU c55) ⟨U,U⟩),zb U U (yc ei_107 U ⟨_,Eq.trans U (congrArg (Z .i64) c57)⟩ U U (.inl U) c58.1 c58.2.1 c58.2.2 ⟨U,U⟩),zb U U (zd (v:=.slice (cutA p0a 0 p0c 3) n47 p0c) U ⟨U,U⟩),zb U U (zd (v:=.int .i64 p1) e1 ⟨U,U⟩),zb U U (yc ei_107 U ⟨_,Eq.trans U (congrArg (Z .i64) c60)⟩ U U (.inl U) c61.1 c61.2.1 c61.2.2 ⟨U,U⟩),V⟩) U ⟨?_,V⟩
    obtain⟨m62,h63,c64,H⟩:=H
    refine zb U U (op_copyH (src:=(T (cutA (cutA p0a 0 p0c 3) n59 p0c 3) (n47 - n59) (p0c - n59))) ei_107 U U c64 ?_)
    refine⟨[(Value.slice (cutA p0a 0 p0c 3) n47 p0c),(Value.int .i64 p1),(Value.int .i64 (p2n:Int)),(Value.int .i64 (p1+(p2n:Int))),(Value.slice (cutA (cutA p0a 0 p0c 3) n56 p0c 3) (n47 - n56) (p0c - n56)),(Value.slice (cutA p0a 0 p0c 3) n47 p0c),(Value.int .i64 p1),(Value.slice (cutA (cutA p0a 0 p0c 3) n59 p0c 3) (n47 - n59) (p0c - n59)),(Value.int .i64 ((min m62 (n47 - n56):Nat):Int))],rfl,(zH [0,1,2,3,4,5,6,7] rfl ⟨rfl,rfl,rfl,rfl,rfl,rfl,rfl,rfl,trivial⟩),?_⟩
    refine zJ U (zw [] U V) U ?_
    refine ze ?_
    refine zc U ?_
    refine za (zd (v:=.slice (cutA p0a 0 p0c 3) n47 p0c) U ?_)
    refine za (zd (v:=.int .i64 p1) e1 ?_)
    obtain⟨n65,c66,H⟩:=H
    obtain⟨c67,H⟩:=H
    refine za (yc ei_107 U ⟨_,Eq.trans U (congrArg (Z .i64) c66)⟩ U U (.inl U) c67.1 c67.2.1 c67.2.2 ?_)
    refine za (zd (v:=.slice p2a p2n p2c) e2 ?_)
    obtain⟨m68,h69,c70,H⟩:=H
    refine za (op_copyH (src:=(T p2a p2n p2c)) ei_107 U U c70 ?_)
    refine zh ?_
    refine ze ?_
    refine zc U ?_
    refine za (zd (v:=.slice (cutA p0a 0 p0c 3) n47 p0c) U ?_)
    refine za (zg (v:=.slice (cutA p0a 0 p0c 3) n47 p0c) U ?_)
    refine zh ?_
    refine zx ?_
    exact zv (zq U zu) H
def Geq (p0a:Option Addr) (p0n:Nat) (p0c:Nat) (p1:Value) (K:Int→Heap→Prop) (h:Heap):Prop:=
 ∃ (I2:Int→Heap→Prop) (mu3:Int→Heap→Nat),I2 0 h∧∀ (x1:Int) (h5:Heap),I2 x1 h5→(x1<(p0n:Int)→∃ (b8:Nat) (o9:Nat),p0a=some ⟨b8,o9,none⟩∧(0≤x1∧x1<(p0n:Int))∧∃ (x11_0:Int) (x11_1:Int) (x11_2:Int),ldCells h5 b8 (o9+x1.toNat * 3) 3=some [.int .i64 x11_0,.int .u64 x11_1,.int .i64 x11_2]∧CallsV PR p1 [.agg #[.int .i64 x11_0,.int .u64 x11_1,.int .i64 x11_2]] h5 (fun v h13=>∃ (x15:Bool),v=(Value.bool x15)∧(x15=true→K x1 h13)∧(x15=false→(-9223372036854775808≤x1+1∧x1+1<9223372036854775808)∧(I2 (x1+1) h13∧mu3 (x1+1) h13<mu3 x1 h5))))∧((¬ (x1<(p0n:Int)))→K (-1) h5)
theorem Ger (p0a:Option Addr) (p0n:Nat) (p0c:Nat) (p1:Value) (R:Value→Heap→Prop) (h:Heap) (H:Geq p0a p0n p0c p1 (fun r0 h'=>R (Value.int .i64 r0) h') h):CallsH PR Gn4 #[.slice p0a p0n p0c,p1] h R:=by
 refine zD (args:=[.slice p0a p0n p0c,p1]) Tryz.func165 U U ?_
 intro f hf
 have e0:=hf 0 _ rfl
 have e1:=hf 1 _ rfl
 clear hf
 unfold Geq at H
 refine ze ?_
 refine zc U ?_
 refine za (zg (v:=.int .i64 0) U ?_)
 refine zh ?_
 refine ze ?_
 refine ze ?_
 refine zc U ?_
 refine za (zd (v:=.slice p0a p0n p0c) e0 ?_)
 refine za (zN U un_107 ?_)
 refine za (zd (v:=.int .i64 0) U ?_)
 refine zh ?_
 refine zK ?_
 obtain⟨I2,mu3,hI,H⟩:=H
 obtain⟨I4,mu4,hin4,hout4,hmu4⟩ : ∃ (J4:Fr→Heap→Prop) (m:Fr→Heap→Nat),(∀ f hz (x1:Int),f 8 = .int .i64 x1→f 0 = .slice p0a p0n p0c→f 1=p1→f 7 = .int .i64 (p0n:Int)→I2 x1 hz→J4 f hz)∧(∀ f hz,J4 f hz→∃ (x1:Int),f 8 = .int .i64 x1∧f 0 = .slice p0a p0n p0c∧f 1=p1∧f 7 = .int .i64 (p0n:Int)∧I2 x1 hz)∧(∀ f hz (x1:Int),f 8 = .int .i64 x1→m f hz=mu3 x1 hz):=⟨fun f hz=>∃ (x1:Int),f 8 = .int .i64 x1∧f 0 = .slice p0a p0n p0c∧f 1=p1∧f 7 = .int .i64 (p0n:Int)∧I2 x1 hz,fun f hz=>mu3 (dInt (f 8)) hz,fun _ _ x1 a0 a1 a2 a3 z=>⟨x1,a0,a1,a2,a3,z⟩,fun _ _ hz=>hz,fun f hz x1 a0=>by simp only [a0]; rfl⟩
 refine yb I4 mu4 (hin4 _ _ _ U e0 e1 U hI) ?_
 clear hI
 intro f h5 hf
 obtain⟨x1,a4_0,a4_1,a4_2,a4_3,hJ⟩:=hout4 _ _ hf
 replace H:=H x1 h5 hJ
 refine ze ?_
 refine zc U ?_
 refine za (zY a4_0 a4_3 ?_)
 refine zh ?_
 refine ze ?_
 refine zz (decide (x1<(p0n:Int))) U ?_ ?_
 ·intro hb
  replace H:=H.1 (zo hb)
  refine zC ?_
  refine ze ?_
  refine zK ?_
  refine ze ?_
  refine zc U ?_
  refine za (zd (v:=.int .i64 x1) a4_0 ?_)
  refine za (zg (v:=.int .i64 x1) U ?_)
  refine zh ?_
  refine ze ?_
  refine zc U ?_
  refine za (zd (v:=p1) a4_2 ?_)
  refine za (zd (v:=.slice p0a p0n p0c) a4_1 ?_)
  refine za (zd (v:=.int .i64 x1) U ?_)
  obtain⟨b8,o9,rfl,H⟩:=H
  obtain⟨c7,H⟩:=H
  refine za (zE U U ei_107 c7 ?_)
  obtain⟨x11_0,x11_1,x11_2,c12,H⟩:=H
  refine za (zS U ag_148 c12 ?_)
  refine za (op_callV (vs:=[.agg #[.int .i64 x11_0,.int .u64 x11_1,.int .i64 x11_2]]) U (zm U zy) (CallsV.mono H ?_))
  clear H
  rintro _ h13 ⟨x15,rfl,H⟩
  refine zh ?_
  refine zz (x15) U ?_ ?_
  ·intro hb
   replace H:=H.1 hb
   refine ze ?_
   refine zc U ?_
   refine za (zd (v:=.int .i64 x1) U ?_)
   refine za (zg (v:=.int .i64 x1) U ?_)
   refine zh ?_
   refine zx ?_
   exact zv (zq U zu) H
  ·intro hb
   replace H:=H.2 hb
   refine zC ?_
   refine zc U ?_
   obtain⟨c16,H⟩:=H
   refine za (yf a4_0 U (zU c16) ?_)
   refine za (zd (v:=.int .i64 (x1+1)) U ?_)
   refine zh ?_
   exact And.intro (hin4 _ _ _ rfl a4_1 a4_2 a4_3 H.1) (yk (hmu4 _ _ _ rfl) (hmu4 _ _ _ a4_0) H.2)
 ·intro hb
  replace H:=H.2 (zn hb)
  refine ya ?_
  refine ze ?_
  refine zc U ?_
  refine za (zg (v:=.int .i64 (-1)) U ?_)
  refine zh ?_
  refine zx ?_
  exact zv (zq U zu) H
def Gh7:Cert:=⟨[[],[],[0,1],[],[],[3,4],[0,1,2,3,4,5]],[false,false,false,false,false,false,true]⟩
def Gem (p0a:Option Addr) (p0n:Nat) (p0c:Nat) (p1:Int) (p2:Int) (K:Option Addr→Nat→Nat→Heap→Prop) (h:Heap):Prop:=
 ∃ (n1:Nat),p1=(n1:Int)∧∃ (n3:Nat),p2=(n3:Int)∧∃ (n5:Nat),(p0n:Int)=(n5:Int)∧(n1≤n3∧n3≤n5∧n5≤p0c)∧(p1=p2→K p0a p0n p0c h)∧((¬ (p1=p2))→∃ (n9:Nat),p1=(n9:Int)∧(0≤n9∧n9≤p0c∧p0c≤p0c)∧∃ (n12:Nat),p2=(n12:Int)∧(n12≤p0n∧p0n≤p0c∧p0c≤p0c)∧∃ (m15:Nat) (ns16:List Value),(lenH (Value.slice (cutA p0a n12 p0c 3) (p0n - n12) (p0c - n12))=some m15∧firstH h 3 m15 (Value.slice (cutA p0a n12 p0c 3) (p0n - n12) (p0c - n12))=some ns16)∧appH 148 3 24 (Value.agg #[.int .i64 0,.int .u64 0,.int .i64 0]) (cutA p0a 0 p0c 3) n9 p0c m15 ns16 h (fun a19 n20 q21 h22=>∃ (n23:Nat),(n20:Int)=(n23:Int)∧∃ (n25:Nat),(p0n:Int)=(n25:Int)∧(n23≤n25∧n25≤q21∧q21≤q21)∧∃ (h28:Heap),clearH 3 (n25 - n23) (cutA a19 n23 q21 3) [.int .i64 0,.int .u64 0,.int .i64 0] h22 h28∧K a19 n20 q21 h28))
theorem Gen (p0a:Option Addr) (p0n:Nat) (p0c:Nat) (p1:Int) (p2:Int) (R:Value→Heap→Prop) (h:Heap) (H:Gem p0a p0n p0c p1 p2 (fun r0a r0n r0c h'=>R (Value.slice r0a r0n r0c) h') h):CallsH PR Gn2 #[.slice p0a p0n p0c,.int .i64 p1,.int .i64 p2] h R:=by
 refine zD (args:=[.slice p0a p0n p0c,.int .i64 p1,.int .i64 p2]) Tryz.func176 U U ?_
 intro f hf
 have e0:=hf 0 _ rfl
 have e1:=hf 1 _ rfl
 have e2:=hf 2 _ rfl
 clear hf
 unfold Gem at H
 refine ze ?_
 refine zc U ?_
 refine za (zg (v:=.slice none 0 0) U ?_)
 refine zh ?_
 refine ze ?_
 refine zc U ?_
 refine za (zd (v:=.slice p0a p0n p0c) e0 ?_)
 refine za (zd (v:=.int .i64 p1) e1 ?_)
 refine za (zd (v:=.int .i64 p2) e2 ?_)
 refine za (zd (v:=.slice p0a p0n p0c) e0 ?_)
 refine za (zN U un_107 ?_)
 obtain⟨n1,c2,H⟩:=H
 obtain⟨n3,c4,H⟩:=H
 obtain⟨n5,c6,H⟩:=H
 obtain⟨c7,H⟩:=H
 refine za (yc ei_107 U ⟨_,Eq.trans U (congrArg (Z .i64) c2)⟩ ⟨_,Eq.trans U (congrArg (Z .i64) c4)⟩ ⟨_,Eq.trans U (congrArg (Z .i64) c6)⟩ (.inr U) c7.1 c7.2.1 c7.2.2 ?_)
 refine zh ?_
 refine ze ?_
 refine ze ?_
 refine zc U ?_
 refine za (zd (v:=.int .i64 p1) e1 ?_)
 refine za (zd (v:=.int .i64 p2) e2 ?_)
 refine za (op_eql U U ?_)
 refine zh ?_
 refine zz (decide (p1=p2)) U ?_ ?_
 ·intro hb
  replace H:=H.1 (zo hb)
  refine ze ?_
  refine zc U ?_
  refine za (zd (v:=.slice p0a p0n p0c) e0 ?_)
  refine za (zg (v:=.slice p0a p0n p0c) U ?_)
  refine zh ?_
  refine zx ?_
  exact zv (zq U zu) H
 ·intro hb
  replace H:=H.2 (zn hb)
  refine zC ?_
  refine ze ?_
  refine zc U ?_
  refine za (zd (v:=.slice p0a p0n p0c) e0 ?_)
  refine za (zN U un_107 ?_)
  refine za (zg (v:=.int .i64 (p0n:Int)) U ?_)
  refine zh ?_
  refine ze ?_
  obtain⟨n9,c10,H⟩:=H
  obtain⟨c11,H⟩:=H
  obtain⟨n12,c13,H⟩:=H
  obtain⟨c14,H⟩:=H
  refine wpf_draw_take 7 U Gh7 1 [(T p0a p0n p0c),(Z .i64 p1),(T (cutA p0a 0 p0c 3) n9 p0c),(T p0a p0n p0c),(Z .i64 p2),(T (cutA p0a n12 p0c 3) (p0n - n12) (p0c - n12)),undef] (by kernel_rfl) U U (by kernel_rfl) mixed_PR ?_
  refine zA [6] (by decide) U (zw [0,1,2,3,4,5] U ⟨zb U U (zd (v:=.slice p0a p0n p0c) e0 ⟨U,U⟩),zb U U (zd (v:=.int .i64 p1) e1 ⟨U,U⟩),zb U U (yc ei_107 U U ⟨_,Eq.trans U (congrArg (Z .i64) c10)⟩ U (.inl U) c11.1 c11.2.1 c11.2.2 ⟨U,U⟩),zb U U (zd (v:=.slice p0a p0n p0c) e0 ⟨U,U⟩),zb U U (zd (v:=.int .i64 p2) e2 ⟨U,U⟩),zb U U (yc ei_107 U ⟨_,Eq.trans U (congrArg (Z .i64) c13)⟩ U U (.inl U) c14.1 c14.2.1 c14.2.2 ⟨U,U⟩),V⟩) U ⟨?_,V⟩
  obtain⟨m15,ns16,c17,H⟩:=H
  refine zb U U (op_append' (src:=(T (cutA p0a n12 p0c 3) (p0n - n12) (p0c - n12))) (news:=ns16) ri_107 (.inl ⟨_,un_107⟩) U U c17.1 c17.2 (appH.mono H ?_))
  clear H
  intro a19 n20 q21 h22 H
  refine⟨[(Value.slice p0a p0n p0c),(Value.int .i64 p1),(Value.slice (cutA p0a 0 p0c 3) n9 p0c),(Value.slice p0a p0n p0c),(Value.int .i64 p2),(Value.slice (cutA p0a n12 p0c 3) (p0n - n12) (p0c - n12)),(Value.slice a19 n20 q21)],rfl,(zH [0,1,2,3,4,5] rfl ⟨rfl,rfl,rfl,rfl,rfl,rfl,trivial⟩),?_⟩
  refine zJ U (zw [] U V) U ?_
  refine zg (v:=.slice a19 n20 q21) U ?_
  refine ze ?_
  refine zc U ?_
  refine za (zd (v:=.slice a19 n20 q21) U ?_)
  refine za (zd (v:=.slice a19 n20 q21) U ?_)
  refine za (zN U un_107 ?_)
  refine za (zd (v:=.int .i64 (p0n:Int)) U ?_)
  obtain⟨n23,c24,H⟩:=H
  obtain⟨n25,c26,H⟩:=H
  obtain⟨c27,H⟩:=H
  refine za (yc ei_107 U ⟨_,Eq.trans U (congrArg (Z .i64) c24)⟩ ⟨_,Eq.trans U (congrArg (Z .i64) c26)⟩ U (.inl U) c27.1 c27.2.1 c27.2.2 ?_)
  obtain⟨h28,c29,H⟩:=H
  refine za (op_clear (zl:=[.int .i64 0,.int .u64 0,.int .i64 0]) ri_107 U U c29 ?_)
  refine zh ?_
  refine ze ?_
  refine zc U ?_
  refine za (zd (v:=.slice a19 n20 q21) U ?_)
  refine za (zg (v:=.slice a19 n20 q21) U ?_)
  refine zh ?_
  refine zx ?_
  exact zv (zq U zu) H
def Ga6 (p0a:Option Addr) (p0n:Nat) (p0c:Nat) (K:Int→Heap→Prop) (h:Heap):Prop:=
 ∃ (I2:Int→Heap→Prop) (mu3:Int→Heap→Nat),I2 0 h∧∀ (x1:Int) (h5:Heap),I2 x1 h5→(x1<(p0n:Int)→∃ (b8:Nat) (o9:Nat),p0a=some ⟨b8,o9,none⟩∧(0≤x1∧x1<(p0n:Int))∧∃ (x11:Int),cellH h5 b8 (o9+x1.toNat * 1)=some (.int .i64 x11)∧((¬ (x11=0))→K x11 h5)∧(x11=0→(-9223372036854775808≤x1+1∧x1+1<9223372036854775808)∧(I2 (x1+1) h5∧mu3 (x1+1) h5<mu3 x1 h5)))∧((¬ (x1<(p0n:Int)))→K 0 h5)
theorem Ga7 (p0a:Option Addr) (p0n:Nat) (p0c:Nat) (R:Value→Heap→Prop) (h:Heap) (H:Ga6 p0a p0n p0c (fun r0 h'=>R (Value.int .i64 r0) h') h):CallsH PR Gho #[.slice p0a p0n p0c] h R:=by
 refine zD (args:=[.slice p0a p0n p0c]) Tryz.func167 U U ?_
 intro f hf
 have e0:=hf 0 _ rfl
 clear hf
 unfold Ga6 at H
 refine ze ?_
 refine zc U ?_
 refine za (zg (v:=.int .i64 0) U ?_)
 refine zh ?_
 refine ze ?_
 refine zc U ?_
 refine za (zg (v:=.int .i64 0) U ?_)
 refine zh ?_
 refine ze ?_
 refine ze ?_
 refine zc U ?_
 refine za (zd (v:=.slice p0a p0n p0c) e0 ?_)
 refine za (zN U un_34 ?_)
 refine za (zd (v:=.int .i64 0) U ?_)
 refine zh ?_
 refine zK ?_
 obtain⟨I2,mu3,hI,H⟩:=H
 obtain⟨I4,mu4,hin4,hout4,hmu4⟩ : ∃ (J4:Fr→Heap→Prop) (m:Fr→Heap→Nat),(∀ f hz (x1:Int),f 8 = .int .i64 x1→f 3 = .int .i64 0→f 6 = .slice p0a p0n p0c→f 7 = .int .i64 (p0n:Int)→I2 x1 hz→J4 f hz)∧(∀ f hz,J4 f hz→∃ (x1:Int),f 8 = .int .i64 x1∧f 3 = .int .i64 0∧f 6 = .slice p0a p0n p0c∧f 7 = .int .i64 (p0n:Int)∧I2 x1 hz)∧(∀ f hz (x1:Int),f 8 = .int .i64 x1→m f hz=mu3 x1 hz):=⟨fun f hz=>∃ (x1:Int),f 8 = .int .i64 x1∧f 3 = .int .i64 0∧f 6 = .slice p0a p0n p0c∧f 7 = .int .i64 (p0n:Int)∧I2 x1 hz,fun f hz=>mu3 (dInt (f 8)) hz,fun _ _ x1 a0 a1 a2 a3 z=>⟨x1,a0,a1,a2,a3,z⟩,fun _ _ hz=>hz,fun f hz x1 a0=>by simp only [a0]; rfl⟩
 refine yb I4 mu4 (hin4 _ _ _ U U U U hI) ?_
 clear hI
 intro f h5 hf
 obtain⟨x1,a4_0,a4_1,a4_2,a4_3,hJ⟩:=hout4 _ _ hf
 replace H:=H x1 h5 hJ
 refine ze ?_
 refine zc U ?_
 refine za (zY a4_0 a4_3 ?_)
 refine zh ?_
 refine ze ?_
 refine zz (decide (x1<(p0n:Int))) U ?_ ?_
 ·intro hb
  replace H:=H.1 (zo hb)
  refine zC ?_
  refine ze ?_
  refine zK ?_
  refine ze ?_
  refine zc U ?_
  obtain⟨b8,o9,rfl,H⟩:=H
  obtain⟨c7,H⟩:=H
  refine za (zE a4_2 a4_0 ei_34 c7 ?_)
  obtain⟨x11,c12,H⟩:=H
  refine za (zk U ag_3 c12 ?_)
  refine za (zg (v:=.int .i64 x11) U ?_)
  refine zh ?_
  refine ze ?_
  refine zc U ?_
  refine za (zd (v:=.int .i64 x11) U ?_)
  refine za (zd (v:=.int .i64 0) a4_1 ?_)
  refine za (op_neq U U ?_)
  refine zh ?_
  refine zz (!decide (x11=0)) U ?_ ?_
  ·intro hb
   replace H:=H.1 (zn (zt hb))
   refine ze ?_
   refine zc U ?_
   refine za (zd (v:=.int .i64 x11) U ?_)
   refine za (zg (v:=.int .i64 x11) U ?_)
   refine zh ?_
   refine zx ?_
   exact zv (zq U zu) H
  ·intro hb
   replace H:=H.2 (zo (zL hb))
   refine zC ?_
   refine zc U ?_
   obtain⟨c14,H⟩:=H
   refine za (yf a4_0 U (zU c14) ?_)
   refine za (zd (v:=.int .i64 (x1+1)) U ?_)
   refine zh ?_
   exact And.intro (hin4 _ _ _ rfl a4_1 a4_2 a4_3 H.1) (yk (hmu4 _ _ _ rfl) (hmu4 _ _ _ a4_0) H.2)
 ·intro hb
  replace H:=H.2 (zn hb)
  refine ya ?_
  refine ze ?_
  refine zc U ?_
  refine za (zd (v:=.int .i64 0) a4_1 ?_)
  refine za (zg (v:=.int .i64 0) U ?_)
  refine zh ?_
  refine zx ?_
  exact zv (zq U zu) H
def Ga4 (p0:Int) (p1:Int) (K:Int→Heap→Prop) (h:Heap):Prop:=
 CallsH PR Ghq #[.int .u64 p0] h (fun v h1=>∃ (x3:Bool),v=(Value.bool x3)∧CallsH PR Ghq #[.int .u64 p1] h1 (fun v h4=>∃ (x6:Bool),v=(Value.bool x6)∧(x3=true→(x6=true→K 0 h4)∧(x6=false→K (-1) h4))∧(x3=false→(x6=true→K 1 h4)∧(x6=false→(p0<p1→K (-1) h4)∧((¬ (p0<p1))→(p1<p0→K 1 h4)∧((¬ (p1<p0))→K 0 h4))))))
theorem Ga5 (p0:Int) (p1:Int) (R:Value→Heap→Prop) (h:Heap) (H:Ga4 p0 p1 (fun r0 h'=>R (Value.int .i64 r0) h') h):CallsH PR Ghn #[.int .u64 p0,.int .u64 p1] h R:=by
 refine zD (args:=[.int .u64 p0,.int .u64 p1]) Tryz.func168 U U ?_
 intro f hf
 have e0:=hf 0 _ rfl
 have e1:=hf 1 _ rfl
 clear hf
 unfold Ga4 at H
 refine ze ?_
 refine zc U ?_
 refine za (zg (v:=.int .i64 0) U ?_)
 refine zh ?_
 refine ze ?_
 refine zc U ?_
 refine za (zd (v:=.int .u64 p0) e0 ?_)
 refine za (zG (vs:=[.int .u64 p0]) en_189 (zm U zy) (CallsH.mono H ?_))
 clear H
 rintro _ h1 ⟨x3,rfl,H⟩
 refine za (zg (v:=.bool x3) U ?_)
 refine zh ?_
 refine ze ?_
 refine zc U ?_
 refine za (zd (v:=.int .u64 p1) e1 ?_)
 refine za (zG (vs:=[.int .u64 p1]) en_189 (zm U zy) (CallsH.mono H ?_))
 clear H
 rintro _ h4 ⟨x6,rfl,H⟩
 refine za (zg (v:=.bool x6) U ?_)
 refine zh ?_
 refine ze ?_
 refine ze ?_
 refine zc U ?_
 refine za (zd (v:=.bool x3) U ?_)
 refine zh ?_
 refine zz (x3) U ?_ ?_
 ·intro hb
  replace H:=H.1 hb
  refine ze ?_
  refine ze ?_
  refine zc U ?_
  refine za (zd (v:=.bool x6) U ?_)
  refine zh ?_
  refine zz (x6) U ?_ ?_
  ·intro hb
   replace H:=H.1 hb
   refine ze ?_
   refine zc U ?_
   refine za (zg (v:=.int .i64 0) U ?_)
   refine zh ?_
   refine zx ?_
   exact zv (zq U zu) H
  ·intro hb
   replace H:=H.2 hb
   refine zC ?_
   refine ze ?_
   refine zc U ?_
   refine za (zg (v:=.int .i64 (-1)) U ?_)
   refine zh ?_
   refine zx ?_
   exact zv (zq U zu) H
 ·intro hb
  replace H:=H.2 hb
  refine zC ?_
  refine ze ?_
  refine ze ?_
  refine zc U ?_
  refine za (zd (v:=.bool x6) U ?_)
  refine zh ?_
  refine zz (x6) U ?_ ?_
  ·intro hb
   replace H:=H.1 hb
   refine ze ?_
   refine zc U ?_
   refine za (zg (v:=.int .i64 1) U ?_)
   refine zh ?_
   refine zx ?_
   exact zv (zq U zu) H
  ·intro hb
   replace H:=H.2 hb
   refine zC ?_
   refine ze ?_
   refine ze ?_
   refine zc U ?_
   refine za (zd (v:=.int .u64 p0) e0 ?_)
   refine za (zd (v:=.int .u64 p1) e1 ?_)
   refine za (zY U U ?_)
   refine zh ?_
   refine zz (decide (p0<p1)) U ?_ ?_
   ·intro hb
    replace H:=H.1 (zo hb)
    refine ze ?_
    refine zc U ?_
    refine za (zg (v:=.int .i64 (-1)) U ?_)
    refine zh ?_
    refine zx ?_
    exact zv (zq U zu) H
   ·intro hb
    replace H:=H.2 (zn hb)
    refine zC ?_
    refine ze ?_
    refine ze ?_
    refine zc U ?_
    refine za (zd (v:=.int .u64 p0) e0 ?_)
    refine za (zd (v:=.int .u64 p1) e1 ?_)
    refine za (yj U U ?_)
    refine zh ?_
    refine zz (decide (p1<p0)) U ?_ ?_
    ·intro hb
     replace H:=H.1 (zo hb)
     refine ze ?_
     refine zc U ?_
     refine za (zg (v:=.int .i64 1) U ?_)
     refine zh ?_
     refine zx ?_
     exact zv (zq U zu) H
    ·intro hb
     replace H:=H.2 (zn hb)
     refine zC ?_
     refine ze ?_
     refine zc U ?_
     refine za (zg (v:=.int .i64 0) U ?_)
     refine zh ?_
     refine zx ?_
     exact zv (zq U zu) H
def Gaa (p0:Int) (K:Bool→Heap→Prop) (h:Heap):Prop:=
 K (!decide (p0=p0)) h
theorem Gab (p0:Int) (R:Value→Heap→Prop) (h:Heap) (H:Gaa p0 (fun r0 h'=>R (Value.bool r0) h') h):CallsH PR Ghq #[.int .u64 p0] h R:=by
 refine zD (args:=[.int .u64 p0]) Tryz.func189 U U ?_
 intro f hf
 have e0:=hf 0 _ rfl
 clear hf
 unfold Gaa at H
 refine ze ?_
 refine zc U ?_
 refine za (zg (v:=.bool false) U ?_)
 refine zh ?_
 refine ze ?_
 refine zc U ?_
 refine za (zd (v:=.int .u64 p0) e0 ?_)
 refine za (zd (v:=.int .u64 p0) e0 ?_)
 refine za (op_neq U U ?_)
 refine za (zg (v:=.bool (!decide (p0=p0))) U ?_)
 refine zh ?_
 refine zx ?_
 exact zv (zq U zu) H
end Go.Proofs.Vf
