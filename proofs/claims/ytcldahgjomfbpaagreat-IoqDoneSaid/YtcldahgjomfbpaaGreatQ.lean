/- Contracts of functions of the program over the heap, and laws that follow from them. Conditions: as stated at each. -/
import Derived.Test.YtcldahgjomfbpaaGreatE
import Derived.Test.YtcldahgjomfbpaaGreatFLaw
namespace Go.Proofs.Vf
open Go Go.Proofs Go.VC
def aw0:Dv:=dNew gotL 2 5
def awr7:Rq:=⟨7,0,100,0,⟨0,1,2,4⟩⟩
def awr8:Rq:=⟨8,0,100,0,⟨0,1,2,4⟩⟩
def aw1:Dv:=(dSubmit aw0 awr7).2
def aw2:Dv:=(dSubmit aw1 awr8).2
def aw3:Dv:=(dStart aw2).2
def aw4:Dv:=(dTake aw3).2
def aw5:Dv:=(dWrite aw4 0 1 [97,98]).2
def aw6:Dv:=(dFinish aw5 0 9 false).2
def aw7:Dv:=(dReap aw6).2
def aw8:Dv:=(dGo aw7 1).2
theorem av1:(dSubmit aw0 awr7).1=0:=by decide +kernel
theorem av2:(dSubmit aw1 awr8).1=8:=by decide +kernel
theorem av3:(dStart aw2).1 = [7]:=by decide +kernel
theorem av4:(dTake aw3).1.1=0∧(dTake aw3).1.2.2=0:=by decide +kernel
theorem av5:(dWrite aw4 0 1 [97,98]).1=0:=by decide +kernel
theorem av7:(dReap aw6).1.1=7∧(dReap aw6).1.2=0:=by decide +kernel
theorem av8:(dGo aw7 1).1.1=0∧(dGo aw7 1).1.2 = [⟨7,1,9⟩]:=by decide +kernel
theorem av9:pRead aw8.P 0 1 3 2=(0,[97,98]):=by decide +kernel
theorem ab2:Bd 1 aw2:=⟨by decide +kernel,by decide +kernel⟩
theorem ab3:Bd 1 aw3:=⟨by decide +kernel,by decide +kernel⟩
theorem ab6:Bd 1 aw6:=⟨by decide +kernel,by decide +kernel⟩
theorem ab7:Bd 1 aw7:=⟨by decide +kernel,by decide +kernel⟩
theorem _root_.Go.VC.Ext.kp {h0 h1 h2:Heap} {T:Nat→Prop} (x:Ext h0 h1) (k:Kp T h1 h2) (hT : ∀ y,y<h0.size→T y):Ext h0 h2:=Kp.ext x k hT
theorem awake_spec (h:Heap):CallsH PR fn_linchpinlaw20_awake #[] h (fun v h'=>v = .bool true∧Ext h h'):=by
  apply F_linchpinlaw20_awake_ok
  unfold F_linchpinlaw20_awake
  refine (got_spec h).mono ?_
  rintro _ h1 ⟨pb,rfl,x1,P1⟩
  refine ⟨_,rfl,fun q=>(by cases q),fun _=>?_⟩
  refine (lnew P1 x1 (fun y hy=>hy.1) gotL_own (n:=2) (cost:=5) (by omega) (by omega)).mono ?_
  rintro _ h5 ⟨db,x,rfl,x5,rfl,L5⟩
  refine ⟨_,_,rfl,fun q=>(by simp at q),fun _ h11 e11=>?_⟩
  have xx:=x1.trans x5
  obtain ⟨h14,s1,s2,s3,s4⟩:=st_tmp (zs:=[_,_]) e11 [.int .i64 0,.int .u64 1] rfl (by simp [Value.oneCell'])
  obtain ⟨L14,K14⟩:=L5.ext s3
  obtain ⟨T,hT⟩ : ∃ T:Nat→Prop,T=fun y=>y<h.size∨y=h5.size:=⟨_,rfl⟩
  replace L14:Lw db x T h14 aw0:=L14.sub fun y hy=>by
    rw [hT] at hy
    rcases hy with hy | hy
    · exact .inl hy
    · exact .inr ⟨by omega,by omega⟩
  have cH:T h5.size:=by rw [hT]; exact .inr rfl
  have old : ∀ y,y<h.size→T y:=fun y hy=>by rw [hT]; exact .inl hy
  have l0 : ∀ {hz:Heap},hz[h5.size]? = some (.cells (List.toArray [.int .i64 0,.int .u64 1]) 39 (0,0))→ldCells hz h5.size 0 2=some [.int .i64 0,.int .u64 1]:=fun q=>ld_lst q 2 0 (by simp)
  refine ⟨h14,s1,_,_,l0 s2,?_⟩
  refine (lsubmit L14 awr7 (by decide)).mono ?_
  rintro _ h17 ⟨rfl,(L17:Lw db x T h17 aw1),K17⟩
  have c17:=K17.get s2 cH
  refine ⟨_,rfl,_,_,l0 c17,?_⟩
  refine (lsubmit L17 awr8 (by decide)).mono ?_
  rintro _ h22 ⟨rfl,(L22:Lw db x T h22 aw2),K22⟩
  refine ⟨_,rfl,?_⟩
  refine (lstart L22 ab2 (by omega)).mono ?_
  rintro _ h25 ⟨a,c,rfl,-,L25,K25,-⟩
  replace L25:Lw db x T h25 aw3:=L25.sub fun y hy=>.inl hy
  refine ⟨_,_,_,rfl,?_⟩
  refine (ltake L25 ab3 (by omega)).mono ?_
  rintro _ h28 ⟨rfl,(L28:Lw db x T h28 aw4),K28⟩
  refine ⟨_,_,_,_,_,_,_,_,_,_,_,rfl,fun h33 e33=>?_⟩
  obtain ⟨h36,t1,t2,t3,t4⟩:=st_tmp (zs:=[_,_,_,_,_,_,_,_,_]) e33 (dscV (dTake aw3).1.2.1) rfl (dscV_one _)
  obtain ⟨L36,K36⟩:=L28.ext t3
  replace L36:Lw db x T h36 aw4:=L36.sub fun y hy=>.inl hy
  refine ⟨h36,t1,fun h37 e37=>?_⟩
  obtain ⟨u1,u2,u3⟩:=push_get e37
  obtain ⟨L37,K37⟩:=L36.ext u2
  refine ⟨⟨_,_,_,u1⟩,fun h39 m39=>?_⟩
  obtain ⟨m1,m2,m3⟩:=m39
  obtain ⟨z,hz⟩:=m3 _ _ _ u1
  have L39:=L37.tmp (t:=h36.size) (.inr ⟨Nat.le_refl _,by omega⟩) m2 m1
  replace L39:Lw db x T h39 aw4:=L39.sub fun y hy=>.inl hy
  have K39:Kp T h36 h39:=⟨by omega,fun y hy=>by rw [m2 y (fun q=>by have:=L36.lt hy; omega),K37.2 y hy]⟩
  have f39:firstH h39 1 2 (.slice (some ⟨h36.size,0,none⟩) 2 2)=some ([97,98].map u8):=by
    simp [firstH,ldCells,cellH,hz]
  have e4:(dTake aw3).1.1=0:=av4.1
  rw [e4]
  refine (lwrite L39 0 1 (bs:=[97,98]) rfl f39 (by omega)).mono ?_
  rintro _ h42 ⟨rfl,(L42:Lw db x T h42 aw5),K42⟩
  refine ⟨_,rfl,?_⟩
  refine (lfinish L42 0 9 false).mono ?_
  rintro _ h45 ⟨rfl,(L45:Lw db x T h45 aw6),K45⟩
  refine ⟨_,rfl,?_⟩
  refine (lreap L45 ab6 (by omega)).mono ?_
  rintro _ h48 ⟨rfl,(L48:Lw db x T h48 aw7),K48⟩
  refine ⟨_,_,rfl,?_⟩
  refine (lgo L48 ab7 (by omega) (t:=1) (by decide)).mono ?_
  rintro _ h52 ⟨a52,c52,rfl,s52,L52,K52⟩
  have KK:Kp T h17 h52:=(((((((K22.trans K25 fun _ q=>q).trans K28 fun _ q=>q).trans K36 fun _ q=>q).trans K39 fun _ q=>q).trans K42 fun _ q=>q).trans K45 fun _ q=>q).trans K48 fun _ q=>q).trans K52 fun _ q=>q
  have c52':=KK.get c17 cH
  refine ⟨_,_,_,_,rfl,_,_,l0 c52',?_⟩
  refine (lread L52 0 1 3 2 (by omega)).mono ?_
  rintro _ h59 ⟨a59,c59,rfl,x59,s59,-⟩
  obtain ⟨v1,v2⟩:=av8
  have v2':(dGo aw7 1).1.2 = [⟨7,1,9⟩]:=v2
  obtain ⟨b,o,rfl,ld⟩:=flat_ld (s52.ext x59) (i:=0) (f:=⟨7,1,9⟩) (by rw [v2]; rfl)
  rw [Nat.zero_mul,Nat.add_zero] at ld
  have w9:pRead (dGo aw7 1).2.P 0 1 3 2=(0,[97,98]):=av9
  rw [w9] at s59 ⊢
  refine ⟨_,_,_,_,rfl,b,o,fun _=>rfl,fun _=>?_,7,1,9,fun _=>ld,[97,98],fun _=>s59.first,?_,?_⟩
  · rw [v2]; decide
  · have w1:(dSubmit aw0 awr7).1=0:=av1
    have w2:(dSubmit aw1 awr8).1=8:=av2
    have w3:(dStart aw2).1 = [7]:=av3
    have w5:(dWrite aw4 0 1 [97,98]).1=0:=av5
    rw [w1,w2,w3,av4.2,w5,av7.1,av7.2,v2]
    rfl
  · have e17:Ext h h14:=(x1.trans x5).trans s3
    exact ((e17.kp K17 old).kp KK old).trans x59
end Go.Proofs.Vf
namespace Go.Proofs.Vf
open Go Go.Proofs Go.VC
def ArgI (h:Heap) (k:IntKind) (a:Option Addr) (xs:List Int):Prop:=∀ i x,xs[i]? = some x→∃ b o,a=some ⟨b,o,none⟩∧cellH h b (o+i)=some (.int k x)
theorem ArgI.ext {h h':Heap} {k:IntKind} {a:Option Addr} {xs:List Int} (A:ArgI h k a xs) (x:Ext h h'):ArgI h' k a xs:=fun i v hv=>by
  obtain ⟨b,o,h1,h2⟩:=A i v hv
  exact ⟨b,o,h1,x.cell h2⟩
theorem ArgI.first {h:Heap} {a:Option Addr} {bs:List Int} (A:ArgI h .u8 a bs) {n c:Nat} (hn:n=bs.length) (ha : ∀ A,a=some A→A.spot=none):firstH h 1 n (.slice a n c)=some (bs.map u8):=by
  cases a with
  | none=>
    have:bs = []:=by
      cases bs with
      | nil=>rfl
      | cons x bs=>obtain ⟨b,o,q,_⟩:=A 0 x rfl; cases q
    subst this; rfl
  | some A'=>
    obtain ⟨b,o,s⟩:=A'
    have hs:=ha _ rfl
    simp only at hs
    subst hs
    have:=ldc_of (h:=h) (b:=b) (vs:=bs.map u8) (o:=o) fun i v hv=>by
      rw [List.getElem?_map] at hv
      obtain ⟨x,hx,rfl⟩:=Option.map_eq_some_iff.1 hv
      obtain ⟨b',o',q,hc⟩:=A i x hx
      cases q
      exact hc
    rw [List.length_map] at this
    show ldCells h b o (n * 1)=_
    rw [Nat.mul_one,hn]; exact this
section
variable {n:Nat} {st:Dv}
end
structure Gd (h0:Heap) (db:Nat) (x:DX) (T:Nat→Prop) (tm:List (Nat × Obj)) (h:Heap) (st:Dv):Prop where
  L:Lw db x T h st
  ex:Ext h0 h
  tm : ∀ p∈tm,h[p.1]? = some p.2∧T p.1
  old : ∀ y,y<h0.size→T y
section
variable {h0 h h':Heap} {db:Nat} {x:DX} {T:Nat→Prop} {tm:List (Nat × Obj)} {st st':Dv}
theorem Gd.step (g:Gd h0 db x T tm h st) (L:Lw db x T h' st') (k:Kp T h h'):Gd h0 db x T tm h' st':=
  ⟨L,Kp.ext g.ex k g.old,fun p hp=>⟨k.get (g.tm p hp).1 (g.tm p hp).2,(g.tm p hp).2⟩,g.old⟩
theorem Gd.ext (g:Gd h0 db x T tm h st) (e:Ext h h'):Gd h0 db x T tm h' st:=by
  obtain ⟨L,K⟩:=g.L.ext e
  exact g.step (L.sub fun y hy=>.inl hy) K
theorem Gd.get (g:Gd h0 db x T tm h st) {b:Nat} {o:Obj} (hp:(b,o)∈tm):h[b]? = some o:=(g.tm _ hp).1
theorem Gd.to (g:Gd h0 db x T tm h st) (e:st=st'):Gd h0 db x T tm h st':=e ▸ g
end
end Go.Proofs.Vf
namespace Go.Proofs.Vf
open Go Go.Proofs Go.VC
def PL (ow:Int) (c:List Int):List Buf:=[⟨1,ow,1,c⟩,⟨1,1,1,z8⟩,⟨1,1,1,z8⟩,⟨1,1,1,z20⟩,⟨1,0,0,z20⟩]
section
variable (fr len st:Int) (c:List Int)
def rq3:Rq:=⟨3,0,100,0,⟨0,1,fr,len⟩⟩
def dD (dev done:Bool) (s:Int):Dsc:=⟨0,3,0,1,fr,len,dev,done,s⟩
def dn0:Dv:=dNew gotL 1 5
def dnA:Dv:=⟨PL 2 z8,[⟨3,100,0⟩],0,false,1,[],0,0,⟨5,0,[⟨3,100⟩],[]⟩,updF (fun _=>none) 3 (some ⟨rq3 fr len,-1,2⟩),fun _=>none⟩
def dnB:Dv:=⟨PL 2 z8,[],0,false,1,[dD fr len true false 0],0,0,⟨5,0,[⟨3,100⟩],[]⟩,updF (dnA fr len).O 3 (some ⟨rq3 fr len,0,2⟩),updF (fun _=>none) 0 (some ⟨3,false,false,false,false⟩)⟩
def dnC:Dv:=⟨PL 3 c,[],0,false,1,[dD fr len true false 0],1,0,⟨5,0,[⟨3,100⟩],[]⟩,updF (dnB fr len).O 3 (some ⟨rq3 fr len,0,3⟩),updF (dnB fr len).I 0 (some ⟨3,false,true,false,false⟩)⟩
def dnE:Dv:=⟨PL 3 c,[],0,false,1,[dD fr len false true st],1,0,⟨5,0,[⟨3,100⟩],[]⟩,(dnC fr len c).O,updF (dnC fr len c).I 0 (some ⟨3,false,true,true,false⟩)⟩
def dnF:Dv:=⟨PL 1 c,[],0,false,1,[dD fr len false true st],1,1,⟨5,0,[],[⟨3,1,st⟩]⟩,updF (dnC fr len c).O 3 none,updF (updF (dnE fr len st c).I 0 (some ⟨3,true,true,true,false⟩)) 0 none⟩
def dnG:Dv:=⟨PL 1 c,[],0,false,1,[dD fr len false true st],1,1,⟨5,1,[],[]⟩,updF (dnC fr len c).O 3 none,updF (updF (dnE fr len st c).I 0 (some ⟨3,true,true,true,false⟩)) 0 none⟩
end
section
variable {fr len st:Int} {c:List Int}
theorem dn1 (h:0≤fr∧1≤len∧fr+len≤8):dSubmit dn0 (rq3 fr len)=(0,dnA fr len):=by
  have h1:mayP gotL ⟨0,1,fr,len⟩=true:=by
    have:bufAt gotL 0 1=some ⟨1,1,1,z8⟩:=rfl
    unfold mayP; dsimp only; rw [this]
    have e:(z8.length:Int)=8:=rfl
    dsimp only
    rw [e]
    exact decide_eq_true ⟨h.1,h.2.1,by omega,by omega⟩
  have hok:argOk dn0 (rq3 fr len)=true:=by
    have h2:decide (65535<fr)=false:=decide_eq_false (by omega)
    unfold argOk rq3 dn0 dNew
    dsimp only
    rw [h1,h2]; rfl
  unfold dSubmit
  rw [if_neg (by rw [hok]; decide)]
  rfl
theorem dn2 (h:0≤fr∧1≤len∧fr+len≤8):dStart (dnA fr len)=([3],dnB fr len):=by
  have h1:rPut 1 [] 0 ⟨0,3,0,1,fr,len,false,false,0⟩=((((0:Nat):Int),(0:Int)),[dD fr len true false 0]):=by
    have hd:mayD ⟨0,3,0,1,fr,len,true,false,0⟩=true:=by
      have h2:inD fr 65535=true:=by simp [inD]; omega
      have h3:inD len 65536=true:=by simp [inD]; omega
      unfold mayD
      dsimp only
      rw [h2,h3]; rfl
    unfold rPut
    dsimp only
    rw [if_neg (by rw [hd]; decide)]
    rfl
  have e1:dStart1 (dnA fr len)=some (3,dnB fr len):=by
    unfold dStart1
    rw [if_neg (show ¬ (qNext (dnA fr len).Q (dnA fr len).hd (dnA fr len).dn).2.2≠0 from fun q=>q rfl)]
    have e:(dnA fr len).O (qNext (dnA fr len).Q (dnA fr len).hd (dnA fr len).dn).1.id=some ⟨rq3 fr len,-1,2⟩:=rfl
    rw [e]
    dsimp only
    have e2:rPut (dnA fr len).size (dnA fr len).RL (dnA fr len).reaped ⟨(rq3 fr len).op,(qNext (dnA fr len).Q (dnA fr len).hd (dnA fr len).dn).1.id,(rq3 fr len).pc.slot,(rq3 fr len).pc.gen,(rq3 fr len).pc.fr,(rq3 fr len).pc.len,false,false,0⟩=((((0:Nat):Int),(0:Int)),[dD fr len true false 0]):=h1
    rw [e2]
    rfl
  have e2:dStart1 (dnB fr len)=none:=rfl
  unfold dStart dStartN
  rw [e1]
  unfold dStartN
  dsimp only
  rw [e2]
theorem dn3:dTake (dnB fr len)=((0,dD fr len true false 0,0),dnC fr len z8):=rfl
theorem dn4 (h:0≤fr∧1≤len∧fr+len≤8) {bs:List Int} (hb:(bs.length:Int)≤len):dWrite (dnC fr len z8) 0 0 bs=(0,dnC fr len (splice z8 fr.toNat bs)):=by
  have e:(dnC fr len z8).O 3=some ⟨rq3 fr len,0,3⟩:=rfl
  have e0:(dnC fr len z8).I 0=some ⟨3,false,true,false,false⟩:=rfl
  unfold dWrite
  rw [e0]
  dsimp only
  rw [if_neg (by decide),e]
  dsimp only
  have h2 : ¬ ((0:Int)<0∨(rq3 fr len).pc.len<0∨(rq3 fr len).pc.len - 0<bs.length):=by
    have:(rq3 fr len).pc.len=len:=rfl
    rw [this]; omega
  rw [if_neg h2]
  have hw:pWrite (PL 3 z8) 0 1 3 (fr+0) bs=(0,PL 3 (splice z8 fr.toNat bs)):=by
    have:bufAt (PL 3 z8) 0 1=some ⟨1,3,1,z8⟩:=rfl
    unfold pWrite; rw [this]
    have e8:(z8.length:Int)=8:=rfl
    dsimp only
    rw [if_neg (by omega),if_neg (by omega),if_neg (by rw [e8]; omega),Int.add_zero]
    rfl
  have e3:pWrite (dnC fr len z8).P (rq3 fr len).pc.slot (rq3 fr len).pc.gen 3 ((rq3 fr len).pc.fr+0) bs=(0,PL 3 (splice z8 fr.toNat bs)):=hw
  rw [e3]
  rfl
theorem dn4' {bs:List Int} (hb:len<bs.length):dWrite (dnC fr len z8) 0 0 bs=(1,dnC fr len z8):=by
  have e:(dnC fr len z8).O 3=some ⟨rq3 fr len,0,3⟩:=rfl
  have e0:(dnC fr len z8).I 0=some ⟨3,false,true,false,false⟩:=rfl
  unfold dWrite
  rw [e0]
  dsimp only
  rw [if_neg (by decide),e]
  dsimp only
  have h2:((0:Int)<0∨(rq3 fr len).pc.len<0∨(rq3 fr len).pc.len - 0<bs.length):=by
    have:(rq3 fr len).pc.len=len:=rfl
    rw [this]; omega
  rw [if_pos h2]
theorem dn5 (hs:0≤st∧st≤255):dFinish (dnC fr len c) 0 st false=(0,dnE fr len st c):=by
  have e:rFinish (dnC fr len c).RL (dnC fr len c).taken (dnC fr len c).reaped 0 st=(0,[dD fr len false true st]):=by
    unfold rFinish
    rw [if_neg (by omega)]
    rfl
  unfold dFinish
  rw [e]
  rfl
theorem dn6 (hs:0≤st∧st≤255):dReap (dnE fr len st c)=((3,0),dnF fr len st c):=by
  have e:stAnswer ⟨5,0,[⟨3,100⟩],[]⟩ 3 st false=(0,⟨5,0,[],[⟨3,1,st⟩]⟩):=by
    unfold stAnswer; rw [if_neg (by omega)]; rfl
  have e1:(dnE fr len st c).RL[(dnE fr len st c).reaped]? = some (dD fr len false true st):=rfl
  have e2:(dnE fr len st c).I ((dnE fr len st c).reaped:Nat)=some ⟨3,false,true,true,false⟩:=rfl
  unfold dReap
  rw [e1]
  dsimp only
  rw [if_neg (show ¬ ((dD fr len false true st).done=false) from fun q=>(by cases q)),e2]
  dsimp only
  rw [if_neg (by decide)]
  have e3:stAnswer (dnE fr len st c).B 3 (dD fr len false true st).st false=(0,⟨5,0,[],[⟨3,1,st⟩]⟩):=e
  rw [e3]
  rfl
theorem dn7:dGo (dnF fr len st c) 1=((0,[⟨3,1,st⟩]),dnG fr len st c):=rfl
theorem dn8:pOwner (PL 1 c) 0 1=(1,1,0)∧pOwner (PL 3 c) 0 1=(3,1,0):=⟨rfl,rfl⟩
theorem dn9 (h:c.length=8):pRead (PL 1 c) 0 1 0 8=(0,c):=by
  have:bufAt (PL 1 c) 0 1=some ⟨1,1,1,c⟩:=rfl
  unfold pRead; rw [this]
  dsimp only
  rw [if_neg (by omega)]
  have e:c.take (8:Int).toNat=c:=List.take_of_length_le (by rw [h]; decide)
  show (0,c.take (8:Int).toNat)=_
  rw [e]
end
end Go.Proofs.Vf
namespace Go.Proofs.Vf
open Go Go.Proofs Go.VC
theorem splice_get {bs:List Int} {f:Nat} (h:f+bs.length≤8) {j:Nat} (hj:j<8):(splice z8 f bs)[j]? = if f≤j∧j - f<bs.length then bs[j - f]? else some 0:=by
  unfold splice
  have hz : ∀ i,i<8→z8[i]? = some 0:=fun i hi=>by unfold z8; rw [List.getElem?_replicate]; simp [hi]
  have ht:(z8.take f).length=f:=by rw [List.length_take]; have:z8.length=8:=rfl; omega
  rw [List.append_assoc]
  by_cases h1:f≤j
  · rw [List.getElem?_append_right (by omega),ht]
    by_cases h2:j - f<bs.length
    · rw [List.getElem?_append_left h2,if_pos ⟨h1,h2⟩]
    · rw [List.getElem?_append_right (by omega),if_neg (fun q=>h2 q.2),List.getElem?_drop]
      exact hz _ (by omega)
  · rw [List.getElem?_append_left (by omega),if_neg (fun q=>h1 q.1),List.getElem?_take_of_lt (by omega)]
    exact hz _ hj
theorem done_spec {h:Heap} {p0 p1:Int} {a:Option Addr} {n c:Nat} {bs:List Int} {st:Int} (h0:0≤p0∧p0<256) (h1:0≤p1∧p1<256) (h2:0≤st∧st<256) (s:ArgI h .u8 a bs) (hnl:n=bs.length) (has : ∀ A,a=some A→A.spot=none) (hn:n≤9223372036854775807) :
    CallsH PR fn_linchpinlaw20_IoqDone #[.agg #[.int .u8 p0,.int .u8 p1],.slice a n c,.int .u8 st] h (fun v h'=>v = .bool true∧Ext h h'):=by
  apply F_linchpinlaw20_IoqDone_ok
  unfold F_linchpinlaw20_IoqDone
  intro g1 e1
  obtain ⟨a1,a2,a3⟩:=push_get e1
  refine (awake_spec g1).mono ?_
  rintro _ g3 ⟨rfl,x3⟩
  refine ⟨true,rfl,fun q=>(by cases q),fun _=>⟨p0,cell_lst (x3.get a1) rfl,p1,cell_lst (x3.get a1) rfl,?_⟩⟩
  have w0:IntKind.i64.wrap p0=p0:=wrap_i64 ⟨by omega,by omega⟩
  have w1:IntKind.i64.wrap p1=p1:=wrap_i64 ⟨by omega,by omega⟩
  have w2:IntKind.i64.wrap st=st:=wrap_i64 ⟨by omega,by omega⟩
  rw [w0,w1,w2]
  obtain ⟨fr,hfr⟩ : ∃ fr,fr=p0.tmod 8:=⟨_,rfl⟩
  rw [← hfr]
  have f0:0≤fr∧fr<8:=by rw [hfr,Int.tmod_eq_emod_of_nonneg h0.1]; omega
  obtain ⟨len,hlen⟩ : ∃ len,len=1+p1.tmod (8 - fr):=⟨_,rfl⟩
  rw [← hlen]
  have f1:1≤len∧fr+len≤8:=by
    rw [hlen,Int.tmod_eq_emod_of_nonneg h1.1]
    have q1:=Int.emod_nonneg p1 (show (8 - fr)≠0 by omega)
    have q2:=Int.emod_lt_of_pos p1 (show 0<8 - fr by omega)
    omega
  have hf:0≤fr∧1≤len∧fr+len≤8:=⟨f0.1,f1⟩
  refine (got_spec g3).mono ?_
  rintro _ g12 ⟨pb,rfl,x12,P12⟩
  refine ⟨_,rfl,?_⟩
  have x03:=a2.trans x3
  refine (lnew P12 x12 (fun y hy=>hy.1) gotL_own (n:=1) (cost:=5) (by omega) (by omega)).mono ?_
  rintro _ g15 ⟨db,x,rfl,x15,rfl,L15⟩
  refine ⟨_,_,rfl,fun q=>(by simp at q),fun _ g21 e21=>?_⟩
  obtain ⟨g24,s1,s2,s3,s4⟩:=st_tmp (zs:=[_,_]) e21 [.int .i64 0,.int .u64 1] rfl (by simp [Value.oneCell'])
  obtain ⟨L24,K24⟩:=L15.ext s3
  obtain ⟨T,hT⟩ : ∃ T:Nat→Prop,T=fun y=>y<g3.size∨y=g15.size:=⟨_,rfl⟩
  replace L24:Lw db x T g24 dn0:=L24.sub fun y hy=>by
    rw [hT] at hy
    rcases hy with hy | hy
    · exact .inl hy
    · exact .inr ⟨by omega,by omega⟩
  have cH:T g15.size:=by rw [hT]; exact .inr rfl
  have old : ∀ y,y<g3.size→T y:=fun y hy=>by rw [hT]; exact .inl hy
  have e24:Ext h g24:=((x03.trans x12).trans x15).trans s3
  have olds : ∀ y,y<h.size→T y:=fun y hy=>old y (by have:=x03.1; omega)
  have l0 : ∀ {hz:Heap},hz[g15.size]? = some (.cells (List.toArray [.int .i64 0,.int .u64 1]) 39 (0,0))→ldCells hz g15.size 0 2=some [.int .i64 0,.int .u64 1]:=fun q=>ld_lst q 2 0 (by simp)
  refine ⟨g24,s1,⟨by omega,by omega⟩,by omega,⟨by omega,by omega⟩,_,_,l0 s2,?_⟩
  refine (lsubmit L24 (rq3 fr len) (by show (0:Int)≤100; decide)).mono ?_
  rintro _ g31 ⟨rfl,L31,K31⟩
  rw [dn1 hf] at L31 ⊢
  refine ⟨_,rfl,?_⟩
  refine (lstart L31 (n:=1) ⟨by show 0≤1; decide,by show 0≤65; decide⟩ (by omega)).mono ?_
  rintro _ g34 ⟨a34,c34,rfl,-,L34,K34,-⟩
  replace L34:=L34.sub (T':=T) fun y hy=>.inl hy
  rw [dn2 hf] at L34 ⊢
  refine ⟨_,_,_,rfl,?_⟩
  refine (ltake L34 (n:=1) ⟨by show 0≤1; decide,by show 1≤65; decide⟩ (by omega)).mono ?_
  rintro _ g37 ⟨rfl,L37,K37⟩
  rw [dn3] at L37 ⊢
  refine ⟨_,_,_,_,_,_,_,_,_,_,_,rfl,fun g42 e42=>?_⟩
  obtain ⟨g45,t1,t2,t3,t4⟩:=st_tmp (zs:=[_,_,_,_,_,_,_,_,_]) e42 (dscV (dD fr len true false 0)) rfl (dscV_one _)
  obtain ⟨L45,K45⟩:=L37.ext t3
  replace L45:=L45.sub (T':=fun y=>T y∨y=g37.size) fun y hy=>by
    rcases hy with hy | rfl
    · exact .inl hy
    · exact .inr ⟨Nat.le_refl _,by omega⟩
  have zz:g15.size<g24.size:=by omega
  refine ⟨g45,t1,?_⟩
  have K24_37:Kp T g24 g37:=(K31.trans K34 fun _ q=>q).trans K37 fun _ q=>q
  have K24_45:Kp T g24 g45:=K24_37.trans K45 fun _ q=>q
  refine (lwrite L45 0 0 (bs:=bs) hnl ((s.ext (e24.kp K24_45 olds)).first hnl has) (by omega)).mono ?_
  rintro _ g46 ⟨rfl,L46,K46⟩
  obtain ⟨w,cc,hw,hcl,hwc⟩ : ∃ w cc,dWrite (dnC fr len z8) 0 0 bs=(w,dnC fr len cc)∧cc.length=8∧((w=0∧(bs.length:Int)≤len∧cc=splice z8 fr.toNat bs)∨(w=1∧len<bs.length∧cc=z8)):=by
    by_cases hb:(bs.length:Int)≤len
    · refine ⟨_,_,dn4 hf hb,?_,.inl ⟨rfl,hb,rfl⟩⟩
      have:z8.length=8:=rfl
      rw [splice_length (by omega)]; rfl
    · exact ⟨_,_,dn4' (by omega),rfl,.inr ⟨rfl,by omega,rfl⟩⟩
  rw [hw] at L46 ⊢
  have sub1 : ∀ y,T y→T y∨y=g37.size:=fun y hy=>.inl hy
  have K45_46:Kp (fun y=>T y∨y=g37.size) g45 g46:=K46
  have K24_46:Kp T g24 g46:=K24_45.trans K46 sub1
  have c46:=K24_46.get s2 cH
  refine ⟨_,rfl,_,_,l0 c46,?_⟩
  refine (lowner L46 0 1).mono ?_
  rintro _ g52 ⟨rfl,x52⟩
  rw [show pOwner (dnC fr len cc).P 0 1=(3,1,0) from dn8.2]
  have t52:=x52.get (K46.get t2 (.inr rfl))
  refine ⟨_,_,_,rfl,3,fun _=>cell_lst t52 rfl,fr,fun _=>cell_lst t52 rfl,len,fun _=>cell_lst t52 rfl,?_⟩
  have hwn:decide (w=0)=decide ((n:Int)≤len):=by
    rcases hwc with ⟨q1,q2,_⟩ | ⟨q1,q2,_⟩
    · rw [q1,hnl]; simp [q2]
    · rw [q1,hnl]; simp [q2]
  refine ⟨fun q=>?_,fun _=>?_⟩
  · exfalso
    rw [hwn] at q
    simp at q
  obtain ⟨L52,K52⟩:=L46.ext x52
  replace L52:=L52.sub (T':=T) fun y hy=>.inl (.inl hy)
  have K24_52:Kp T g24 g52:=K24_46.trans K52 sub1
  refine (lfinish L52 0 st false).mono ?_
  rintro _ g73 ⟨rfl,L73,K73⟩
  rw [dn5 ⟨h2.1,by omega⟩] at L73 ⊢
  refine ⟨_,rfl,?_⟩
  refine (lreap L73 (n:=1) ⟨by show 0≤1; decide,by show 1≤65; decide⟩ (by omega)).mono ?_
  rintro _ g76 ⟨rfl,L76,K76⟩
  rw [dn6 ⟨h2.1,by omega⟩] at L76 ⊢
  refine ⟨_,_,rfl,?_⟩
  refine (lgo L76 (n:=1) ⟨by show 1≤1; decide,by show 1≤65; decide⟩ (by omega) (t:=1) (by decide)).mono ?_
  rintro _ g81 ⟨a81,c81,rfl,s81,L81,K81⟩
  rw [dn7] at s81 L81 ⊢
  obtain ⟨b,o,rfl,ld⟩:=flat_ld s81 (i:=0) (f:=⟨3,1,st⟩) rfl
  rw [Nat.zero_mul,Nat.add_zero] at ld
  refine ⟨_,_,_,_,rfl,b,o,fun _=>rfl,fun _=>by simp,3,1,st,fun _=>ld,fun q=>?_,fun _=>?_⟩
  · exfalso; simp at q
  have K24_81:Kp T g24 g81:=((K24_52.trans K73 fun _ q=>q).trans K76 fun _ q=>q).trans K81 fun _ q=>q
  have c81:=K24_81.get s2 cH
  refine ⟨_,_,l0 c81,(lowner L81 0 1).mono ?_⟩
  rintro _ g99 ⟨rfl,x99⟩
  rw [show pOwner (dnG fr len st cc).P 0 1=(1,1,0) from dn8.1]
  obtain ⟨L99,K99⟩:=L81.ext x99
  refine ⟨_,_,_,rfl,_,_,l0 (x99.get c81),(lread L99 0 1 0 8 (by omega)).mono ?_⟩
  rintro _ g106 ⟨a106,c106,rfl,x106,s106,-⟩
  rw [show pRead (dnG fr len st cc).P 0 1 0 8=(0,cc) from dn9 hcl] at s106 ⊢
  refine ⟨_,_,_,_,rfl,fun i hh=>hh=g106∧0≤i∧i≤8,fun i _=>(8 - i).toNat,⟨rfl,by omega,by omega⟩,?_⟩
  rintro i hh ⟨rfl,i0,i1⟩
  refine ⟨fun hlt=>?_,fun _=>⟨by simp,?_⟩⟩
  · obtain ⟨ci,hci⟩ : ∃ ci,cc[i.toNat]? = some ci:=⟨_,List.getElem?_eq_getElem (by omega)⟩
    refine ⟨fun z hz=>hz=hh∧z=ci,?_,fun hq=>?_,fun hq=>?_⟩
    · rintro z hz ⟨rfl,rfl⟩
      obtain ⟨b',o',rfl,hc'⟩:=s106.get (i:=i.toNat) (v:=u8 z) (by rw [List.getElem?_map,hci]; rfl)
      refine ⟨b',o',rfl,⟨i0,by show i<((cc.length:Nat):Int); rw [hcl]; omega⟩,z,by rw [Nat.mul_one]; exact hc',fun q=>absurd rfl q,fun _=>⟨by omega,⟨rfl,by omega,by omega⟩,by dsimp only; omega⟩⟩
    · simp only [Bool.and_eq_true,decide_eq_true_eq] at hq
      obtain ⟨⟨q1,q2⟩,q3⟩:=hq
      rw [wrap_i64 ⟨by omega,by omega⟩] at q3
      rcases hwc with ⟨r1,r2,r3⟩ | ⟨r1,r2,_⟩
      · refine ⟨by omega,?_⟩
        rw [r3,splice_get (by omega) (by omega),if_pos (by omega)] at hci
        obtain ⟨b',o',hb',hc'⟩:=(s.ext (((e24.kp K24_81 olds).trans x99).trans x106)) (i.toNat - fr.toNat) ci hci
        refine ⟨b',o',hb',⟨by omega,by omega⟩,ci,?_,rfl,rfl⟩
        have:(i - fr).toNat=i.toNat - fr.toNat:=by omega
        rw [Nat.mul_one,this]; exact hc'
      · omega
    · refine ⟨rfl,?_⟩
      rcases hwc with ⟨r1,r2,r3⟩ | ⟨r1,r2,r3⟩
      · rw [r3,splice_get (by omega) (by omega),if_neg] at hci
        · exact (Option.some.inj hci)
        · rintro ⟨z1,z2⟩
          rw [r1] at hq
          have w5:IntKind.i64.wrap (i - fr)=i - fr:=wrap_i64 ⟨by omega,by omega⟩
          rw [w5] at hq
          simp at hq
          omega
      · rw [r3] at hci
        unfold z8 at hci
        rw [List.getElem?_replicate] at hci
        split at hci
        · exact (Option.some.inj hci)
        · cases hci
  · exact ((e24.kp K24_81 olds).trans x99).trans x106
end Go.Proofs.Vf
