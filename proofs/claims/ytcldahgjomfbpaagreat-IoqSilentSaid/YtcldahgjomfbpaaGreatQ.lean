/- Contracts of functions of the program over the heap, and laws that follow from them. Conditions: as stated at each. -/
import Derived.Test.YtcldahgjomfbpaaGreatE
import Derived.Test.YtcldahgjomfbpaaGreatFLaw
namespace Go.Proofs.Vf
open Go Go.Proofs Go.VC
def aw0:Dv:=dNew gotL 2 5
def awr7:Rq:=⟨7,0,100,0,⟨0,1,2,4⟩⟩
def awr8:Rq:=⟨8,0,100,0,⟨0,1,2,4⟩⟩
def aw1:Dv:=(dSubmit aw0 awr7).2
def aw2:Dv:=(dSubmit aw1 awr8).2
def aw3:Dv:=(dStart aw2).2
def aw4:Dv:=(dTake aw3).2
def aw5:Dv:=(dWrite aw4 0 1 [97,98]).2
def aw6:Dv:=(dFinish aw5 0 9 false).2
def aw7:Dv:=(dReap aw6).2
def aw8:Dv:=(dGo aw7 1).2
theorem av1:(dSubmit aw0 awr7).1=0:=by decide +kernel
theorem av2:(dSubmit aw1 awr8).1=8:=by decide +kernel
theorem av3:(dStart aw2).1 = [7]:=by decide +kernel
theorem av4:(dTake aw3).1.1=0∧(dTake aw3).1.2.2=0:=by decide +kernel
theorem av5:(dWrite aw4 0 1 [97,98]).1=0:=by decide +kernel
theorem av7:(dReap aw6).1.1=7∧(dReap aw6).1.2=0:=by decide +kernel
theorem av8:(dGo aw7 1).1.1=0∧(dGo aw7 1).1.2 = [⟨7,1,9⟩]:=by decide +kernel
theorem av9:pRead aw8.P 0 1 3 2=(0,[97,98]):=by decide +kernel
theorem ab2:Bd 1 aw2:=⟨by decide +kernel,by decide +kernel⟩
theorem ab3:Bd 1 aw3:=⟨by decide +kernel,by decide +kernel⟩
theorem ab6:Bd 1 aw6:=⟨by decide +kernel,by decide +kernel⟩
theorem ab7:Bd 1 aw7:=⟨by decide +kernel,by decide +kernel⟩
theorem _root_.Go.VC.Ext.kp {h0 h1 h2:Heap} {T:Nat→Prop} (x:Ext h0 h1) (k:Kp T h1 h2) (hT : ∀ y,y<h0.size→T y):Ext h0 h2:=Kp.ext x k hT
theorem awake_spec (h:Heap):CallsH PR fn_linchpinlaw20_awake #[] h (fun v h'=>v = .bool true∧Ext h h'):=by
 apply F_linchpinlaw20_awake_ok
 unfold F_linchpinlaw20_awake
 refine (got_spec h).mono ?_
 rintro _ h1 ⟨pb,rfl,x1,P1⟩
 refine ⟨_,rfl,fun q=>(by cases q),fun _=>?_⟩
 refine (lnew P1 x1 (fun y hy=>hy.1) gotL_own (n:=2) (cost:=5) (by omega) (by omega)).mono ?_
 rintro _ h5 ⟨db,x,rfl,x5,rfl,L5⟩
 refine ⟨_,_,rfl,fun q=>(by simp at q),fun _ h11 e11=>?_⟩
 have xx:=x1.trans x5
 obtain ⟨h14,s1,s2,s3,s4⟩:=st_tmp (zs:=[_,_]) e11 [.int .i64 0,.int .u64 1] rfl (by simp [Value.oneCell'])
 obtain ⟨L14,K14⟩:=L5.ext s3
 obtain ⟨T,hT⟩ : ∃ T:Nat→Prop,T=fun y=>y<h.size∨y=h5.size:=⟨_,rfl⟩
 replace L14:Lw db x T h14 aw0:=L14.sub fun y hy=>by
  rw [hT] at hy
  rcases hy with hy | hy
  ·exact .inl hy
  ·exact .inr ⟨by omega,by omega⟩
 have cH:T h5.size:=by rw [hT]; exact .inr rfl
 have old : ∀ y,y<h.size→T y:=fun y hy=>by rw [hT]; exact .inl hy
 have l0 : ∀ {hz:Heap},hz[h5.size]? = some (.cells (List.toArray [.int .i64 0,.int .u64 1]) 39 (0,0))→ldCells hz h5.size 0 2=some [.int .i64 0,.int .u64 1]:=fun q=>ld_lst q 2 0 (by simp)
 refine ⟨h14,s1,_,_,l0 s2,?_⟩
 refine (lsubmit L14 awr7 (by decide)).mono ?_
 rintro _ h17 ⟨rfl,(L17:Lw db x T h17 aw1),K17⟩
 have c17:=K17.get s2 cH
 refine ⟨_,rfl,_,_,l0 c17,?_⟩
 refine (lsubmit L17 awr8 (by decide)).mono ?_
 rintro _ h22 ⟨rfl,(L22:Lw db x T h22 aw2),K22⟩
 refine ⟨_,rfl,?_⟩
 refine (lstart L22 ab2 (by omega)).mono ?_
 rintro _ h25 ⟨a,c,rfl,-,L25,K25,-⟩
 replace L25:Lw db x T h25 aw3:=L25.sub fun y hy=>.inl hy
 refine ⟨_,_,_,rfl,?_⟩
 refine (ltake L25 ab3 (by omega)).mono ?_
 rintro _ h28 ⟨rfl,(L28:Lw db x T h28 aw4),K28⟩
 refine ⟨_,_,_,_,_,_,_,_,_,_,_,rfl,fun h33 e33=>?_⟩
 obtain ⟨h36,t1,t2,t3,t4⟩:=st_tmp (zs:=[_,_,_,_,_,_,_,_,_]) e33 (dscV (dTake aw3).1.2.1) rfl (dscV_one _)
 obtain ⟨L36,K36⟩:=L28.ext t3
 replace L36:Lw db x T h36 aw4:=L36.sub fun y hy=>.inl hy
 refine ⟨h36,t1,fun h37 e37=>?_⟩
 obtain ⟨u1,u2,u3⟩:=push_get e37
 obtain ⟨L37,K37⟩:=L36.ext u2
 refine ⟨⟨_,_,_,u1⟩,fun h39 m39=>?_⟩
 obtain ⟨m1,m2,m3⟩:=m39
 obtain ⟨z,hz⟩:=m3 _ _ _ u1
 have L39:=L37.tmp (t:=h36.size) (.inr ⟨Nat.le_refl _,by omega⟩) m2 m1
 replace L39:Lw db x T h39 aw4:=L39.sub fun y hy=>.inl hy
 have K39:Kp T h36 h39:=⟨by omega,fun y hy=>by rw [m2 y (fun q=>by have:=L36.lt hy; omega),K37.2 y hy]⟩
 have f39:firstH h39 1 2 (.slice (some ⟨h36.size,0,none⟩) 2 2)=some ([97,98].map u8):=by
  simp [firstH,ldCells,cellH,hz]
 have e4:(dTake aw3).1.1=0:=av4.1
 rw [e4]
 refine (lwrite L39 0 1 (bs:=[97,98]) rfl f39 (by omega)).mono ?_
 rintro _ h42 ⟨rfl,(L42:Lw db x T h42 aw5),K42⟩
 refine ⟨_,rfl,?_⟩
 refine (lfinish L42 0 9 false).mono ?_
 rintro _ h45 ⟨rfl,(L45:Lw db x T h45 aw6),K45⟩
 refine ⟨_,rfl,?_⟩
 refine (lreap L45 ab6 (by omega)).mono ?_
 rintro _ h48 ⟨rfl,(L48:Lw db x T h48 aw7),K48⟩
 refine ⟨_,_,rfl,?_⟩
 refine (lgo L48 ab7 (by omega) (t:=1) (by decide)).mono ?_
 rintro _ h52 ⟨a52,c52,rfl,s52,L52,K52⟩
 have KK:Kp T h17 h52:=(((((((K22.trans K25 fun _ q=>q).trans K28 fun _ q=>q).trans K36 fun _ q=>q).trans K39 fun _ q=>q).trans K42 fun _ q=>q).trans K45 fun _ q=>q).trans K48 fun _ q=>q).trans K52 fun _ q=>q
 have c52':=KK.get c17 cH
 refine ⟨_,_,_,_,rfl,_,_,l0 c52',?_⟩
 refine (lread L52 0 1 3 2 (by omega)).mono ?_
 rintro _ h59 ⟨a59,c59,rfl,x59,s59,-⟩
 obtain ⟨v1,v2⟩:=av8
 have v2':(dGo aw7 1).1.2 = [⟨7,1,9⟩]:=v2
 obtain ⟨b,o,rfl,ld⟩:=flat_ld (s52.ext x59) (i:=0) (f:=⟨7,1,9⟩) (by rw [v2]; rfl)
 rw [Nat.zero_mul,Nat.add_zero] at ld
 have w9:pRead (dGo aw7 1).2.P 0 1 3 2=(0,[97,98]):=av9
 rw [w9] at s59 ⊢
 refine ⟨_,_,_,_,rfl,b,o,fun _=>rfl,fun _=>?_,7,1,9,fun _=>ld,[97,98],fun _=>s59.first,?_,?_⟩
 ·rw [v2]; decide
 ·have w1:(dSubmit aw0 awr7).1=0:=av1
  have w2:(dSubmit aw1 awr8).1=8:=av2
  have w3:(dStart aw2).1 = [7]:=av3
  have w5:(dWrite aw4 0 1 [97,98]).1=0:=av5
  rw [w1,w2,w3,av4.2,w5,av7.1,av7.2,v2]
  rfl
 ·have e17:Ext h h14:=(x1.trans x5).trans s3
  exact ((e17.kp K17 old).kp KK old).trans x59
end Go.Proofs.Vf
namespace Go.Proofs.Vf
open Go Go.Proofs Go.VC
def ArgI (h:Heap) (k:IntKind) (a:Option Addr) (xs:List Int):Prop:=∀ i x,xs[i]? = some x→∃ b o,a=some ⟨b,o,none⟩∧cellH h b (o+i)=some (.int k x)
theorem ArgI.ext {h h':Heap} {k:IntKind} {a:Option Addr} {xs:List Int} (A:ArgI h k a xs) (x:Ext h h'):ArgI h' k a xs:=fun i v hv=>by
 obtain ⟨b,o,h1,h2⟩:=A i v hv
 exact ⟨b,o,h1,x.cell h2⟩
theorem ArgI.first {h:Heap} {a:Option Addr} {bs:List Int} (A:ArgI h .u8 a bs) {n c:Nat} (hn:n=bs.length) (ha : ∀ A,a=some A→A.spot=none):firstH h 1 n (.slice a n c)=some (bs.map u8):=by
 cases a with
 | none=>
  have:bs = []:=by
   cases bs with
   | nil=>rfl
   | cons x bs=>obtain ⟨b,o,q,_⟩:=A 0 x rfl; cases q
  subst this; rfl
 | some A'=>
  obtain ⟨b,o,s⟩:=A'
  have hs:=ha _ rfl
  simp only at hs
  subst hs
  have:=ldc_of (h:=h) (b:=b) (vs:=bs.map u8) (o:=o) fun i v hv=>by
   rw [List.getElem?_map] at hv
   obtain ⟨x,hx,rfl⟩:=Option.map_eq_some_iff.1 hv
   obtain ⟨b',o',q,hc⟩:=A i x hx
   cases q
   exact hc
  rw [List.length_map] at this
  show ldCells h b o (n * 1)=_
  rw [Nat.mul_one,hn]; exact this
section
variable {n:Nat} {st:Dv}
theorem bd_of {s:Dv} (b:Bd n st) (h1:s.B.F.length≤st.B.F.length+1) (h2:s.RL.length≤st.RL.length+65):Bd (n+1) s:=⟨by have:=b.1; omega,by have:=b.2; omega⟩
theorem stOpen_F (s:St) (id d:Int):(stOpen s id d).2.F=s.F:=by
 unfold stOpen
 repeat (first | rfl | split)
theorem stOut_F (s:St) (id k w:Int):(stOut s id k w).2.F.length≤s.F.length+1:=by
 unfold stOut; split
 ·simp
 ·dsimp only; omega
theorem stAnswer_F (s:St) (id t:Int) (bad:Bool):(stAnswer s id t bad).2.F.length≤s.F.length+1:=by
 unfold stAnswer
 split
 ·dsimp only; omega
 split <;> exact stOut_F _ _ _ _
theorem bd_submit (b:Bd n st) (r:Rq):Bd (n+1) (dSubmit st r).2:=by
 refine bd_of b ?_ (by rw [submit_RLe]; omega)
 have:(dSubmit st r).2.B.F=st.B.F:=by
  have:=stOpen_F st.B r.id r.dead
  unfold dSubmit
  repeat (first | rfl | exact this | split)
 rw [this]; omega
theorem bd_take (b:Bd n st):Bd (n+1) (dTake st).2:=by
 refine bd_of b ?_ (by rw [take_RLe]; omega)
 have:(dTake st).2.B=st.B:=by
  unfold dTake
  cases st.RL[st.taken]? with
  | none=>rfl
  | some d=>
   dsimp only
   cases st.I (st.taken:Nat) with
   | none=>rfl
   | some e=>dsimp only; split <;> rfl
 rw [this]; omega
theorem bd_finish (b:Bd n st) (no s:Int) (bad:Bool):Bd (n+1) (dFinish st no s bad).2:=by
 rcases dFinish_cases st no s bad with ⟨c,_,e⟩ | ⟨d,_,_,_,_,_,e⟩
 ·rw [e]; exact b.mono (by omega)
 ·rw [e]
  exact bd_of b (by dsimp only; omega) (by dsimp only; rw [List.length_set]; omega)
theorem bd_reap (b:Bd n st):Bd (n+1) (dReap st).2:=by
 refine bd_of b ?_ (by rw [reap_RLe]; omega)
 unfold dReap
 cases st.RL[st.reaped]? with
 | none=>dsimp only; omega
 | some d=>
  dsimp only
  split
  ·dsimp only; omega
  dsimp only
  cases st.I (st.reaped:Nat) with
  | none=>dsimp only; omega
  | some e=>
   dsimp only
   split
   ·dsimp only; omega
   ·dsimp only
    rw [(dLeave_fields _ _).1]
    exact stAnswer_F _ _ _ _
theorem bd_go (b:Bd n st) (t:Int):Bd (n+1) (dGo st t).2:=by
 refine bd_of b ?_ (by rw [go_RLe]; omega)
 unfold dGo
 rw [foldl_B]
 unfold stGo
 split
 ·dsimp only; omega
 split
 ·dsimp only; omega
 ·simp
theorem startN_len : ∀ (k:Nat) (s:Dv),(dStartN k s).2.RL.length≤s.RL.length+k∧(dStartN k s).2.B=s.B
 | 0,s=>⟨Nat.le_refl _,rfl⟩
 | k+1,s=>by
  unfold dStartN
  cases h:dStart1 s with
  | none=>exact ⟨by dsimp only; omega,rfl⟩
  | some p=>
   obtain ⟨id,s'⟩:=p
   obtain ⟨h1,h2⟩:=startN_len k s'
   have h3:=(dStart1_len h).1
   refine ⟨by dsimp only; omega,?_⟩
   dsimp only
   rw [h2]
   unfold dStart1 at h
   split at h
   ·cases h
   split at h
   ·cases h
   simp only at h
   split at h
   ·cases h
   ·simp only [Option.some.injEq,Prod.mk.injEq] at h
    rw [← h.2]
theorem bd_start (b:Bd n st):Bd (n+1) (dStart st).2:=by
 obtain ⟨h1,h2⟩:=startN_len 65 st
 exact bd_of b (by unfold dStart; rw [h2]; omega) h1
theorem bd_new {L:List Buf} {size:Nat} {cost:Int} : Bd 0 (dNew L size cost):=⟨Nat.le_refl _,Nat.le_refl _⟩
end
structure Gd (h0:Heap) (db:Nat) (x:DX) (T:Nat→Prop) (tm:List (Nat × Obj)) (h:Heap) (st:Dv):Prop where
 L:Lw db x T h st
 ex:Ext h0 h
 tm : ∀ p∈tm,h[p.1]? = some p.2∧T p.1
 old : ∀ y,y<h0.size→T y
section
variable {h0 h h':Heap} {db:Nat} {x:DX} {T:Nat→Prop} {tm:List (Nat × Obj)} {st st':Dv}
theorem Gd.step (g:Gd h0 db x T tm h st) (L:Lw db x T h' st') (k:Kp T h h'):Gd h0 db x T tm h' st':=
 ⟨L,Kp.ext g.ex k g.old,fun p hp=>⟨k.get (g.tm p hp).1 (g.tm p hp).2,(g.tm p hp).2⟩,g.old⟩
theorem Gd.ext (g:Gd h0 db x T tm h st) (e:Ext h h'):Gd h0 db x T tm h' st:=by
 obtain ⟨L,K⟩:=g.L.ext e
 exact g.step (L.sub fun y hy=>.inl hy) K
theorem Gd.get (g:Gd h0 db x T tm h st) {b:Nat} {o:Obj} (hp:(b,o)∈tm):h[b]? = some o:=(g.tm _ hp).1
theorem Gd.to (g:Gd h0 db x T tm h st) (e:st=st'):Gd h0 db x T tm h st':=e ▸ g
theorem gd_new {h1 h2:Heap} (x0:Ext h0 h1) (L:Lw db x (fun y=>y<h1.size) h2 st) (x2:Ext h1 h2) (e:Ext h2 h) (ht : ∀ p∈tm,h[p.1]? = some p.2∧h2.size≤p.1) :
  Gd h0 db x (fun y=>y<h0.size∨∃ p∈tm,p.1=y) tm h st:=by
 obtain ⟨L',K⟩:=L.ext e
 refine ⟨L'.sub fun y hy=>?_,(x0.trans x2).trans e,fun p hp=>⟨(ht p hp).1,.inr ⟨p,hp,rfl⟩⟩,fun y hy=>.inl hy⟩
 rcases hy with hy | ⟨p,hp,rfl⟩
 ·exact .inl (by have:=x0.1; omega)
 ·exact .inr ⟨(ht p hp).2,lt_of_get (ht p hp).1⟩
end
end Go.Proofs.Vf
namespace Go.Proofs.Vf
open Go Go.Proofs Go.VC
section
variable {st:Dv}
theorem qNext_grp {Q:List Wnt} {hd:Int} {dn:Bool} (ht : ∀ w∈Q,0≤w.track) (h0:(qNext Q hd dn).2.2=0):(qNext Q hd dn).1∈grp Q:=by
 unfold qNext at *
 split at h0
 ·cases h0
 rename_i hne
 rw [if_neg hne]
 have hb:0≤(blw hd (grp Q)).track→blw hd (grp Q)∈grp Q:=fun hp=>by
  rcases blw_mem hd (grp Q) ⟨0,0,-1⟩ with q | q
  ·unfold blw at hp; rw [q] at hp; exact absurd hp (by decide)
  ·exact q
 cases ha:abv hd (grp Q) with
 | none=>
  dsimp only
  apply hb
  obtain ⟨a,Q',rfl⟩ : ∃ a Q',Q=a :: Q':=by
   cases Q with
   | nil=>exact absurd rfl hne
   | cons a Q'=>exact ⟨a,Q',rfl⟩
  have ga : ∃ G,grp (a :: Q')=a :: G:=by
   refine ⟨Q'.takeWhile fun x=>decide (x.dead=a.dead),?_⟩
   show (a :: Q').takeWhile (fun x=>decide (x.dead=a.dead))=_
   rw [List.takeWhile_cons,if_pos (by simp)]
  obtain ⟨G,hG⟩:=ga
  rw [hG] at ha ⊢
  unfold abv at ha
  rw [List.find?_eq_none] at ha
  have hlt:=ha a (by simp)
  simp only [decide_eq_true_eq] at hlt
  have h0a:=ht a (by simp)
  unfold blw
  rw [List.foldl_cons,if_pos ⟨by omega,by dsimp only; omega⟩]
  exact Int.le_trans h0a (blw_ge hd G a)
 | some u=>
  dsimp only
  split
  ·rename_i hc
   simp only [Bool.and_eq_true,decide_eq_true_eq] at hc
   exact hb hc.2
  ·exact List.mem_of_find?_eq_some ha
theorem qNext_code {Q:List Wnt} {hd:Int} {dn:Bool} (h:Q≠[]):(qNext Q hd dn).2.2=0:=by
 unfold qNext
 rw [if_neg h]
 cases abv hd (grp Q) with
 | none=>rfl
 | some u=>dsimp only; split <;> rfl
theorem qNext_le {Q:List Wnt} {hd:Int} {dn:Bool} (hs:srtW Q) (ht : ∀ w∈Q,0≤w.track) (h0:(qNext Q hd dn).2.2=0) : ∀ w∈Q,(qNext Q hd dn).1.dead≤w.dead:=by
 have hg:=qNext_grp ht h0
 cases Q with
 | nil=>intro w hw; cases hw
 | cons a Q=>
  have hd':(qNext (a :: Q) hd dn).1.dead=a.dead:=by
   have h2:(qNext (a :: Q) hd dn).1∈(a :: Q).takeWhile (fun x=>decide (x.dead=a.dead)):=hg
   have:=List.all_takeWhile (p:=fun x:Wnt=>decide (x.dead=a.dead)) (l:=a :: Q)
   rw [List.all_eq_true] at this
   have:=this _ h2
   simpa using this
  intro w hw
  rw [hd']
  rcases List.mem_cons.1 hw with rfl | hw
  ·exact Int.le_refl _
  ·have:=(List.pairwise_cons.1 hs).1 w hw
   rw [lessW_iff] at this
   omega
theorem qDrop_len : ∀ {Q:List Wnt} {w:Wnt},w∈Q→(qDrop Q w.id).2.length+1=Q.length:=by
 intro Q w hw
 unfold qDrop
 cases hf:Q.findIdx? (fun x=>decide (x.id=w.id)) with
 | none=>
  rw [List.findIdx?_eq_none_iff] at hf
  have:=hf w hw
  simp at this
 | some i=>
  obtain ⟨hi,_⟩:=List.findIdx?_eq_some_iff_getElem.1 hf
  simp only [List.length_append,List.length_take,List.length_drop]
  omega
def dscOf (a:Opn) (id:Int):Dsc:=⟨a.r.op,id,a.r.pc.slot,a.r.pc.gen,a.r.pc.fr,a.r.pc.len,true,false,0⟩
theorem start1_some {id:Int} {s':Dv} (h:dStart1 st=some (id,s')) : ∃ a,(qNext st.Q st.hd st.dn).2.2=0∧id=(qNext st.Q st.hd st.dn).1.id∧st.O id=some a∧st.RL.length - st.reaped≠st.size∧s'.Q=(qDrop st.Q id).2∧s'.RL=st.RL ++ [dscOf a id] ∧
  s'.taken=st.taken∧s'.reaped=st.reaped∧s'.size=st.size∧s'.B=st.B∧s'.P=st.P∧s'.O=updF st.O id (some { a with no:=(st.RL.length:Int) }):=by
 unfold dStart1 at h
 split at h
 ·cases h
 rename_i hq0
 have hq0:(qNext st.Q st.hd st.dn).2.2=0:=by omega
 split at h
 ·cases h
 rename_i a ha
 simp only at h
 split at h
 ·cases h
 rename_i hr
 simp only [Option.some.injEq,Prod.mk.injEq] at h
 obtain ⟨rfl,rfl⟩:=h
 have eT:(qTake st.Q st.hd st.dn).2.1=(qDrop st.Q (qNext st.Q st.hd st.dn).1.id).2:=by unfold qTake; rw [if_neg (by omega)]
 have eR:rPut st.size st.RL st.reaped ⟨a.r.op,(qNext st.Q st.hd st.dn).1.id,a.r.pc.slot,a.r.pc.gen,a.r.pc.fr,a.r.pc.len,false,false,0⟩=(((st.RL.length:Int),(0:Int)),st.RL ++ [dscOf a (qNext st.Q st.hd st.dn).1.id])∧st.RL.length - st.reaped≠st.size:=by
  unfold rPut at hr ⊢
  dsimp only at hr ⊢
  split
  ·rename_i q; rw [if_pos q] at hr; exact absurd (by decide:(1:Int)≠0) hr
  ·rename_i q
   rw [if_neg q] at hr
   split
   ·rename_i q; rw [if_pos q] at hr; exact absurd (by decide:(4:Int)≠0) hr
   ·exact ⟨rfl,by assumption⟩
 refine ⟨a,hq0,rfl,ha,eR.2,eT,?_,rfl,rfl,rfl,rfl,rfl,?_⟩
 ·dsimp only; rw [eR.1]
 ·dsimp only; rw [eR.1]
theorem start1_none (k:DvOk st) (hd : ∀ id a,st.O id=some a→mayD (dscOf a id)=true) (h:dStart1 st=none):st.Q = []∨st.RL.length - st.reaped=st.size:=by
 by_cases hQ:st.Q = []
 ·exact .inl hQ
 right
 have h0:=qNext_code (hd:=st.hd) (dn:=st.dn) hQ
 obtain ⟨a,ha,_⟩:=k.qO _ (qNext_mem k.trk h0)
 unfold dStart1 at h
 rw [if_neg (by omega),ha] at h
 simp only at h
 split at h
 ·rename_i hr
  unfold rPut at hr
  dsimp only at hr
  have hm:=hd _ a ha
  unfold dscOf at hm
  rw [hm] at hr
  rw [if_neg (by decide)] at hr
  split at hr
  ·assumption
  ·exact absurd rfl hr
 ·cases h
end
section
variable {st:Dv}
theorem take_O (st:Dv) {id:Int} {y:Opn} (h:(dTake st).2.O id=some y) : ∃ x,st.O id=some x∧y.r=x.r:=by
 unfold dTake at h
 split at h
 ·exact ⟨y,h,rfl⟩
 rename_i d hd
 dsimp only at h
 split at h
 ·exact ⟨y,h,rfl⟩
 rename_i e he
 split at h
 ·exact ⟨y,h,rfl⟩
 ·dsimp only at h
  unfold updF at h
  split at h
  ·rename_i q
   obtain ⟨x,hx,rfl⟩:=Option.map_eq_some_iff.1 h
   exact ⟨x,by rw [q]; exact hx,rfl⟩
  ·exact ⟨y,h,rfl⟩
theorem take_f (st:Dv):(dTake st).2.Q=st.Q∧(dTake st).2.reaped=st.reaped∧(dTake st).2.size=st.size∧(dTake st).2.B=st.B:=by
 unfold dTake
 cases st.RL[st.taken]? with
 | none=>exact ⟨rfl,rfl,rfl,rfl⟩
 | some d=>
  dsimp only
  cases st.I (st.taken:Nat) with
  | none=>exact ⟨rfl,rfl,rfl,rfl⟩
  | some e=>dsimp only; split <;> exact ⟨rfl,rfl,rfl,rfl⟩
theorem take_v {d:Dsc} (h:st.RL[st.taken]? = some d):(dTake st).1=(((st.taken:Nat):Int),d,(0:Int))∧(dTake st).2.taken=st.taken+1:=by
 unfold dTake
 rw [h]
 dsimp only
 cases st.I (st.taken:Nat) with
 | none=>exact ⟨rfl,rfl⟩
 | some e=>dsimp only; split <;> exact ⟨rfl,rfl⟩
theorem take_n (h:st.RL[st.taken]? = none):dTake st=((0,d0,5),st):=by unfold dTake; rw [h]
end
end Go.Proofs.Vf
namespace Go.Proofs.Vf
open Go Go.Proofs Go.VC
def ordR (ds:Int→Int) (i:Int):Rq:=⟨i,0,10+ds i,i,⟨i,1,0,1⟩⟩
def chainP (ds:Int→Int):Int→List Int→Prop
 | _,[]=>True
 | l,x :: r=>(0≤l→ds l≤ds x)∧(0≤x∧x<4)∧chainP ds x r
def lastOf (l:Int):List Int→Int
 | []=>l
 | x :: r=>lastOf x r
structure OI (ds:Int→Int) (st:Dv) (all:List Int) (last:Int):Prop where
 ok:DvOk st
 rk:RLok st
 sz:1≤st.size
 o : ∀ id x,st.O id=some x→x.r=ordR ds id∧0≤id∧id<4
 rl:st.RL.map (·.req)=all
 cnt:st.Q.length+all.length=4
 la:last = -1∨(0≤last∧last<4∧∀ w∈st.Q,ds last≤ds w.id)
section
variable {ds:Int→Int} {st:Dv} {all:List Int} {last:Int}
theorem OI.q (o:OI ds st all last) {w:Wnt} (hw:w∈st.Q):w.dead=10+ds w.id∧0≤w.id∧w.id<4:=by
 obtain ⟨x,x1,x2,x3⟩:=o.ok.qO w hw
 obtain ⟨h1,h2⟩:=o.o _ x x1
 rw [h1] at x3
 refine ⟨?_,h2⟩
 rw [← x3]; rfl
theorem OI.d (o:OI ds st all last) (_hds : ∀ i,0≤ds i∧ds i<256) : ∀ id a,st.O id=some a→mayD (dscOf a id)=true:=fun id a h=>by
 obtain ⟨h1,h2,h3⟩:=o.o id a h
 unfold mayD dscOf
 rw [h1]
 unfold ordR
 dsimp only
 have e1:inD id 65535=true:=by simp [inD]; omega
 rw [e1]; rfl
theorem OI.start1 (o:OI ds st all last) {id:Int} {s':Dv} (h:dStart1 st=some (id,s')):OI ds s' (all ++ [id]) id∧(0≤last→ds last≤ds id)∧0≤id∧id<4∧s'.taken=st.taken∧s'.reaped=st.reaped:=by
 obtain ⟨a,a0,a1,a2,a3,a4,a5,a6,a7,a8,a9,a10,a11⟩:=start1_some h
 have hN:=qNext_mem o.ok.trk a0
 obtain ⟨q1,q2,q3⟩:=o.q hN
 have hle:=qNext_le o.ok.srt o.ok.trk a0
 have hqe:(qDrop st.Q id).2.length+1=st.Q.length:=by rw [a1]; exact qDrop_len hN
 have hsub:=qDrop_sub st.Q id
 refine ⟨{ ok:=start1_ok o.ok h,rk:=start1_RL o.rk h,sz:=by rw [a8]; exact o.sz,o:=fun j y hj=>?_,rl:=?_,cnt:=?_,la:=.inr ⟨by omega,by omega,fun w hw=>?_⟩ },fun hl=>?_,by omega,by omega,a6,a7⟩
 ·rw [a11] at hj
  unfold updF at hj
  split at hj
  ·rename_i e
   cases hj
   rw [e]
   exact o.o id a a2
  ·exact o.o j y hj
 ·rw [a5,List.map_append,o.rl]; rfl
 ·rw [a4,List.length_append,List.length_singleton]
  have:=o.cnt
  omega
 ·rw [a4] at hw
  have h1:=hle w (hsub.subset hw)
  have h2:=o.q (hsub.subset hw)
  rw [a1]
  omega
 ·rcases o.la with q | ⟨_,_,q⟩
  ·omega
  ·have:=q _ hN
   rw [a1]; exact this
theorem OI.startN : ∀ (n:Nat) {st:Dv} {all:List Int} {last:Int},OI ds st all last→(∀ i,0≤ds i∧ds i<256)→st.Q.length<n →
  OI ds (dStartN n st).2 (all ++ (dStartN n st).1) (lastOf last (dStartN n st).1)∧chainP ds last (dStartN n st).1∧(dStartN n st).2.taken=st.taken∧(dStartN n st).2.reaped=st.reaped∧((dStartN n st).2.Q = []∨(dStartN n st).2.RL.length - st.reaped=(dStartN n st).2.size)
 | 0,st,all,last,o,hds,hn=>by omega
 | n+1,st,all,last,o,hds,hn=>by
  unfold dStartN
  cases h:dStart1 st with
  | none=>
   dsimp only
   rw [List.append_nil]
   exact ⟨o,trivial,rfl,rfl,start1_none o.ok (o.d hds) h⟩
  | some p=>
   obtain ⟨id,s'⟩:=p
   dsimp only
   obtain ⟨o1,c1,c2,c3,c4,c5⟩:=o.start1 h
   have hq:s'.Q.length<n:=by
    have h1:=o.cnt
    have h2:=o1.cnt
    rw [List.length_append,List.length_singleton] at h2
    omega
   obtain ⟨r1,r2,r3,r4,r5⟩:=OI.startN n o1 hds hq
   rw [List.append_assoc] at r1
   exact ⟨r1,⟨c1,⟨c2,c3⟩,r2⟩,r3.trans c4,r4.trans c5,by rw [c5] at r5; exact r5⟩
end
end Go.Proofs.Vf
namespace Go.Proofs.Vf
open Go Go.Proofs Go.VC
section
variable {st:Dv}
theorem submit_good (r:Rq) {b:Buf} (hb:bufAt st.P r.pc.slot r.pc.gen=some b) (ho:b.owner=1) (hp:0≤r.pc.fr∧1≤r.pc.len∧r.pc.fr+r.pc.len≤b.b.length) (hop:0≤r.op∧r.op≤15) (hfr:r.pc.fr≤65535) (hm:mayW (wantOf r)=true)
  (hr:inRing st r.id=false) (hl0:look st.B.L r.id=none) (hq:st.Q.length<64) (hl:st.B.L.length<64) (ht:st.B.now+st.B.cost<r.dead):(dSubmit st r).1=0:=by
 have hok:argOk st r=true:=by
  unfold argOk mayP
  rw [hb]
  dsimp only
  rw [hm,decide_eq_true (by omega),decide_eq_false (by omega),decide_eq_false (by omega),decide_eq_false (by omega)]
  rfl
 have hm2:=hm
 unfold mayW at hm2
 simp only [Bool.and_eq_true,decide_eq_true_eq] at hm2
 have e:wantOf r=⟨r.id,r.dead,r.track⟩:=rfl
 rw [e] at hm2
 dsimp only at hm2
 have hso:(stOpen st.B r.id r.dead).1=0:=by
  unfold stOpen
  rw [if_neg (by omega),if_neg (by omega),hl0,if_neg (by decide),if_neg (by omega),if_neg (by omega)]
 unfold dSubmit
 rw [if_neg (by rw [hok]; decide)]
 have hpo:(pOwner st.P r.pc.slot r.pc.gen).1=1:=by unfold pOwner; rw [hb]; exact ho
 rw [if_neg (fun q=>q hpo),if_neg (by rw [hr]; decide),if_neg (by omega),if_neg (fun q=>q hso)]
end
structure OS (ds:Int→Int) (i:Nat) (sz:Nat) (st:Dv):Prop where
 ok:DvOk st
 rk:RLok st
 sz:st.size=sz
 o : ∀ id x,st.O id=some x→x.r=ordR ds id∧0≤id∧id<i
 rl:st.RL = []
 tk:st.taken=0∧st.reaped=0
 q:st.Q.length=i
 bl:st.B.L.length=i
 bt:st.B.now=0∧st.B.cost=5
 p : ∀ j:Nat,i≤j→j<4→∃ b,bufAt st.P j 1=some b∧b.owner=1∧1≤b.b.length
section
variable {ds:Int→Int} {st:Dv} {i sz:Nat}
theorem insW_len (w:Wnt) (Q:List Wnt):(insW w Q).length=Q.length+1:=(insW_perm w Q).length_eq
theorem OS.submit (o:OS ds i sz st) (hds : ∀ i,0≤ds i∧ds i<256) (hi:i<4):(dSubmit st (ordR ds i)).1=0∧OS ds (i+1) sz (dSubmit st (ordR ds i)).2:=by
 have hd:=hds i
 obtain ⟨b,b1,b2,b3⟩:=o.p i (Nat.le_refl _) hi
 have hl0:look st.B.L (ordR ds i).id=none:=by
  cases h:look st.B.L (ordR ds i).id with
  | none=>rfl
  | some d=>
   obtain ⟨y,y1,_⟩:=o.ok.oB _ d h
   have:=o.o _ y y1
   have e:(ordR ds i).id=i:=rfl
   omega
 have hr:inRing st (ordR ds i).id=false:=by unfold inRing; rw [o.rl]; simp
 have hm:mayW (wantOf (ordR ds i))=true:=by
  unfold mayW wantOf ordR
  dsimp only
  simp only [Bool.and_eq_true,decide_eq_true_eq]
  omega
 have hg:(dSubmit st (ordR ds i)).1=0:=submit_good (ordR ds i) b1 b2 ⟨by show (0:Int)≤0; omega,by show (1:Int)≤1; omega,by show (0:Int)+1≤b.b.length; omega⟩ ⟨by show (0:Int)≤0; omega,by show (0:Int)≤15; omega⟩ (by show (0:Int)≤65535; omega) hm hr hl0 (by rw [o.q]; omega) (by rw [o.bl]; omega) (by rw [o.bt.1,o.bt.2]; show 0+5<10+ds i; omega)
 refine ⟨hg,?_⟩
 have k:=submit_ok o.ok (ordR ds i)
 have rk:=rlok_of o.rk (submit_RLe st (ordR ds i))
 rcases dSubmit_cases o.ok (ordR ds i) with ⟨c,hc,e⟩ | ⟨b',_,hb',ho',_,_,_,_,_,_,_,hO,_,_,_,e⟩
 ·rw [e] at hg; exact absurd hg hc
 rw [e] at k rk ⊢
 exact
 {ok:=k,rk:=rk,sz:=o.sz
  o:=fun id x hx=>by
   dsimp only at hx
   unfold updF at hx
   split at hx
   ·rename_i q
    cases hx
    have e:(ordR ds i).id=i:=rfl
    rw [q,e]
    exact ⟨rfl,by omega,by omega⟩
   ·obtain ⟨h1,h2,h3⟩:=o.o id x hx
    exact ⟨h1,h2,by omega⟩
  rl:=o.rl,tk:=o.tk
  q:=by dsimp only; rw [insW_len,o.q]
  bl:=by dsimp only; rw [ins_length,o.bl]
  bt:=o.bt
  p:=fun j h1 h2=>by
   obtain ⟨c,c1,c2⟩:=o.p j (by omega) h2
   refine ⟨c,?_,c2⟩
   dsimp only
   rw [bufAt_give hb' ho' (by omega) (by omega) (by omega),if_neg]
   ·exact c1
   ·intro q
    have e:(ordR ds i).pc.slot=i:=rfl
    rw [e] at q
    omega }
theorem OS.new:OS ds 0 sz (dNew gotL sz 5):=
 {ok:=new_ok gotL_own (by omega),rk:=fun n d h=>by simp [dNew] at h,sz:=rfl,o:=fun _ _ h=>(by cases h),rl:=rfl,tk:=⟨rfl,rfl⟩,q:=rfl,bl:=rfl,bt:=⟨rfl,rfl⟩
  p:=fun j _ h=>by
   have:j=0∨j=1∨j=2∨j=3:=by omega
   rcases this with rfl | rfl | rfl | rfl
   ·exact ⟨⟨1,1,1,z8⟩,rfl,rfl,by decide⟩
   ·exact ⟨⟨1,1,1,z8⟩,rfl,rfl,by decide⟩
   ·exact ⟨⟨1,1,1,z8⟩,rfl,rfl,by decide⟩
   ·exact ⟨⟨1,1,1,z20⟩,rfl,rfl,by decide⟩ }
end
theorem gd_app {h0 h h':Heap} {db:Nat} {x:DX} {T:Nat→Prop} {tm:List (Nat × Obj)} {st:Dv} {a:Option Addr} (g:Gd h0 db x T tm h st) (ch:Ch (blkOf a) h h') (ha : ∀ y,blkOf a y→T y∧h0.size≤y) (ht : ∀ p∈tm,¬ blkOf a p.1) :
  Gd h0 db x (Nw T h h') tm h' st:=by
 obtain ⟨col,D,q⟩:=g.L.dev
 have hz:=ch.1
 refine ⟨⟨⟨recol col h 0,D.tmpCh (fun y _ hy=>(q y (ha y hy).1).2) ch,fun y hy=>?_⟩,g.L.ok,g.L.rl⟩,?_,fun p hp=>?_,fun y hy=>.inl (g.old y hy)⟩
 ·rcases hy with hy | hy
  ·obtain ⟨q1,q2⟩:=q y hy
   exact ⟨by omega,by unfold recol; rw [if_pos q1]; exact q2⟩
  ·exact ⟨hy.2,by unfold recol; rw [if_neg (by omega)]⟩
 ·exact ⟨Nat.le_trans g.ex.1 hz,fun y hy=>by rw [ch.2 y (Nat.lt_of_lt_of_le hy g.ex.1) (fun q=>by have:=(ha y q).2; omega),g.ex.2 y hy]⟩
 ·obtain ⟨p1,p2⟩:=g.tm p hp
  exact ⟨by rw [ch.2 p.1 (lt_of_get p1) (ht p hp)]; exact p1,.inl p2⟩
end Go.Proofs.Vf
namespace Go.Proofs.Vf
open Go Go.Proofs Go.VC
def PZ (P:List Buf):Prop:=∀ j:Nat,j<4→∃ b,bufAt P j 1=some b∧b.b[0]? = some 0∧2≤b.b.length∧(b.owner=1∨b.owner=2∨b.owner=3)
theorem pz_give {P:List Buf} (h:PZ P) (s g fr to:Int) (ht:1≤to∧to≤3):PZ (pGive P s g fr to).2:=by
 unfold pGive
 cases hb:bufAt P s g with
 | none=>exact h
 | some b=>
  dsimp only
  split
  ·exact h
  split
  ·exact h
  obtain ⟨q1,q2,q3,q4,q5⟩:=bufAt_some hb
  intro j hj
  obtain ⟨c,c1,c2,c3,c4⟩:=h j hj
  dsimp only
  rw [bufAt_set q3 (b':={ b with owner:=to }) rfl q4 (by dsimp only; omega)]
  split
  ·rename_i hq
   have:bufAt P j 1=some b:=by
    have e:(j:Int)=s:=by omega
    rw [e,hq.2,q5]; exact hb
   rw [this] at c1; cases c1
   exact ⟨_,rfl,c2,c3,by dsimp only; omega⟩
  ·exact ⟨c,c1,c2,c3,c4⟩
theorem pz_leave {st:Dv} (h:PZ st.P) (id:Int):PZ (dLeave st id).P:=by
 unfold dLeave
 split
 ·exact h
 ·exact pz_give h _ _ _ _ (by omega)
theorem pz_fold : ∀ (l:List Fate) {st:Dv},PZ st.P→PZ (l.foldl goStep st).P
 | [],_,h=>h
 | f :: l,st,h=>by
  rw [List.foldl_cons]
  refine pz_fold l ?_
  unfold goStep
  split
  ·exact h
  ·exact pz_leave h f.id
theorem pz_take {st:Dv} (h:PZ st.P):PZ (dTake st).2.P:=by
 unfold dTake
 cases st.RL[st.taken]? with
 | none=>exact h
 | some d=>
  dsimp only
  cases st.I (st.taken:Nat) with
  | none=>exact h
  | some e=>
   dsimp only
   split
   ·exact h
   ·exact pz_give h _ _ _ _ (by omega)
theorem pz_got:PZ gotL:=fun j h=>by
 have:j=0∨j=1∨j=2∨j=3:=by omega
 rcases this with rfl | rfl | rfl | rfl
 ·exact ⟨⟨1,1,1,z8⟩,rfl,rfl,by decide,.inl rfl⟩
 ·exact ⟨⟨1,1,1,z8⟩,rfl,rfl,by decide,.inl rfl⟩
 ·exact ⟨⟨1,1,1,z8⟩,rfl,rfl,by decide,.inl rfl⟩
 ·exact ⟨⟨1,1,1,z20⟩,rfl,rfl,by decide,.inl rfl⟩
structure SA (n:Nat) (i:Int) (st:Dv):Prop where
 ok:DvOk st
 rk:RLok st
 pz:PZ st.P
 f:st.B.F = []
 c:st.B.cost=5∧st.B.now=0
 len:st.B.L.length=n
 dead : ∀ y∈st.B.L,y.dead=30
 o : ∀ id x,st.O id=some x→0≤id∧id<i
 rl : ∀ d∈st.RL,0≤d.req∧d.req<20∧d.done=false
 rp:st.reaped=0
section
variable {n:Nat} {i:Int} {st:Dv}
def silR (i s:Int):Rq:=⟨i,0,30,0,⟨s,1,0,2⟩⟩
theorem SA.submit (a:SA n i st) (h0:0≤i) (s:Int):((dSubmit st (silR i s)).1=0∧SA (n+1) (i+1) (dSubmit st (silR i s)).2)∨((dSubmit st (silR i s)).1≠0∧SA n (i+1) (dSubmit st (silR i s)).2):=by
 have k:=submit_ok a.ok (silR i s)
 have rk:=rlok_of a.rk (submit_RLe st (silR i s))
 rcases dSubmit_cases a.ok (silR i s) with ⟨c,hc,e⟩ | ⟨b',_,hb',ho',_,_,_,_,_,_,_,hO,_,_,_,e⟩
 ·right
  rw [e]
  exact ⟨hc,{ a with o:=fun id x h=>by have:=a.o id x h; omega }⟩
 ·left
  rw [e] at k rk ⊢
  have ei:(silR i s).id=i:=rfl
  exact ⟨rfl,
  {ok:=k,rk:=rk,pz:=pz_give a.pz _ _ _ _ (by omega),f:=a.f,c:=a.c
   len:=by dsimp only; rw [ins_length,a.len]
   dead:=fun y hy=>by
    rcases mem_ins.1 hy with rfl | hy
    ·rfl
    ·exact a.dead y hy
   o:=fun id x hx=>by
    dsimp only at hx
    unfold updF at hx
    split at hx
    ·omega
    ·have:=a.o id x hx; omega
   rl:=a.rl,rp:=a.rp }⟩
theorem SA.start1 (a:SA n i st) (h:i≤20) {id:Int} {s':Dv} (hs:dStart1 st=some (id,s')):SA n i s'∧s'.taken=st.taken:=by
 obtain ⟨w,a0,a1,a2,a3,a4,a5,a6,a7,a8,a9,a10,a11⟩:=start1_some hs
 have hi:=a.o id w a2
 refine ⟨{ ok:=start1_ok a.ok hs,rk:=start1_RL a.rk hs,pz:=by rw [a10]; exact a.pz,f:=by rw [a9]; exact a.f,c:=by rw [a9]; exact a.c,len:=by rw [a9]; exact a.len,dead:=by rw [a9]; exact a.dead,o:=fun j y hj=>?_,rl:=fun d hd=>?_,rp:=by rw [a7]; exact a.rp },a6⟩
 ·rw [a11] at hj
  unfold updF at hj
  split at hj
  ·omega
  ·exact a.o j y hj
 ·rw [a5] at hd
  rcases List.mem_append.1 hd with hd | hd
  ·exact a.rl d hd
  ·rw [List.mem_singleton] at hd
   rw [hd]
   unfold dscOf
   dsimp only
   exact ⟨hi.1,by omega,rfl⟩
theorem SA.startN : ∀ (m:Nat) {st:Dv},SA n i st→i≤20→SA n i (dStartN m st).2∧(dStartN m st).2.taken=st.taken
 | 0,st,a,h=>⟨a,rfl⟩
 | m+1,st,a,h=>by
  unfold dStartN
  cases hs:dStart1 st with
  | none=>exact ⟨a,rfl⟩
  | some p=>
   obtain ⟨b1,b2⟩:=a.start1 h hs
   obtain ⟨c1,c2⟩:=SA.startN m b1 h
   exact ⟨c1,c2.trans b2⟩
theorem SA.take (a:SA n i st):SA n i (dTake st).2:=by
 obtain ⟨f1,f2,f3,f4⟩:=take_f st
 exact
 {ok:=take_ok a.ok,rk:=rlok_of a.rk (take_RLe st),pz:=pz_take a.pz,f:=by rw [f4]; exact a.f,c:=by rw [f4]; exact a.c,len:=by rw [f4]; exact a.len,dead:=by rw [f4]; exact a.dead
  o:=fun j y hj=>by
   obtain ⟨x,hx,_⟩:=take_O st hj
   exact a.o j x hx
  rl:=by rw [take_RLe]; exact a.rl
  rp:=by rw [f2]; exact a.rp }
theorem SA.new {sz:Nat} : SA 0 0 (dNew gotL sz 5):=
 {ok:=new_ok gotL_own (by omega),rk:=fun n d h=>by simp [dNew] at h,pz:=pz_got,f:=rfl,c:=⟨rfl,rfl⟩,len:=rfl,dead:=fun y hy=>(by cases hy),o:=fun _ _ h=>(by cases h),rl:=fun d hd=>(by cases hd),rp:=rfl }
structure SC (t i:Nat) (st:Dv):Prop where
 ok:DvOk st
 rk:RLok st
 pz:PZ st.P
 b:st.B=⟨5,25,[],[]⟩
 o : ∀ id,st.O id=none
 rl : ∀ d∈st.RL,0≤d.req∧d.req<20
 dn : ∀ (j:Nat) d,i≤j→st.RL[j]? = some d→d.done=false
 tk:st.taken=t∧st.reaped=0
theorem go_taken (st:Dv) (t:Int):(dGo st t).2.taken=st.taken∧(dGo st t).2.reaped=st.reaped:=by
 unfold dGo
 dsimp only
 have : ∀ (l:List Fate) (s:Dv),(l.foldl goStep s).taken=s.taken∧(l.foldl goStep s).reaped=s.reaped:=fun l=>by
  induction l with
  | nil=>exact fun s=>⟨rfl,rfl⟩
  | cons f l ih=>
   intro s
   rw [List.foldl_cons]
   obtain ⟨h1,h2⟩:=ih (goStep s f)
   rw [h1,h2]
   unfold goStep; split
   ·exact ⟨rfl,rfl⟩
   ·exact ⟨(dLeave_fields _ _).2.2.1,(dLeave_fields _ _).2.2.2.1⟩
 exact this _ _
theorem SA.go (a:SA n i st):(dGo st 25).1=(0,st.B.L.map byTime)∧SC st.taken 0 (dGo st 25).2:=by
 have hd : ∀ y∈st.B.L,dueBy st.B.cost 25 y=true:=fun y hy=>by
  unfold dueBy; rw [a.c.1,a.dead y hy]; decide
 have e:stGo st.B 25=(0,st.B.L.map byTime,⟨5,25,[],[]⟩):=by
  unfold stGo
  rw [if_neg (by omega),if_neg (by rw [a.c.2]; omega),a.f,List.nil_append,List.filter_eq_self.2 hd]
  have:st.B.L.filter (fun x=>!dueBy st.B.cost 25 x) = []:=List.filter_eq_nil_iff.2 fun y hy=>by rw [hd y hy]; decide
  rw [this,a.c.1]
 have hB:(dGo st 25).2.B=⟨5,25,[],[]⟩:=by
  unfold dGo; rw [foldl_B,e]
 have k:=go_ok a.ok (show (0:Int)≤25 by decide)
 obtain ⟨t1,t2⟩:=go_taken st 25
 refine ⟨by unfold dGo; rw [e],{ ok:=k,rk:=rlok_of a.rk (go_RLe st 25),pz:=?_,b:=hB,o:=fun id=>?_,rl:=?_,dn:=fun j d _ h=>?_,tk:=⟨t1,t2.trans a.rp⟩ }⟩
 ·unfold dGo
  exact pz_fold _ a.pz
 ·cases h:(dGo st 25).2.O id with
  | none=>rfl
  | some x=>
   rcases k.oE id x h with q | q
   ·rw [hB] at q; simp [look] at q
   ·exact q.elim
 ·rw [go_RLe]; exact fun d hd=>⟨(a.rl d hd).1,(a.rl d hd).2.1⟩
 ·rw [go_RLe] at h
  exact (a.rl d (List.mem_of_getElem? h)).2.2
end
section
variable {t i:Nat} {st:Dv}
theorem SC.void (s:SC t i st) {k:Int} {e:Ent} (h:st.I k=some e):e.void=true:=by
 obtain ⟨n,rfl,_,_⟩:=(s.ok.iR k).1 (by rw [h]; rfl)
 obtain ⟨d,_,_,_,_,g⟩:=s.ok.iE n e h
 cases hv:e.void with
 | true=>rfl
 | false=>
  obtain ⟨x,x1,_⟩:=g hv
  rw [s.o] at x1; cases x1
theorem SC.write (s:SC t i st) (_hi:i<t) (bs:List Int):dWrite st (i:Nat) 0 bs=(12,st):=by
 unfold dWrite
 cases he:st.I (i:Nat) with
 | none=>rfl
 | some e=>
  dsimp only
  rw [if_pos (by rw [s.void he]; simp)]
theorem SC.finish (s:SC t i st) (hi:i<t):(dFinish st (i:Nat) 1 false).1=0∧SC t (i+1) (dFinish st (i:Nat) 1 false).2:=by
 have hrt:=s.ok.rt
 have hlt:i<st.RL.length:=by have:=s.tk.1; omega
 have k:=finish_ok s.ok (i:Nat) 1 false
 have rk:=finish_RL s.rk (i:Nat) 1 false
 have hdn:=s.dn i _ (Nat.le_refl _) (List.getElem?_eq_getElem hlt)
 have e0:((i:Nat):Int).toNat=i:=by omega
 rcases dFinish_cases st (i:Nat) 1 false with ⟨c,hc,e⟩ | ⟨d,h1,h2,h3,hd,hd2,e⟩
 ·exfalso
  have e2:rFinish st.RL st.taken st.reaped (i:Nat) 1=(0,st.RL.set i { st.RL[i] with dev:=false,done:=true,st:=1 }):=by
   unfold rFinish
   rw [if_neg (by omega),if_neg (by have:=s.tk; omega),e0,List.getElem?_eq_getElem hlt]
   dsimp only
   rw [if_neg (by rw [hdn]; decide)]
  unfold dFinish at e
  rw [e2] at e
  simp at e
  exact hc e.1.symm
 ·rw [e] at k rk ⊢
  rw [e0] at hd
  refine ⟨rfl,{ ok:=k,rk:=rk,pz:=s.pz,b:=s.b,o:=s.o,rl:=fun d' hd'=>?_,dn:=fun j d' hj h=>?_,tk:=s.tk }⟩
  ·dsimp only at hd'
   rw [e0] at hd'
   rcases List.mem_or_eq_of_mem_set hd' with q | q
   ·exact s.rl d' q
   ·rw [q]; exact s.rl d (List.mem_of_getElem? hd)
  ·dsimp only at h
   rw [e0,List.getElem?_set_ne (by omega)] at h
   exact s.dn j d' (by omega) h
structure SE (i:Nat) (st:Dv):Prop where
 ok:DvOk st
 rk:RLok st
 pz:PZ st.P
 own : ∀ j:Nat,i≤j→j<4→∃ b,bufAt st.P j 1=some b∧b.owner=1
 b:st.B.cost=5∧st.B.now=25∧st.B.F = []∧st.B.L.length=i∧∀ y∈st.B.L,y.dead=60
 o : ∀ id x,st.O id=some x→50≤id∧id<50+i
 q:st.Q.length=i
 rl : ∀ d∈st.RL,0≤d.req∧d.req<20
 vd : ∀ k e,st.I k=some e→e.void=true
theorem SC.se (s:SC t i st):SE 0 st:=
 {ok:=s.ok,rk:=s.rk,pz:=s.pz
  own:=fun j _ h=>by
   obtain ⟨b,b1,_,_,b4⟩:=s.pz j h
   refine ⟨b,b1,?_⟩
   obtain ⟨q1,q2,q3,q4,q5⟩:=bufAt_some b1
   rcases b4 with q | q | q
   ·exact q
   ·obtain ⟨id,x,x1,_⟩:=s.ok.own _ b q3 (.inl q)
    rw [s.o] at x1; cases x1
   ·obtain ⟨id,x,x1,_⟩:=s.ok.own _ b q3 (.inr q)
    rw [s.o] at x1; cases x1
  b:=by rw [s.b]; exact ⟨rfl,rfl,rfl,rfl,fun y hy=>by cases hy⟩
  o:=fun id x h=>by rw [s.o] at h; cases h
  q:=by
   cases hq:st.Q with
   | nil=>rfl
   | cons w Q=>
    obtain ⟨x,x1,_⟩:=s.ok.qO w (by rw [hq]; simp)
    rw [s.o] at x1; cases x1
  rl:=s.rl
  vd:=fun k e h=>s.void h }
def sil2 (i:Int):Rq:=⟨50+i,0,60,0,⟨i,1,0,1⟩⟩
theorem SE.submit (s:SE i st) (hi:i<4):(dSubmit st (sil2 i)).1=0∧SE (i+1) (dSubmit st (sil2 i)).2:=by
 obtain ⟨b,b1,b2⟩:=s.own i (Nat.le_refl _) hi
 obtain ⟨b',c1,_,c3,_⟩:=s.pz i hi
 rw [b1] at c1; cases c1
 obtain ⟨q1,q2,q3,q4,q5⟩:=s.b
 have ei:(sil2 (i:Nat)).id=50+(i:Int):=rfl
 have hl0:look st.B.L (sil2 (i:Nat)).id=none:=by
  cases h:look st.B.L (sil2 (i:Nat)).id with
  | none=>rfl
  | some d=>
   obtain ⟨y,y1,_⟩:=s.ok.oB _ d h
   have:=s.o _ y y1
   omega
 have hr:inRing st (sil2 (i:Nat)).id=false:=by
  cases h:inRing st (sil2 (i:Nat)).id with
  | false=>rfl
  | true=>
   unfold inRing at h
   rw [List.any_eq_true] at h
   obtain ⟨d,hd,he⟩:=h
   have:=s.rl d (List.mem_of_mem_drop hd)
   rw [decide_eq_true_eq] at he
   omega
 have hm:mayW (wantOf (sil2 (i:Nat)))=true:=by
  unfold mayW wantOf sil2
  dsimp only
  simp only [Bool.and_eq_true,decide_eq_true_eq]
  omega
 have hg:(dSubmit st (sil2 (i:Nat))).1=0:=submit_good (sil2 (i:Nat)) b1 b2 ⟨by show (0:Int)≤0; omega,by show (1:Int)≤1; omega,by show (0:Int)+1≤b.b.length; omega⟩ ⟨by show (0:Int)≤0; omega,by show (0:Int)≤15; omega⟩ (by show (0:Int)≤65535; omega) hm hr hl0 (by rw [s.q]; omega) (by omega) (by rw [q1,q2]; show (25:Int)+5<60; omega)
 refine ⟨hg,?_⟩
 have k:=submit_ok s.ok (sil2 (i:Nat))
 have rk:=rlok_of s.rk (submit_RLe st (sil2 (i:Nat)))
 rcases dSubmit_cases s.ok (sil2 (i:Nat)) with ⟨c,hc,e⟩ | ⟨b',_,hb',ho',_,_,_,_,_,_,_,hO,_,_,_,e⟩
 ·rw [e] at hg; exact absurd hg hc
 rw [e] at k rk ⊢
 exact
 {ok:=k,rk:=rk,pz:=pz_give s.pz _ _ _ _ (by omega)
  own:=fun j h1 h2=>by
   obtain ⟨c,c1,c2⟩:=s.own j (by omega) h2
   refine ⟨c,?_,c2⟩
   dsimp only
   rw [bufAt_give hb' ho' (by omega) (by omega) (by omega),if_neg]
   ·exact c1
   ·intro q
    have e:(sil2 (i:Nat)).pc.slot=i:=rfl
    rw [e] at q
    omega
  b:=⟨q1,q2,q3,by dsimp only; rw [ins_length,q4],fun y hy=>by
   rcases mem_ins.1 hy with rfl | hy
   ·rfl
   ·exact q5 y hy⟩
  o:=fun id x hx=>by
   dsimp only at hx
   unfold updF at hx
   split at hx
   ·omega
   ·have:=s.o id x hx; omega
  q:=by dsimp only; rw [insW_len,s.q]
  rl:=s.rl
  vd:=s.vd }
theorem SE.reap (s:SE i st):SE i (dReap st).2:=by
 have k:=reap_ok s.ok s.rk
 have rk:=rlok_of s.rk (reap_RLe st)
 have e:(dReap st).2.P=st.P∧(dReap st).2.B=st.B∧(dReap st).2.O=st.O∧(dReap st).2.Q=st.Q∧(∀ k e,(dReap st).2.I k=some e→e.void=true):=by
  unfold dReap
  cases st.RL[st.reaped]? with
  | none=>exact ⟨rfl,rfl,rfl,rfl,s.vd⟩
  | some d=>
   dsimp only
   split
   ·exact ⟨rfl,rfl,rfl,rfl,s.vd⟩
   dsimp only
   cases he:st.I (st.reaped:Nat) with
   | none=>exact ⟨rfl,rfl,rfl,rfl,s.vd⟩
   | some e=>
    dsimp only
    rw [if_pos (s.vd _ e he)]
    refine ⟨rfl,rfl,rfl,rfl,fun k e h=>?_⟩
    dsimp only at h
    unfold updF at h
    split at h
    ·cases h
    ·exact s.vd k e h
 obtain ⟨e1,e2,e3,e4,e5⟩:=e
 exact { ok:=k,rk:=rk,pz:=by rw [e1]; exact s.pz,own:=by rw [e1]; exact s.own,b:=by rw [e2]; exact s.b,o:=by rw [e3]; exact s.o,q:=by rw [e4]; exact s.q,rl:=by rw [reap_RLe]; exact s.rl,vd:=e5 }
theorem SE.go (s:SE i st):(dGo st 26).1=(0,[]):=by
 obtain ⟨q1,q2,q3,q4,q5⟩:=s.b
 have:stGo st.B 26=(0,[],(stGo st.B 26).2.2):=by
  unfold stGo
  rw [if_neg (by omega),if_neg (by rw [q2]; omega),q3,List.nil_append]
  have:st.B.L.filter (dueBy st.B.cost 26) = []:=List.filter_eq_nil_iff.2 fun y hy=>by
   unfold dueBy; rw [q1,q5 y hy]; decide
  rw [this]; rfl
 unfold dGo
 rw [this]
end
end Go.Proofs.Vf
namespace Go.Proofs.Vf
open Go Go.Proofs Go.VC
theorem silent_spec {h:Heap} {p0 p2:Int} {a:Option Addr} {n c:Nat} {bs:List Int} (h0:0≤p0∧p0<256) (h2:0≤p2∧p2<256) (A:ArgI h .u8 a bs) (hnl:n=bs.length) (hn:n≤9223372036854775807) (hb : ∀ x∈bs,0≤x∧x<256) :
  CallsH PR fn_linchpinlaw20_IoqSilent #[.int .u8 p0,.slice a n c,.int .u8 p2] h (fun v h'=>v = .bool true∧Ext h h'):=by
 subst hnl
 apply F_linchpinlaw20_IoqSilent_ok
 unfold F_linchpinlaw20_IoqSilent
 refine (awake_spec h).mono ?_
 rintro _ g1 ⟨rfl,x1⟩
 refine ⟨true,rfl,fun q=>(by cases q),fun _=>?_⟩
 have w0:IntKind.i64.wrap p0=p0:=wrap_i64 ⟨by omega,by omega⟩
 have w2:IntKind.i64.wrap p2=p2:=wrap_i64 ⟨by omega,by omega⟩
 rw [w0,w2]
 obtain ⟨sz,hsz⟩ : ∃ sz,sz=1+p0.tmod 4:=⟨_,rfl⟩
 obtain ⟨tk,htk⟩ : ∃ tk,tk=p2.tmod 5:=⟨_,rfl⟩
 rw [← hsz,← htk]
 have s0:1≤sz∧sz≤4:=by rw [hsz,Int.tmod_eq_emod_of_nonneg h0.1]; omega
 have t0:0≤tk∧tk≤4:=by rw [htk,Int.tmod_eq_emod_of_nonneg h2.1]; omega
 refine (got_spec g1).mono ?_
 rintro _ g4 ⟨pb,rfl,x4,P4⟩
 refine ⟨_,rfl,⟨by omega,by omega⟩,?_⟩
 refine (lnew P4 x4 (fun y hy=>hy.1) gotL_own (n:=sz) (cost:=5) (by omega) (by omega)).mono ?_
 rintro _ g9 ⟨db,x,rfl,x9,rfl,L9⟩
 refine ⟨_,_,rfl,fun q=>?_,fun q=>?_⟩
 ·have:(20:Int)<bs.length:=by simpa using q
  rw [decide_eq_true this]
  exact ⟨rfl,(x1.trans x4).trans x9⟩
 have hl:bs.length≤20:=by simp at q; omega
 have G0:=gd_new (tm:=[]) x1 L9 (x4.trans x9) (Ext.refl _) (fun p hp=>by cases hp)
 obtain ⟨T,hT⟩ : ∃ T:Nat→Prop,T=fun y=>y<h.size∨∃ p∈([]:List (Nat × Obj)),p.1=y:=⟨_,rfl⟩
 rw [← hT] at G0
 refine ⟨fun m i hh=>(0≤i∧i≤bs.length)∧(0≤m∧m≤i)∧∃ st,Gd h db x T [] hh st∧SA m.toNat i st∧Bd i.toNat st,fun _ i _=>(bs.length - i).toNat,⟨⟨by omega,by omega⟩,⟨by omega,by omega⟩,_,G0,SA.new,bd_new⟩,?_⟩
 rintro m i g22 ⟨⟨i0,i1⟩,⟨m0,m1⟩,st,G,s,B⟩
 refine ⟨fun hlt=>?_,fun hge=>?_⟩
 ·refine ⟨fun m' hh=>(m'=m∨m'=m+1)∧∃ st,Gd h db x T [] hh st∧SA m'.toNat (i+1) st∧Bd (i.toNat+1) st,?_,?_⟩
  ·rintro m' hz ⟨hm,st',G',s',B'⟩
   have:(i+1).toNat=i.toNat+1:=by omega
   exact ⟨⟨by omega,by omega⟩,⟨⟨by omega,by omega⟩,⟨by omega,by omega⟩,st',G',s',by rw [this]; exact B'⟩,by dsimp only; omega⟩
  obtain ⟨v,hv⟩ : ∃ v,bs[i.toNat]? = some v:=⟨_,List.getElem?_eq_getElem (by omega)⟩
  obtain ⟨b,o,rfl,hc⟩:=(A.ext G.ex) i.toNat v hv
  have hv2:=hb v (List.mem_of_getElem? hv)
  have wv:IntKind.i64.wrap v=v:=wrap_i64 ⟨by omega,by omega⟩
  refine ⟨b,o,rfl,⟨i0,hlt⟩,v,by rw [Nat.mul_one]; exact hc,?_⟩
  rw [wv]
  refine (lsubmit G.L (silR i (v.tmod 4)) (by show (0:Int)≤30; omega)).mono ?_
  rintro _ hz ⟨rfl,Lz,Kz⟩
  have Gz:=G.step Lz Kz
  have e1:(m+1).toNat=m.toNat+1:=by omega
  refine ⟨_,rfl,fun q=>?_,fun q=>?_⟩
  ·rcases s.submit i0 (v.tmod 4) with ⟨_,s'⟩ | ⟨r,_⟩
   ·exact ⟨⟨by omega,by omega⟩,.inr rfl,_,Gz,by rw [e1]; exact s',bd_submit B _⟩
   ·exact absurd q r
  ·rcases s.submit i0 (v.tmod 4) with ⟨r,_⟩ | ⟨_,s'⟩
   ·exact absurd r q
   ·exact ⟨.inl rfl,_,Gz,s',bd_submit B _⟩
 have i2:i≤20:=by omega
 have B20:Bd 20 st:=B.mono (by omega)
 refine (lstart G.L B20 (by omega)).mono ?_
 rintro _ g41 ⟨a41,c41,rfl,-,L41,K41,-⟩
 have G41:Gd h db x T [] g41 (dStart st).2:=G.step (L41.sub fun y hy=>.inl hy) K41
 obtain ⟨sA,_⟩:=SA.startN 65 s i2
 have Bs:=bd_start B20
 have sA:SA m.toNat i (dStart st).2:=sA
 have htk0:st.taken=0∨True:=.inr trivial
 refine ⟨_,_,_,rfl,fun a n c k hh=>(0≤k∧k≤tk)∧∃ (st:Dv) (T':Nat→Prop) (nos:List Int),Gd h db x T' [] hh st∧SA m.toNat i st∧Sl hh 3 1 a n c (nos.map (Value.int .i64))∧n=nos.length∧(∀ y,blkOf a y→T' y∧h.size≤y)∧(∀ (j:Nat) (v:Int),nos[j]? = some v→∃ q:Nat,v=q∧q+nos.length=st.taken+j)∧(nos.length:Int)≤k∧nos.length≤st.taken∧Bd (21+k.toNat) st,fun _ _ _ k _=>(tk - k).toNat,
  ⟨⟨by omega,by omega⟩,_,T,[],G41,sA,Sl.nil _ _ _,rfl,fun y hy=>by (obtain ⟨_,_,q,_⟩:=hy; cases q),fun j v hv=>by simp at hv,by simp,by simp,Bs⟩,?_⟩
 rintro an nn cn k g49 ⟨⟨k0,k1⟩,s1,T1,nos,G1,sa,sl,rfl,bt,nv,nk,nt,B1⟩
 refine ⟨fun hk=>?_,fun hk=>?_⟩
 ·refine ⟨fun a n c hh=>∃ (st:Dv) (T':Nat→Prop) (nos:List Int),Gd h db x T' [] hh st∧SA m.toNat i st∧Sl hh 3 1 a n c (nos.map (Value.int .i64))∧n=nos.length∧(∀ y,blkOf a y→T' y∧h.size≤y)∧(∀ (j:Nat) (v:Int),nos[j]? = some v→∃ q:Nat,v=q∧q+nos.length=st.taken+j)∧(nos.length:Int)≤k+1∧nos.length≤st.taken∧Bd (21+(k+1).toNat) st,?_,?_⟩
  ·rintro a n c hz H
   exact ⟨⟨by omega,by omega⟩,⟨⟨by omega,by omega⟩,H⟩,by dsimp only; omega⟩
  have eB:21+(k+1).toNat=21+k.toNat+1:=by omega
  refine (ltake G1.L B1 (by omega)).mono ?_
  rintro _ g57 ⟨rfl,L57,K57⟩
  have G57:=G1.step L57 K57
  have sl57:=K57.sl sl fun y hy=>(bt y hy).1
  refine ⟨_,_,_,_,_,_,_,_,_,_,_,rfl,fun g62 e62=>?_⟩
  obtain ⟨g65,t1,t2,t3,t4⟩:=st_tmp (zs:=[_,_,_,_,_,_,_,_,_]) e62 (dscV (dTake s1).1.2.1) rfl (dscV_one _)
  have G65:=G57.ext t3
  refine ⟨g65,t1,fun he=>?_,fun hne=>?_⟩
  ·obtain ⟨d,hd⟩ : ∃ d,s1.RL[s1.taken]? = some d:=by
    cases hh:s1.RL[s1.taken]? with
    | none=>rw [take_n hh] at he; cases he
    | some d=>exact ⟨d,rfl⟩
   obtain ⟨v1,v2⟩:=take_v hd
   rw [v1]
   intro g67 e67
   obtain ⟨u1,u2,u3⟩:=push_get e67
   have G67:=G65.ext u2
   have sl67:=(sl57.ext t3).ext u2
   refine sl67.append (by simp) (by simp [Value.oneCell']) rfl (by omega) fun a' c' g76 s76 c76 f76=>?_
   have G76:=gd_app G67 c76 bt (fun p hp=>by cases hp)
   refine ⟨_,Nw T1 g67 g76,nos ++ [(s1.taken:Int)],G76,sa.take,by rw [List.map_append]; exact s76,by rw [List.length_append]; rfl,fun y hy=>?_,fun j v hv=>?_,by rw [List.length_append,List.length_singleton]; omega,by rw [List.length_append,List.length_singleton,v2]; omega,by rw [eB]; exact bd_take B1⟩
   ·rcases f76 y hy with q | q
    ·exact ⟨.inl (bt y q).1,(bt y q).2⟩
    ·exact ⟨.inr q,by have:=G67.ex.1; omega⟩
   ·rw [List.length_append,List.length_singleton,v2]
    by_cases hj:j<nos.length
    ·rw [List.getElem?_append_left hj] at hv
     obtain ⟨q,q1,q2⟩:=nv j v hv
     exact ⟨q,q1,by omega⟩
    ·rw [List.getElem?_append_right (by omega)] at hv
     have hj2:=(List.getElem?_eq_some_iff.1 hv).1
     simp only [List.length_singleton] at hj2
     have:j - nos.length=0:=by omega
     rw [this] at hv
     simp at hv
     exact ⟨s1.taken,hv.symm,by omega⟩
  ·have hn:s1.RL[s1.taken]? = none:=by
    cases hh:s1.RL[s1.taken]? with
    | none=>rfl
    | some d=>rw [(take_v hh).1] at hne; exact absurd rfl hne
   rw [take_n hn] at G65
   exact ⟨s1,T1,nos,G65,sa,sl57.ext t3,rfl,bt,nv,by omega,nt,by rw [eB]; exact B1.mono (by omega)⟩
 have BQ:Bd 26 s1:=B1.mono (by omega)
 refine (lgo G1.L BQ (by omega) (t:=25) (by decide)).mono ?_
 rintro _ g77 ⟨a77,c77,rfl,s77,L77,K77⟩
 obtain ⟨v,sc⟩:=sa.go
 have G77:Gd h db x T1 [] g77 (dGo s1 25).2:=G1.step (L77.sub fun y hy=>.inl hy) K77
 have e2:(dGo s1 25).1.2=s1.B.L.map byTime:=by rw [v]
 have e1:(dGo s1 25).1.1=0:=by rw [v]
 rw [e1,e2]
 rw [e2] at s77
 have hln:(s1.B.L.map byTime).length=m.toNat:=by rw [List.length_map,sa.len]
 have sl77:=K77.sl sl fun y hy=>(bt y hy).1
 have Bg:=bd_go BQ 25
 obtain ⟨s2,hs2⟩ : ∃ s2,s2=(dGo s1 25).2:=⟨_,rfl⟩
 rw [← hs2] at G77 sc Bg
 refine ⟨_,_,_,_,rfl,fun q=>?_,fun _=>⟨fun j hh=>hh=g77∧0≤j,fun j _=>((s1.B.L.map byTime).length - j).toNat,⟨rfl,by omega⟩,?_⟩⟩
 ·exfalso
  rw [hln] at q
  simp at q
  omega
 rintro j g87 ⟨rfl,j0⟩
 refine ⟨fun hj=>?_,fun _=>?_⟩
 ·obtain ⟨f,hf⟩ : ∃ f,(s1.B.L.map byTime)[j.toNat]? = some f:=⟨_,List.getElem?_eq_getElem (by omega)⟩
  obtain ⟨b,o,rfl,ld⟩:=flat_ld s77 hf
  have hf2:=hf
  rw [List.getElem?_map] at hf2
  obtain ⟨y,hy,rfl⟩:=Option.map_eq_some_iff.1 hf2
  obtain ⟨_,lc⟩:=ldc_get ld
  have c1:=lc 1 (by omega)
  have c2:=lc 2 (by omega)
  refine ⟨b,o,rfl,⟨j0,hj⟩,2,c1,fun _=>⟨j0,hj⟩,1,fun _=>c2,fun q=>by simp at q,fun _=>⟨⟨by omega,by rw [hln] at hj; omega⟩,⟨rfl,by omega⟩,by dsimp only; omega⟩⟩
 have hnt:s2.taken=s1.taken:=by rw [hs2]; exact (go_taken s1 25).1
 obtain ⟨N,hN⟩ : ∃ N,N=nos.length:=⟨_,rfl⟩
 have tq:=sc.tk
 refine ⟨fun j hh=>(0≤j∧j≤N)∧∃ st,Gd h db x T1 [] hh st∧SC s1.taken (s1.taken - N+j.toNat) st∧Sl hh 3 1 an nos.length cn (nos.map (Value.int .i64))∧Bd (27+2 * j.toNat) st,fun j _=>(N - j).toNat,⟨⟨by omega,by omega⟩,s2,G77,{ sc with dn:=fun j d _ h=>sc.dn j d (by omega) h },sl77,Bg⟩,?_⟩
 rintro j g105 ⟨⟨j0,j1⟩,s3,G3,sc3,sl3,B3⟩
 refine ⟨fun hj=>?_,fun hj=>?_⟩
 ·obtain ⟨v,hv⟩ : ∃ v,nos[j.toNat]? = some v:=⟨_,List.getElem?_eq_getElem (by omega)⟩
  obtain ⟨q,rfl,hq⟩:=nv _ v hv
  have eq:q=s1.taken - N+j.toNat:=by omega
  obtain ⟨b,o,rfl,hc⟩:=sl3.get (i:=j.toNat) (v:=.int .i64 (q:Int)) (by rw [List.getElem?_map,hv]; rfl)
  refine ⟨b,o,rfl,⟨j0,hj⟩,(q:Int),by rw [Nat.mul_one]; exact hc,fun g113 e113=>?_⟩
  obtain ⟨u1,u2,u3⟩:=push_get e113
  have G113:=G3.ext u2
  have f113:firstH g113 1 1 (.slice (some ⟨g105.size,0,none⟩) 1 1)=some ([9].map u8):=by
   simp [firstH,ldCells,cellH,u1]
  refine (lwrite G113.L (q:Int) 0 (bs:=[9]) rfl f113 (by omega)).mono ?_
  rw [← eq] at sc3
  have hqt:q<s1.taken:=by omega
  rw [sc3.write hqt [9]]
  rintro _ g115 ⟨rfl,L115,K115⟩
  have G115:=G113.step L115 K115
  have sl115:=K115.sl (sl3.ext u2) fun y hy=>(bt y hy).1
  obtain ⟨b',o',e',hc'⟩:=sl115.get (i:=j.toNat) (v:=.int .i64 (q:Int)) (by rw [List.getElem?_map,hv]; rfl)
  cases e'
  obtain ⟨r1,r2⟩:=sc3.finish hqt
  refine ⟨_,rfl,fun _=>⟨j0,hj⟩,(q:Int),fun _=>by rw [Nat.mul_one]; exact hc',fun cc hh=>cc=0∧Gd h db x T1 [] hh (dFinish s3 (q:Nat) 1 false).2∧Sl hh 3 1 (some ⟨b,o,none⟩) nos.length cn (nos.map (Value.int .i64)),?_,fun _=>?_,fun q=>absurd rfl q⟩
  ·rintro cc hz ⟨rfl,Gz,slz⟩
   have e4:s1.taken - N+(j+1).toNat=q+1:=by omega
   have e5:27+2 * (j+1).toNat=27+2 * j.toNat+1+1:=by omega
   exact ⟨fun q=>by simp at q,fun _=>⟨⟨by omega,by omega⟩,⟨⟨by omega,by omega⟩,_,Gz,by rw [e4]; exact r2,slz,by rw [e5]; exact (bd_finish B3 _ _ _).mono (by omega)⟩,by dsimp only; omega⟩⟩
  ·refine (lfinish G115.L (q:Int) 1 false).mono ?_
   rintro _ hz ⟨rfl,Lz,Kz⟩
   exact ⟨_,rfl,r1,G115.step Lz Kz,Kz.sl sl115 fun y hy=>(bt y hy).1⟩
 have B4:Bd 40 s3:=B3.mono (by omega)
 refine ⟨fun j hh=>(0≤j∧j≤4)∧∃ st,Gd h db x T1 [] hh st∧SE j.toNat st∧Bd (40+j.toNat) st,fun j _=>(4 - j).toNat,⟨⟨by omega,by omega⟩,s3,G3,sc3.se,B4⟩,?_⟩
 rintro j g132 ⟨⟨j0,j1⟩,s5,G5,se,B5⟩
 have ej:((j.toNat:Nat):Int)=j:=by omega
 refine ⟨fun hj=>?_,fun hj=>?_⟩
 ·intro g134 e134
  obtain ⟨g137,t1,t2,t3,t4⟩:=st_tmp (zs:=[_,_]) e134 [.int .i64 j,.int .u64 1] rfl (by simp [Value.oneCell'])
  have G137:=G5.ext t3
  have l0 : ∀ {hz:Heap},Ext g137 hz→ldCells hz g132.size 0 2=some [.int .i64 j,.int .u64 1]:=fun q=>ld_lst (q.get t2) 2 0 (by simp)
  refine ⟨g137,t1,_,_,l0 (Ext.refl _),?_⟩
  obtain ⟨bb,b1,b2,b3,_⟩:=se.pz j.toNat (by omega)
  rw [ej] at b1
  have hr:pRead s5.P j 1 0 1=(0,[0]):=by
   unfold pRead
   rw [b1]
   dsimp only
   rw [if_neg (by omega)]
   cases hbb:bb.b with
   | nil=>rw [hbb] at b2; cases b2
   | cons y r=>
    rw [hbb] at b2
    simp at b2
    rw [b2]; rfl
  refine (lread G137.L j 1 0 1 (by omega)).mono ?_
  rw [hr]
  rintro _ g140 ⟨a140,c140,rfl,x140,s140,-⟩
  have G140:=G137.ext x140
  refine ⟨_,_,_,_,rfl,_,_,l0 x140,(lowner G140.L j 1).mono ?_⟩
  rintro _ g146 ⟨rfl,x146⟩
  have G146:=G140.ext x146
  obtain ⟨b,o,rfl,hc⟩:=(s140.ext x146).get (i:=0) (v:=u8 0) rfl
  obtain ⟨ob,ob1,ob2⟩:=se.own j.toNat (Nat.le_refl _) (by omega)
  rw [ej] at ob1
  have ho:(pOwner s5.P j 1).1=1:=by unfold pOwner; rw [ob1]; exact ob2
  obtain ⟨r1,r2⟩:=se.submit (by omega)
  rw [ej] at r1 r2
  have w5:IntKind.i64.wrap (50+j)=50+j:=wrap_i64 ⟨by omega,by omega⟩
  rw [ho,w5]
  refine ⟨_,_,_,rfl,b,o,fun _=>rfl,fun _=>⟨by omega,by simp⟩,0,fun _=>hc,_,_,fun _=>l0 (x140.trans x146),fun cc hh=>cc=0∧Gd h db x T1 [] hh (dSubmit s5 (sil2 j)).2,?_,fun _=>?_,fun q=>by simp at q⟩
  ·rintro cc hz ⟨rfl,Gz⟩
   have e4:(j+1).toNat=j.toNat+1:=by omega
   exact ⟨fun q=>by simp at q,fun _=>⟨⟨by omega,by omega⟩,⟨⟨by omega,by omega⟩,_,Gz,by rw [e4]; exact r2,by rw [e4]; exact bd_submit B5 _⟩,by dsimp only; omega⟩⟩
  ·refine (lsubmit G146.L (sil2 j) (by show (0:Int)≤60; omega)).mono ?_
   rintro _ hz ⟨rfl,Lz,Kz⟩
   exact ⟨_,rfl,r1,G146.step Lz Kz⟩
 have e4:j.toNat=4:=by omega
 rw [e4] at se B5
 refine ⟨fun j hh=>(0≤j∧j≤N)∧∃ st,Gd h db x T1 [] hh st∧SE 4 st∧Bd (44+j.toNat) st,fun j _=>(N - j).toNat,⟨⟨by omega,by omega⟩,s5,G5,se,B5⟩,?_⟩
 rintro j g172 ⟨⟨j0,j1⟩,s6,G6,se6,B6⟩
 refine ⟨fun hj=>?_,fun hj=>?_⟩
 ·refine (lreap G6.L B6 (by omega)).mono ?_
  rintro _ g174 ⟨rfl,L174,K174⟩
  have e5:44+(j+1).toNat=44+j.toNat+1:=by omega
  exact ⟨_,_,rfl,⟨by omega,by omega⟩,⟨⟨by omega,by omega⟩,_,G6.step L174 K174,se6.reap,by rw [e5]; exact bd_reap B6⟩,by dsimp only; omega⟩
 refine (lgo G6.L B6 (by omega) (t:=26) (by decide)).mono ?_
 rintro _ g179 ⟨a179,c179,rfl,-,L179,K179⟩
 have G179:Gd h db x T1 [] g179 (dGo s6 26).2:=G6.step (L179.sub fun y hy=>.inl hy) K179
 rw [se6.go]
 exact ⟨_,_,_,_,rfl,rfl,G179.ex⟩
theorem silent_spec' {h:Heap} {p0 p2:Int} {a:Option Addr} {n c:Nat} {bs:List Int} (h0:0≤p0∧p0<256) (A:ArgI h .u8 a bs) (hnl:n=bs.length) (_ : ∀ A,a=some A→A.spot=none) (hn:n≤9223372036854775807) (hb : ∀ x∈bs,(Lit.int .u8 x).wf=true) (h2:0≤p2∧p2<256) :
  CallsH PR fn_linchpinlaw20_IoqSilent #[.int .u8 p0,.slice a n c,.int .u8 p2] h (fun v h'=>v = .bool true∧Ext h h'):=
 silent_spec h0 h2 A hnl hn fun x hx=>by
  have:=hb x hx
  simp [Lit.wf,IntKind.bits,IntKind.signed,IntKind.min,IntKind.max] at this
  omega
end Go.Proofs.Vf
