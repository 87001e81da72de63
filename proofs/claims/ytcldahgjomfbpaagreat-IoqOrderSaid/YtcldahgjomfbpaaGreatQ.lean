/- Contracts of functions of the program over the heap, and laws that follow from them. Conditions: as stated at each. -/
import Derived.Test.YtcldahgjomfbpaaGreatE
import Derived.Test.YtcldahgjomfbpaaGreatFLaw
namespace Go.Proofs.Vf
open Go Go.Proofs Go.VC
def aw0:Dv:=dNew gotL 2 5
def awr7:Rq:=⟨7,0,100,0,⟨0,1,2,4⟩⟩
def awr8:Rq:=⟨8,0,100,0,⟨0,1,2,4⟩⟩
def aw1:Dv:=(dSubmit aw0 awr7).2
def aw2:Dv:=(dSubmit aw1 awr8).2
def aw3:Dv:=(dStart aw2).2
def aw4:Dv:=(dTake aw3).2
def aw5:Dv:=(dWrite aw4 0 1 [97,98]).2
def aw6:Dv:=(dFinish aw5 0 9 false).2
def aw7:Dv:=(dReap aw6).2
def aw8:Dv:=(dGo aw7 1).2
theorem av1:(dSubmit aw0 awr7).1=0:=by decide +kernel
theorem av2:(dSubmit aw1 awr8).1=8:=by decide +kernel
theorem av3:(dStart aw2).1 = [7]:=by decide +kernel
theorem av4:(dTake aw3).1.1=0∧(dTake aw3).1.2.2=0:=by decide +kernel
theorem av5:(dWrite aw4 0 1 [97,98]).1=0:=by decide +kernel
theorem av7:(dReap aw6).1.1=7∧(dReap aw6).1.2=0:=by decide +kernel
theorem av8:(dGo aw7 1).1.1=0∧(dGo aw7 1).1.2 = [⟨7,1,9⟩]:=by decide +kernel
theorem av9:pRead aw8.P 0 1 3 2=(0,[97,98]):=by decide +kernel
theorem ab2:Bd 1 aw2:=⟨by decide +kernel,by decide +kernel⟩
theorem ab3:Bd 1 aw3:=⟨by decide +kernel,by decide +kernel⟩
theorem ab6:Bd 1 aw6:=⟨by decide +kernel,by decide +kernel⟩
theorem ab7:Bd 1 aw7:=⟨by decide +kernel,by decide +kernel⟩
theorem _root_.Go.VC.Ext.kp {h0 h1 h2:Heap} {T:Nat→Prop} (x:Ext h0 h1) (k:Kp T h1 h2) (hT : ∀ y,y<h0.size→T y):Ext h0 h2:=Kp.ext x k hT
theorem awake_spec (h:Heap):CallsH PR fn_linchpinlaw20_awake #[] h (fun v h'=>v = .bool true∧Ext h h'):=by
 apply F_linchpinlaw20_awake_ok
 unfold F_linchpinlaw20_awake
 refine (got_spec h).mono ?_
 rintro _ h1 ⟨pb,rfl,x1,P1⟩
 refine ⟨_,rfl,fun q=>(by cases q),fun _=>?_⟩
 refine (lnew P1 x1 (fun y hy=>hy.1) gotL_own (n:=2) (cost:=5) (by omega) (by omega)).mono ?_
 rintro _ h5 ⟨db,x,rfl,x5,rfl,L5⟩
 refine ⟨_,_,rfl,fun q=>(by simp at q),fun _ h11 e11=>?_⟩
 have xx:=x1.trans x5
 obtain ⟨h14,s1,s2,s3,s4⟩:=st_tmp (zs:=[_,_]) e11 [.int .i64 0,.int .u64 1] rfl (by simp [Value.oneCell'])
 obtain ⟨L14,K14⟩:=L5.ext s3
 obtain ⟨T,hT⟩ : ∃ T:Nat→Prop,T=fun y=>y<h.size∨y=h5.size:=⟨_,rfl⟩
 replace L14:Lw db x T h14 aw0:=L14.sub fun y hy=>by
  rw [hT] at hy
  rcases hy with hy | hy
  ·exact .inl hy
  ·exact .inr ⟨by omega,by omega⟩
 have cH:T h5.size:=by rw [hT]; exact .inr rfl
 have old : ∀ y,y<h.size→T y:=fun y hy=>by rw [hT]; exact .inl hy
 have l0 : ∀ {hz:Heap},hz[h5.size]? = some (.cells (List.toArray [.int .i64 0,.int .u64 1]) 39 (0,0))→ldCells hz h5.size 0 2=some [.int .i64 0,.int .u64 1]:=fun q=>ld_lst q 2 0 (by simp)
 refine ⟨h14,s1,_,_,l0 s2,?_⟩
 refine (lsubmit L14 awr7 (by decide)).mono ?_
 rintro _ h17 ⟨rfl,(L17:Lw db x T h17 aw1),K17⟩
 have c17:=K17.get s2 cH
 refine ⟨_,rfl,_,_,l0 c17,?_⟩
 refine (lsubmit L17 awr8 (by decide)).mono ?_
 rintro _ h22 ⟨rfl,(L22:Lw db x T h22 aw2),K22⟩
 refine ⟨_,rfl,?_⟩
 refine (lstart L22 ab2 (by omega)).mono ?_
 rintro _ h25 ⟨a,c,rfl,-,L25,K25,-⟩
 replace L25:Lw db x T h25 aw3:=L25.sub fun y hy=>.inl hy
 refine ⟨_,_,_,rfl,?_⟩
 refine (ltake L25 ab3 (by omega)).mono ?_
 rintro _ h28 ⟨rfl,(L28:Lw db x T h28 aw4),K28⟩
 refine ⟨_,_,_,_,_,_,_,_,_,_,_,rfl,fun h33 e33=>?_⟩
 obtain ⟨h36,t1,t2,t3,t4⟩:=st_tmp (zs:=[_,_,_,_,_,_,_,_,_]) e33 (dscV (dTake aw3).1.2.1) rfl (dscV_one _)
 obtain ⟨L36,K36⟩:=L28.ext t3
 replace L36:Lw db x T h36 aw4:=L36.sub fun y hy=>.inl hy
 refine ⟨h36,t1,fun h37 e37=>?_⟩
 obtain ⟨u1,u2,u3⟩:=push_get e37
 obtain ⟨L37,K37⟩:=L36.ext u2
 refine ⟨⟨_,_,_,u1⟩,fun h39 m39=>?_⟩
 obtain ⟨m1,m2,m3⟩:=m39
 obtain ⟨z,hz⟩:=m3 _ _ _ u1
 have L39:=L37.tmp (t:=h36.size) (.inr ⟨Nat.le_refl _,by omega⟩) m2 m1
 replace L39:Lw db x T h39 aw4:=L39.sub fun y hy=>.inl hy
 have K39:Kp T h36 h39:=⟨by omega,fun y hy=>by rw [m2 y (fun q=>by have:=L36.lt hy; omega),K37.2 y hy]⟩
 have f39:firstH h39 1 2 (.slice (some ⟨h36.size,0,none⟩) 2 2)=some ([97,98].map u8):=by
  simp [firstH,ldCells,cellH,hz]
 have e4:(dTake aw3).1.1=0:=av4.1
 rw [e4]
 refine (lwrite L39 0 1 (bs:=[97,98]) rfl f39 (by omega)).mono ?_
 rintro _ h42 ⟨rfl,(L42:Lw db x T h42 aw5),K42⟩
 refine ⟨_,rfl,?_⟩
 refine (lfinish L42 0 9 false).mono ?_
 rintro _ h45 ⟨rfl,(L45:Lw db x T h45 aw6),K45⟩
 refine ⟨_,rfl,?_⟩
 refine (lreap L45 ab6 (by omega)).mono ?_
 rintro _ h48 ⟨rfl,(L48:Lw db x T h48 aw7),K48⟩
 refine ⟨_,_,rfl,?_⟩
 refine (lgo L48 ab7 (by omega) (t:=1) (by decide)).mono ?_
 rintro _ h52 ⟨a52,c52,rfl,s52,L52,K52⟩
 have KK:Kp T h17 h52:=(((((((K22.trans K25 fun _ q=>q).trans K28 fun _ q=>q).trans K36 fun _ q=>q).trans K39 fun _ q=>q).trans K42 fun _ q=>q).trans K45 fun _ q=>q).trans K48 fun _ q=>q).trans K52 fun _ q=>q
 have c52':=KK.get c17 cH
 refine ⟨_,_,_,_,rfl,_,_,l0 c52',?_⟩
 refine (lread L52 0 1 3 2 (by omega)).mono ?_
 rintro _ h59 ⟨a59,c59,rfl,x59,s59,-⟩
 obtain ⟨v1,v2⟩:=av8
 have v2':(dGo aw7 1).1.2 = [⟨7,1,9⟩]:=v2
 obtain ⟨b,o,rfl,ld⟩:=flat_ld (s52.ext x59) (i:=0) (f:=⟨7,1,9⟩) (by rw [v2]; rfl)
 rw [Nat.zero_mul,Nat.add_zero] at ld
 have w9:pRead (dGo aw7 1).2.P 0 1 3 2=(0,[97,98]):=av9
 rw [w9] at s59 ⊢
 refine ⟨_,_,_,_,rfl,b,o,fun _=>rfl,fun _=>?_,7,1,9,fun _=>ld,[97,98],fun _=>s59.first,?_,?_⟩
 ·rw [v2]; decide
 ·have w1:(dSubmit aw0 awr7).1=0:=av1
  have w2:(dSubmit aw1 awr8).1=8:=av2
  have w3:(dStart aw2).1 = [7]:=av3
  have w5:(dWrite aw4 0 1 [97,98]).1=0:=av5
  rw [w1,w2,w3,av4.2,w5,av7.1,av7.2,v2]
  rfl
 ·have e17:Ext h h14:=(x1.trans x5).trans s3
  exact ((e17.kp K17 old).kp KK old).trans x59
end Go.Proofs.Vf
namespace Go.Proofs.Vf
open Go Go.Proofs Go.VC
def ArgI (h:Heap) (k:IntKind) (a:Option Addr) (xs:List Int):Prop:=∀ i x,xs[i]? = some x→∃ b o,a=some ⟨b,o,none⟩∧cellH h b (o+i)=some (.int k x)
theorem ArgI.ext {h h':Heap} {k:IntKind} {a:Option Addr} {xs:List Int} (A:ArgI h k a xs) (x:Ext h h'):ArgI h' k a xs:=fun i v hv=>by
 obtain ⟨b,o,h1,h2⟩:=A i v hv
 exact ⟨b,o,h1,x.cell h2⟩
theorem ArgI.first {h:Heap} {a:Option Addr} {bs:List Int} (A:ArgI h .u8 a bs) {n c:Nat} (hn:n=bs.length) (ha : ∀ A,a=some A→A.spot=none):firstH h 1 n (.slice a n c)=some (bs.map u8):=by
 cases a with
 | none=>
  have:bs = []:=by
   cases bs with
   | nil=>rfl
   | cons x bs=>obtain ⟨b,o,q,_⟩:=A 0 x rfl; cases q
  subst this; rfl
 | some A'=>
  obtain ⟨b,o,s⟩:=A'
  have hs:=ha _ rfl
  simp only at hs
  subst hs
  have:=ldc_of (h:=h) (b:=b) (vs:=bs.map u8) (o:=o) fun i v hv=>by
   rw [List.getElem?_map] at hv
   obtain ⟨x,hx,rfl⟩:=Option.map_eq_some_iff.1 hv
   obtain ⟨b',o',q,hc⟩:=A i x hx
   cases q
   exact hc
  rw [List.length_map] at this
  show ldCells h b o (n * 1)=_
  rw [Nat.mul_one,hn]; exact this
section
variable {n:Nat} {st:Dv}
theorem bd_of {s:Dv} (b:Bd n st) (h1:s.B.F.length≤st.B.F.length+1) (h2:s.RL.length≤st.RL.length+65):Bd (n+1) s:=⟨by have:=b.1; omega,by have:=b.2; omega⟩
theorem stOpen_F (s:St) (id d:Int):(stOpen s id d).2.F=s.F:=by
 unfold stOpen
 repeat (first | rfl | split)
theorem stOut_F (s:St) (id k w:Int):(stOut s id k w).2.F.length≤s.F.length+1:=by
 unfold stOut; split
 ·simp
 ·dsimp only; omega
theorem stAnswer_F (s:St) (id t:Int) (bad:Bool):(stAnswer s id t bad).2.F.length≤s.F.length+1:=by
 unfold stAnswer
 split
 ·dsimp only; omega
 split <;> exact stOut_F _ _ _ _
theorem bd_submit (b:Bd n st) (r:Rq):Bd (n+1) (dSubmit st r).2:=by
 refine bd_of b ?_ (by rw [submit_RLe]; omega)
 have:(dSubmit st r).2.B.F=st.B.F:=by
  have:=stOpen_F st.B r.id r.dead
  unfold dSubmit
  repeat (first | rfl | exact this | split)
 rw [this]; omega
theorem bd_take (b:Bd n st):Bd (n+1) (dTake st).2:=by
 refine bd_of b ?_ (by rw [take_RLe]; omega)
 have:(dTake st).2.B=st.B:=by
  unfold dTake
  cases st.RL[st.taken]? with
  | none=>rfl
  | some d=>
   dsimp only
   cases st.I (st.taken:Nat) with
   | none=>rfl
   | some e=>dsimp only; split <;> rfl
 rw [this]; omega
theorem bd_finish (b:Bd n st) (no s:Int) (bad:Bool):Bd (n+1) (dFinish st no s bad).2:=by
 rcases dFinish_cases st no s bad with ⟨c,_,e⟩ | ⟨d,_,_,_,_,_,e⟩
 ·rw [e]; exact b.mono (by omega)
 ·rw [e]
  exact bd_of b (by dsimp only; omega) (by dsimp only; rw [List.length_set]; omega)
theorem bd_reap (b:Bd n st):Bd (n+1) (dReap st).2:=by
 refine bd_of b ?_ (by rw [reap_RLe]; omega)
 unfold dReap
 cases st.RL[st.reaped]? with
 | none=>dsimp only; omega
 | some d=>
  dsimp only
  split
  ·dsimp only; omega
  dsimp only
  cases st.I (st.reaped:Nat) with
  | none=>dsimp only; omega
  | some e=>
   dsimp only
   split
   ·dsimp only; omega
   ·dsimp only
    rw [(dLeave_fields _ _).1]
    exact stAnswer_F _ _ _ _
theorem startN_len : ∀ (k:Nat) (s:Dv),(dStartN k s).2.RL.length≤s.RL.length+k∧(dStartN k s).2.B=s.B
 | 0,s=>⟨Nat.le_refl _,rfl⟩
 | k+1,s=>by
  unfold dStartN
  cases h:dStart1 s with
  | none=>exact ⟨by dsimp only; omega,rfl⟩
  | some p=>
   obtain ⟨id,s'⟩:=p
   obtain ⟨h1,h2⟩:=startN_len k s'
   have h3:=(dStart1_len h).1
   refine ⟨by dsimp only; omega,?_⟩
   dsimp only
   rw [h2]
   unfold dStart1 at h
   split at h
   ·cases h
   split at h
   ·cases h
   simp only at h
   split at h
   ·cases h
   ·simp only [Option.some.injEq,Prod.mk.injEq] at h
    rw [← h.2]
theorem bd_start (b:Bd n st):Bd (n+1) (dStart st).2:=by
 obtain ⟨h1,h2⟩:=startN_len 65 st
 exact bd_of b (by unfold dStart; rw [h2]; omega) h1
theorem bd_new {L:List Buf} {size:Nat} {cost:Int} : Bd 0 (dNew L size cost):=⟨Nat.le_refl _,Nat.le_refl _⟩
end
structure Gd (h0:Heap) (db:Nat) (x:DX) (T:Nat→Prop) (tm:List (Nat × Obj)) (h:Heap) (st:Dv):Prop where
 L:Lw db x T h st
 ex:Ext h0 h
 tm : ∀ p∈tm,h[p.1]? = some p.2∧T p.1
 old : ∀ y,y<h0.size→T y
section
variable {h0 h h':Heap} {db:Nat} {x:DX} {T:Nat→Prop} {tm:List (Nat × Obj)} {st st':Dv}
theorem Gd.step (g:Gd h0 db x T tm h st) (L:Lw db x T h' st') (k:Kp T h h'):Gd h0 db x T tm h' st':=
 ⟨L,Kp.ext g.ex k g.old,fun p hp=>⟨k.get (g.tm p hp).1 (g.tm p hp).2,(g.tm p hp).2⟩,g.old⟩
theorem Gd.ext (g:Gd h0 db x T tm h st) (e:Ext h h'):Gd h0 db x T tm h' st:=by
 obtain ⟨L,K⟩:=g.L.ext e
 exact g.step (L.sub fun y hy=>.inl hy) K
theorem Gd.get (g:Gd h0 db x T tm h st) {b:Nat} {o:Obj} (hp:(b,o)∈tm):h[b]? = some o:=(g.tm _ hp).1
theorem Gd.to (g:Gd h0 db x T tm h st) (e:st=st'):Gd h0 db x T tm h st':=e ▸ g
theorem gd_new {h1 h2:Heap} (x0:Ext h0 h1) (L:Lw db x (fun y=>y<h1.size) h2 st) (x2:Ext h1 h2) (e:Ext h2 h) (ht : ∀ p∈tm,h[p.1]? = some p.2∧h2.size≤p.1) :
  Gd h0 db x (fun y=>y<h0.size∨∃ p∈tm,p.1=y) tm h st:=by
 obtain ⟨L',K⟩:=L.ext e
 refine ⟨L'.sub fun y hy=>?_,(x0.trans x2).trans e,fun p hp=>⟨(ht p hp).1,.inr ⟨p,hp,rfl⟩⟩,fun y hy=>.inl hy⟩
 rcases hy with hy | ⟨p,hp,rfl⟩
 ·exact .inl (by have:=x0.1; omega)
 ·exact .inr ⟨(ht p hp).2,lt_of_get (ht p hp).1⟩
end
end Go.Proofs.Vf
namespace Go.Proofs.Vf
open Go Go.Proofs Go.VC
section
variable {st:Dv}
theorem qNext_grp {Q:List Wnt} {hd:Int} {dn:Bool} (ht : ∀ w∈Q,0≤w.track) (h0:(qNext Q hd dn).2.2=0):(qNext Q hd dn).1∈grp Q:=by
 unfold qNext at *
 split at h0
 ·cases h0
 rename_i hne
 rw [if_neg hne]
 have hb:0≤(blw hd (grp Q)).track→blw hd (grp Q)∈grp Q:=fun hp=>by
  rcases blw_mem hd (grp Q) ⟨0,0,-1⟩ with q | q
  ·unfold blw at hp; rw [q] at hp; exact absurd hp (by decide)
  ·exact q
 cases ha:abv hd (grp Q) with
 | none=>
  dsimp only
  apply hb
  obtain ⟨a,Q',rfl⟩ : ∃ a Q',Q=a :: Q':=by
   cases Q with
   | nil=>exact absurd rfl hne
   | cons a Q'=>exact ⟨a,Q',rfl⟩
  have ga : ∃ G,grp (a :: Q')=a :: G:=by
   refine ⟨Q'.takeWhile fun x=>decide (x.dead=a.dead),?_⟩
   show (a :: Q').takeWhile (fun x=>decide (x.dead=a.dead))=_
   rw [List.takeWhile_cons,if_pos (by simp)]
  obtain ⟨G,hG⟩:=ga
  rw [hG] at ha ⊢
  unfold abv at ha
  rw [List.find?_eq_none] at ha
  have hlt:=ha a (by simp)
  simp only [decide_eq_true_eq] at hlt
  have h0a:=ht a (by simp)
  unfold blw
  rw [List.foldl_cons,if_pos ⟨by omega,by dsimp only; omega⟩]
  exact Int.le_trans h0a (blw_ge hd G a)
 | some u=>
  dsimp only
  split
  ·rename_i hc
   simp only [Bool.and_eq_true,decide_eq_true_eq] at hc
   exact hb hc.2
  ·exact List.mem_of_find?_eq_some ha
theorem qNext_code {Q:List Wnt} {hd:Int} {dn:Bool} (h:Q≠[]):(qNext Q hd dn).2.2=0:=by
 unfold qNext
 rw [if_neg h]
 cases abv hd (grp Q) with
 | none=>rfl
 | some u=>dsimp only; split <;> rfl
theorem qNext_le {Q:List Wnt} {hd:Int} {dn:Bool} (hs:srtW Q) (ht : ∀ w∈Q,0≤w.track) (h0:(qNext Q hd dn).2.2=0) : ∀ w∈Q,(qNext Q hd dn).1.dead≤w.dead:=by
 have hg:=qNext_grp ht h0
 cases Q with
 | nil=>intro w hw; cases hw
 | cons a Q=>
  have hd':(qNext (a :: Q) hd dn).1.dead=a.dead:=by
   have h2:(qNext (a :: Q) hd dn).1∈(a :: Q).takeWhile (fun x=>decide (x.dead=a.dead)):=hg
   have:=List.all_takeWhile (p:=fun x:Wnt=>decide (x.dead=a.dead)) (l:=a :: Q)
   rw [List.all_eq_true] at this
   have:=this _ h2
   simpa using this
  intro w hw
  rw [hd']
  rcases List.mem_cons.1 hw with rfl | hw
  ·exact Int.le_refl _
  ·have:=(List.pairwise_cons.1 hs).1 w hw
   rw [lessW_iff] at this
   omega
theorem qDrop_len : ∀ {Q:List Wnt} {w:Wnt},w∈Q→(qDrop Q w.id).2.length+1=Q.length:=by
 intro Q w hw
 unfold qDrop
 cases hf:Q.findIdx? (fun x=>decide (x.id=w.id)) with
 | none=>
  rw [List.findIdx?_eq_none_iff] at hf
  have:=hf w hw
  simp at this
 | some i=>
  obtain ⟨hi,_⟩:=List.findIdx?_eq_some_iff_getElem.1 hf
  simp only [List.length_append,List.length_take,List.length_drop]
  omega
theorem qDrop_none {Q:List Wnt} {id:Int} (h : ∀ w∈Q,w.id≠id):(qDrop Q id).2=Q:=by
 unfold qDrop
 cases hf:Q.findIdx? (fun x=>decide (x.id=id)) with
 | none=>rfl
 | some i=>
  obtain ⟨hi,hp,_⟩:=List.findIdx?_eq_some_iff_getElem.1 hf
  exact absurd (by simpa using hp) (h _ (List.getElem_mem hi))
def dscOf (a:Opn) (id:Int):Dsc:=⟨a.r.op,id,a.r.pc.slot,a.r.pc.gen,a.r.pc.fr,a.r.pc.len,true,false,0⟩
theorem start1_some {id:Int} {s':Dv} (h:dStart1 st=some (id,s')) : ∃ a,(qNext st.Q st.hd st.dn).2.2=0∧id=(qNext st.Q st.hd st.dn).1.id∧st.O id=some a∧st.RL.length - st.reaped≠st.size∧s'.Q=(qDrop st.Q id).2∧s'.RL=st.RL ++ [dscOf a id] ∧
  s'.taken=st.taken∧s'.reaped=st.reaped∧s'.size=st.size∧s'.B=st.B∧s'.P=st.P∧s'.O=updF st.O id (some { a with no:=(st.RL.length:Int) }):=by
 unfold dStart1 at h
 split at h
 ·cases h
 rename_i hq0
 have hq0:(qNext st.Q st.hd st.dn).2.2=0:=by omega
 split at h
 ·cases h
 rename_i a ha
 simp only at h
 split at h
 ·cases h
 rename_i hr
 simp only [Option.some.injEq,Prod.mk.injEq] at h
 obtain ⟨rfl,rfl⟩:=h
 have eT:(qTake st.Q st.hd st.dn).2.1=(qDrop st.Q (qNext st.Q st.hd st.dn).1.id).2:=by unfold qTake; rw [if_neg (by omega)]
 have eR:rPut st.size st.RL st.reaped ⟨a.r.op,(qNext st.Q st.hd st.dn).1.id,a.r.pc.slot,a.r.pc.gen,a.r.pc.fr,a.r.pc.len,false,false,0⟩=(((st.RL.length:Int),(0:Int)),st.RL ++ [dscOf a (qNext st.Q st.hd st.dn).1.id])∧st.RL.length - st.reaped≠st.size:=by
  unfold rPut at hr ⊢
  dsimp only at hr ⊢
  split
  ·rename_i q; rw [if_pos q] at hr; exact absurd (by decide:(1:Int)≠0) hr
  ·rename_i q
   rw [if_neg q] at hr
   split
   ·rename_i q; rw [if_pos q] at hr; exact absurd (by decide:(4:Int)≠0) hr
   ·exact ⟨rfl,by assumption⟩
 refine ⟨a,hq0,rfl,ha,eR.2,eT,?_,rfl,rfl,rfl,rfl,rfl,?_⟩
 ·dsimp only; rw [eR.1]
 ·dsimp only; rw [eR.1]
theorem start1_none (k:DvOk st) (hd : ∀ id a,st.O id=some a→mayD (dscOf a id)=true) (h:dStart1 st=none):st.Q = []∨st.RL.length - st.reaped=st.size:=by
 by_cases hQ:st.Q = []
 ·exact .inl hQ
 right
 have h0:=qNext_code (hd:=st.hd) (dn:=st.dn) hQ
 obtain ⟨a,ha,_⟩:=k.qO _ (qNext_mem k.trk h0)
 unfold dStart1 at h
 rw [if_neg (by omega),ha] at h
 simp only at h
 split at h
 ·rename_i hr
  unfold rPut at hr
  dsimp only at hr
  have hm:=hd _ a ha
  unfold dscOf at hm
  rw [hm] at hr
  rw [if_neg (by decide)] at hr
  split at hr
  ·assumption
  ·exact absurd rfl hr
 ·cases h
end
section
variable {st:Dv}
theorem take_O (st:Dv) {id:Int} {y:Opn} (h:(dTake st).2.O id=some y) : ∃ x,st.O id=some x∧y.r=x.r:=by
 unfold dTake at h
 split at h
 ·exact ⟨y,h,rfl⟩
 rename_i d hd
 dsimp only at h
 split at h
 ·exact ⟨y,h,rfl⟩
 rename_i e he
 split at h
 ·exact ⟨y,h,rfl⟩
 ·dsimp only at h
  unfold updF at h
  split at h
  ·rename_i q
   obtain ⟨x,hx,rfl⟩:=Option.map_eq_some_iff.1 h
   exact ⟨x,by rw [q]; exact hx,rfl⟩
  ·exact ⟨y,h,rfl⟩
theorem take_f (st:Dv):(dTake st).2.Q=st.Q∧(dTake st).2.reaped=st.reaped∧(dTake st).2.size=st.size∧(dTake st).2.B=st.B:=by
 unfold dTake
 cases st.RL[st.taken]? with
 | none=>exact ⟨rfl,rfl,rfl,rfl⟩
 | some d=>
  dsimp only
  cases st.I (st.taken:Nat) with
  | none=>exact ⟨rfl,rfl,rfl,rfl⟩
  | some e=>dsimp only; split <;> exact ⟨rfl,rfl,rfl,rfl⟩
theorem take_v {d:Dsc} (h:st.RL[st.taken]? = some d):(dTake st).1=(((st.taken:Nat):Int),d,(0:Int))∧(dTake st).2.taken=st.taken+1:=by
 unfold dTake
 rw [h]
 dsimp only
 cases st.I (st.taken:Nat) with
 | none=>exact ⟨rfl,rfl⟩
 | some e=>dsimp only; split <;> exact ⟨rfl,rfl⟩
theorem take_n (h:st.RL[st.taken]? = none):dTake st=((0,d0,5),st):=by unfold dTake; rw [h]
theorem leave_O (st:Dv) (id:Int) {j:Int} {y:Opn} (h:(dLeave st id).O j=some y):st.O j=some y:=by
 unfold dLeave at h
 split at h
 ·exact h
 ·dsimp only at h
  unfold updF at h
  split at h
  ·cases h
  ·exact h
theorem reap_O (st:Dv) {id:Int} {y:Opn} (h:(dReap st).2.O id=some y):st.O id=some y:=by
 unfold dReap at h
 split at h
 ·exact h
 split at h
 ·exact h
 dsimp only at h
 split at h
 ·exact h
 split at h
 ·exact h
 ·dsimp only at h; have q:=leave_O _ _ h; exact q
theorem reap_v (k:DvOk st) {d:Dsc} (h:st.RL[st.reaped]? = some d) (hdn:d.done=true):(dReap st).1=(d.req,0)∧(dReap st).2.Q=st.Q∧(dReap st).2.taken=st.taken∧(dReap st).2.reaped=st.reaped+1∧(dReap st).2.size=st.size:=by
 have hl:=(List.getElem?_eq_some_iff.1 h).1
 obtain ⟨e,he⟩:=Option.isSome_iff_exists.1 ((k.iR (st.reaped:Nat)).2 ⟨_,rfl,Nat.le_refl _,hl⟩)
 obtain ⟨d2,_,_,_,_,g5⟩:=k.iE _ e he
 unfold dReap
 rw [h]
 dsimp only
 rw [if_neg (by rw [hdn]; decide),he]
 dsimp only
 cases hv:e.void with
 | true=>exact ⟨rfl,rfl,rfl,rfl,rfl⟩
 | false=>
  rw [if_neg (by decide)]
  dsimp only
  have f:=dLeave_fields { st with reaped:=st.reaped+1,B:=(stAnswer st.B e.id d.st e.bad).2 } e.id
  refine ⟨rfl,?_,f.2.2.1,f.2.2.2.1,f.2.2.2.2⟩
  obtain ⟨x,x1,x2,_⟩:=g5 hv
  unfold dLeave
  dsimp only
  rw [x1]
  dsimp only
  refine qDrop_none fun w hw q=>?_
  obtain ⟨y,y1,y2,_⟩:=k.qO w hw
  rw [q,x1] at y1
  cases y1
  omega
end
end Go.Proofs.Vf
namespace Go.Proofs.Vf
open Go Go.Proofs Go.VC
def ordR (ds:Int→Int) (i:Int):Rq:=⟨i,0,10+ds i,i,⟨i,1,0,1⟩⟩
def prevOf (l:Int) (L:List Int) (i:Nat):Int:=if i=0 then l else (L[i - 1]?).getD l
def chainP (ds:Int→Int):Int→List Int→Prop
 | _,[]=>True
 | l,x :: r=>(0≤l→ds l≤ds x)∧(0≤x∧x<4)∧chainP ds x r
def lastOf (l:Int):List Int→Int
 | []=>l
 | x :: r=>lastOf x r
theorem prev_last : ∀ (l:Int) (L:List Int),prevOf l L L.length=lastOf l L
 | l,[]=>rfl
 | l,x :: r=>by
  have:=prev_last x r
  unfold lastOf
  rw [← this]
  unfold prevOf
  rw [if_neg (by simp)]
  cases r with
  | nil=>rfl
  | cons y r=>simp
theorem chain_at : ∀ {ds:Int→Int} {l:Int} {L:List Int},chainP ds l L→∀ (i:Nat) (x:Int),L[i]? = some x→(0≤prevOf l L i→ds (prevOf l L i)≤ds x)∧(0≤x∧x<4)
 | _,_,[],_,i,x,h=>by simp at h
 | ds,l,y :: r,c,0,x,h=>by
  simp at h; subst h
  exact ⟨c.1,c.2.1⟩
 | ds,l,y :: r,c,i+1,x,h=>by
  obtain ⟨h1,h2⟩:=chain_at c.2.2 i x (by simpa using h)
  have e:prevOf l (y :: r) (i+1)=prevOf y r i:=by
   unfold prevOf
   rw [if_neg (by omega)]
   cases i with
   | zero=>rfl
   | succ i=>
    have hi:=(List.getElem?_eq_some_iff.1 h).1
    simp only [List.length_cons] at hi
    rw [if_neg (by omega)]
    simp only [Nat.add_sub_cancel,List.getElem?_cons_succ]
    rw [List.getElem?_eq_getElem (by omega)]; rfl
  rw [e]
  exact ⟨h1,h2⟩
structure OI (ds:Int→Int) (st:Dv) (all:List Int) (last:Int):Prop where
 ok:DvOk st
 rk:RLok st
 sz:1≤st.size
 o : ∀ id x,st.O id=some x→x.r=ordR ds id∧0≤id∧id<4
 rl:st.RL.map (·.req)=all
 cnt:st.Q.length+all.length=4
 la:last = -1∨(0≤last∧last<4∧∀ w∈st.Q,ds last≤ds w.id)
section
variable {ds:Int→Int} {st:Dv} {all:List Int} {last:Int}
theorem OI.q (o:OI ds st all last) {w:Wnt} (hw:w∈st.Q):w.dead=10+ds w.id∧0≤w.id∧w.id<4:=by
 obtain ⟨x,x1,x2,x3⟩:=o.ok.qO w hw
 obtain ⟨h1,h2⟩:=o.o _ x x1
 rw [h1] at x3
 refine ⟨?_,h2⟩
 rw [← x3]; rfl
theorem OI.d (o:OI ds st all last) (_hds : ∀ i,0≤ds i∧ds i<256) : ∀ id a,st.O id=some a→mayD (dscOf a id)=true:=fun id a h=>by
 obtain ⟨h1,h2,h3⟩:=o.o id a h
 unfold mayD dscOf
 rw [h1]
 unfold ordR
 dsimp only
 have e1:inD id 65535=true:=by simp [inD]; omega
 rw [e1]; rfl
theorem OI.start1 (o:OI ds st all last) {id:Int} {s':Dv} (h:dStart1 st=some (id,s')):OI ds s' (all ++ [id]) id∧(0≤last→ds last≤ds id)∧0≤id∧id<4∧s'.taken=st.taken∧s'.reaped=st.reaped:=by
 obtain ⟨a,a0,a1,a2,a3,a4,a5,a6,a7,a8,a9,a10,a11⟩:=start1_some h
 have hN:=qNext_mem o.ok.trk a0
 obtain ⟨q1,q2,q3⟩:=o.q hN
 have hle:=qNext_le o.ok.srt o.ok.trk a0
 have hqe:(qDrop st.Q id).2.length+1=st.Q.length:=by rw [a1]; exact qDrop_len hN
 have hsub:=qDrop_sub st.Q id
 refine ⟨{ ok:=start1_ok o.ok h,rk:=start1_RL o.rk h,sz:=by rw [a8]; exact o.sz,o:=fun j y hj=>?_,rl:=?_,cnt:=?_,la:=.inr ⟨by omega,by omega,fun w hw=>?_⟩ },fun hl=>?_,by omega,by omega,a6,a7⟩
 ·rw [a11] at hj
  unfold updF at hj
  split at hj
  ·rename_i e
   cases hj
   rw [e]
   exact o.o id a a2
  ·exact o.o j y hj
 ·rw [a5,List.map_append,o.rl]; rfl
 ·rw [a4,List.length_append,List.length_singleton]
  have:=o.cnt
  omega
 ·rw [a4] at hw
  have h1:=hle w (hsub.subset hw)
  have h2:=o.q (hsub.subset hw)
  rw [a1]
  omega
 ·rcases o.la with q | ⟨_,_,q⟩
  ·omega
  ·have:=q _ hN
   rw [a1]; exact this
theorem OI.startN : ∀ (n:Nat) {st:Dv} {all:List Int} {last:Int},OI ds st all last→(∀ i,0≤ds i∧ds i<256)→st.Q.length<n →
  OI ds (dStartN n st).2 (all ++ (dStartN n st).1) (lastOf last (dStartN n st).1)∧chainP ds last (dStartN n st).1∧(dStartN n st).2.taken=st.taken∧(dStartN n st).2.reaped=st.reaped∧((dStartN n st).2.Q = []∨(dStartN n st).2.RL.length - st.reaped=(dStartN n st).2.size)
 | 0,st,all,last,o,hds,hn=>by omega
 | n+1,st,all,last,o,hds,hn=>by
  unfold dStartN
  cases h:dStart1 st with
  | none=>
   dsimp only
   rw [List.append_nil]
   exact ⟨o,trivial,rfl,rfl,start1_none o.ok (o.d hds) h⟩
  | some p=>
   obtain ⟨id,s'⟩:=p
   dsimp only
   obtain ⟨o1,c1,c2,c3,c4,c5⟩:=o.start1 h
   have hq:s'.Q.length<n:=by
    have h1:=o.cnt
    have h2:=o1.cnt
    rw [List.length_append,List.length_singleton] at h2
    omega
   obtain ⟨r1,r2,r3,r4,r5⟩:=OI.startN n o1 hds hq
   rw [List.append_assoc] at r1
   exact ⟨r1,⟨c1,⟨c2,c3⟩,r2⟩,r3.trans c4,r4.trans c5,by rw [c5] at r5; exact r5⟩
theorem OI.start (o:OI ds st all last) (hds : ∀ i,0≤ds i∧ds i<256) :
  OI ds (dStart st).2 (all ++ (dStart st).1) (lastOf last (dStart st).1)∧chainP ds last (dStart st).1∧(dStart st).2.taken=st.taken∧(dStart st).2.reaped=st.reaped∧((dStart st).2.Q = []∨(dStart st).2.RL.length - st.reaped=(dStart st).2.size):=by
 refine OI.startN 65 o hds ?_
 have:=o.cnt
 omega
theorem OI.turn (o:OI ds st all last) {d:Dsc} (hr:st.taken=st.reaped) (hd:st.RL[st.taken]? = some d) :
  (dTake st).1=(((st.taken:Nat):Int),d,(0:Int))∧all[st.taken]? = some d.req∧(dFinish (dTake st).2 (st.taken:Nat) 0 false).1=0∧(dReap (dFinish (dTake st).2 (st.taken:Nat) 0 false).2).1=(d.req,0) ∧
  OI ds (dReap (dFinish (dTake st).2 (st.taken:Nat) 0 false).2).2 all last∧(dReap (dFinish (dTake st).2 (st.taken:Nat) 0 false).2).2.taken=st.taken+1∧(dReap (dFinish (dTake st).2 (st.taken:Nat) 0 false).2).2.reaped=st.taken+1:=by
 obtain ⟨t1,t2⟩:=take_v hd
 obtain ⟨f1,f2,f3,f4⟩:=take_f st
 have k1:=take_ok o.ok
 have hlt:=(List.getElem?_eq_some_iff.1 hd).1
 have hnd:d.done=false:=by
  cases h:d.done with
  | false=>rfl
  | true=>have:=o.ok.dt _ _ hd h; omega
 obtain ⟨s1,hs1⟩ : ∃ s1,s1=(dTake st).2:=⟨_,rfl⟩
 have eRL:s1.RL=st.RL:=by rw [hs1]; exact take_RLe st
 have eO : ∀ {j y},s1.O j=some y→∃ z,st.O j=some z∧y.r=z.r:=fun {j y} h=>take_O st (by rw [← hs1]; exact h)
 rw [← hs1] at f1 f2 f3 t2 k1 ⊢
 rcases dFinish_cases s1 (st.taken:Nat) 0 false with ⟨c,hc,e⟩ | ⟨d',h1,h2,h3,hd',hdn',e⟩
 ·exfalso
  have e2:rFinish s1.RL s1.taken s1.reaped (st.taken:Nat) 0=(0,s1.RL.set st.taken { d with dev:=false,done:=true,st:=0 }):=by
   unfold rFinish
   rw [if_neg (by omega),if_neg (by omega),eRL]
   have:((st.taken:Nat):Int).toNat=st.taken:=by omega
   rw [this,hd]
   dsimp only
   rw [if_neg (by rw [hnd]; decide)]
  unfold dFinish at e
  rw [e2] at e
  simp at e
  exact hc e.1.symm
 ·have e0:((st.taken:Nat):Int).toNat=st.taken:=by omega
  rw [e0] at e hd'
  rw [eRL,hd] at hd'
  cases hd'
  have k2:=finish_ok k1 (st.taken:Nat) 0 false
  rw [e] at k2 ⊢
  obtain ⟨s2,hs2⟩ : ∃ s2:Dv,s2 = { s1 with RL:=s1.RL.set st.taken { d with dev:=false,done:=true,st:=0 },I:=updF s1.I (st.taken:Nat) ((s1.I (st.taken:Nat)).map fun e=>{ e with done:=true,bad:=false }) }:=⟨_,rfl⟩
  have rk1:RLok s1:=rlok_of o.rk eRL
  have rk2:=finish_RL rk1 (st.taken:Nat) 0 false
  rw [e] at rk2
  dsimp only at k2 rk2 ⊢
  rw [← hs2] at k2 rk2 ⊢
  have g1:s2.RL[s2.reaped]? = some { d with dev:=false,done:=true,st:=0 }:=by
   rw [hs2]; dsimp only
   rw [f2,← hr,eRL,List.getElem?_set_self hlt]
  obtain ⟨v1,v2,v3,v4,v5⟩:=reap_v k2 g1 rfl
  refine ⟨t1,?_,rfl,v1,?_,?_,?_⟩
  ·rw [← o.rl,List.getElem?_map,hd]; rfl
  ·have hmap:s2.RL.map (·.req)=all:=by
    rw [hs2]; dsimp only
    rw [← o.rl,eRL,List.map_set]
    have hx:(st.RL.map (·.req))[st.taken]? = some d.req:=by rw [List.getElem?_map,hd]; rfl
    obtain ⟨hx1,hx2⟩:=List.getElem?_eq_some_iff.1 hx
    have e9:=List.set_getElem_self hx1
    rw [hx2] at e9
    exact e9
   exact
   {ok:=reap_ok k2 rk2
    rk:=rlok_of rk2 (reap_RLe s2)
    sz:=by rw [v5,hs2]; dsimp only; rw [f3]; exact o.sz
    o:=fun j y hj=>by
     have h1:=reap_O _ hj
     rw [hs2] at h1
     obtain ⟨z,z1,z2⟩:=eO h1
     rw [z2]
     exact o.o j z z1
    rl:=by rw [reap_RLe]; exact hmap
    cnt:=by rw [v2,hs2]; dsimp only; rw [f1]; exact o.cnt
    la:=by rw [v2,hs2]; dsimp only; rw [f1]; exact o.la }
  ·rw [v3,hs2]; dsimp only; exact t2
  ·rw [v4,hs2]; dsimp only; rw [f2]; omega
end
end Go.Proofs.Vf
namespace Go.Proofs.Vf
open Go Go.Proofs Go.VC
section
variable {st:Dv}
theorem submit_good (r:Rq) {b:Buf} (hb:bufAt st.P r.pc.slot r.pc.gen=some b) (ho:b.owner=1) (hp:0≤r.pc.fr∧1≤r.pc.len∧r.pc.fr+r.pc.len≤b.b.length) (hop:0≤r.op∧r.op≤15) (hfr:r.pc.fr≤65535) (hm:mayW (wantOf r)=true)
  (hr:inRing st r.id=false) (hl0:look st.B.L r.id=none) (hq:st.Q.length<64) (hl:st.B.L.length<64) (ht:st.B.now+st.B.cost<r.dead):(dSubmit st r).1=0:=by
 have hok:argOk st r=true:=by
  unfold argOk mayP
  rw [hb]
  dsimp only
  rw [hm,decide_eq_true (by omega),decide_eq_false (by omega),decide_eq_false (by omega),decide_eq_false (by omega)]
  rfl
 have hm2:=hm
 unfold mayW at hm2
 simp only [Bool.and_eq_true,decide_eq_true_eq] at hm2
 have e:wantOf r=⟨r.id,r.dead,r.track⟩:=rfl
 rw [e] at hm2
 dsimp only at hm2
 have hso:(stOpen st.B r.id r.dead).1=0:=by
  unfold stOpen
  rw [if_neg (by omega),if_neg (by omega),hl0,if_neg (by decide),if_neg (by omega),if_neg (by omega)]
 unfold dSubmit
 rw [if_neg (by rw [hok]; decide)]
 have hpo:(pOwner st.P r.pc.slot r.pc.gen).1=1:=by unfold pOwner; rw [hb]; exact ho
 rw [if_neg (fun q=>q hpo),if_neg (by rw [hr]; decide),if_neg (by omega),if_neg (fun q=>q hso)]
end
structure OS (ds:Int→Int) (i:Nat) (sz:Nat) (st:Dv):Prop where
 ok:DvOk st
 rk:RLok st
 sz:st.size=sz
 o : ∀ id x,st.O id=some x→x.r=ordR ds id∧0≤id∧id<i
 rl:st.RL = []
 tk:st.taken=0∧st.reaped=0
 q:st.Q.length=i
 bl:st.B.L.length=i
 bt:st.B.now=0∧st.B.cost=5
 p : ∀ j:Nat,i≤j→j<4→∃ b,bufAt st.P j 1=some b∧b.owner=1∧1≤b.b.length
section
variable {ds:Int→Int} {st:Dv} {i sz:Nat}
theorem insW_len (w:Wnt) (Q:List Wnt):(insW w Q).length=Q.length+1:=(insW_perm w Q).length_eq
theorem OS.submit (o:OS ds i sz st) (hds : ∀ i,0≤ds i∧ds i<256) (hi:i<4):(dSubmit st (ordR ds i)).1=0∧OS ds (i+1) sz (dSubmit st (ordR ds i)).2:=by
 have hd:=hds i
 obtain ⟨b,b1,b2,b3⟩:=o.p i (Nat.le_refl _) hi
 have hl0:look st.B.L (ordR ds i).id=none:=by
  cases h:look st.B.L (ordR ds i).id with
  | none=>rfl
  | some d=>
   obtain ⟨y,y1,_⟩:=o.ok.oB _ d h
   have:=o.o _ y y1
   have e:(ordR ds i).id=i:=rfl
   omega
 have hr:inRing st (ordR ds i).id=false:=by unfold inRing; rw [o.rl]; simp
 have hm:mayW (wantOf (ordR ds i))=true:=by
  unfold mayW wantOf ordR
  dsimp only
  simp only [Bool.and_eq_true,decide_eq_true_eq]
  omega
 have hg:(dSubmit st (ordR ds i)).1=0:=submit_good (ordR ds i) b1 b2 ⟨by show (0:Int)≤0; omega,by show (1:Int)≤1; omega,by show (0:Int)+1≤b.b.length; omega⟩ ⟨by show (0:Int)≤0; omega,by show (0:Int)≤15; omega⟩ (by show (0:Int)≤65535; omega) hm hr hl0 (by rw [o.q]; omega) (by rw [o.bl]; omega) (by rw [o.bt.1,o.bt.2]; show 0+5<10+ds i; omega)
 refine ⟨hg,?_⟩
 have k:=submit_ok o.ok (ordR ds i)
 have rk:=rlok_of o.rk (submit_RLe st (ordR ds i))
 rcases dSubmit_cases o.ok (ordR ds i) with ⟨c,hc,e⟩ | ⟨b',_,hb',ho',_,_,_,_,_,_,_,hO,_,_,_,e⟩
 ·rw [e] at hg; exact absurd hg hc
 rw [e] at k rk ⊢
 exact
 {ok:=k,rk:=rk,sz:=o.sz
  o:=fun id x hx=>by
   dsimp only at hx
   unfold updF at hx
   split at hx
   ·rename_i q
    cases hx
    have e:(ordR ds i).id=i:=rfl
    rw [q,e]
    exact ⟨rfl,by omega,by omega⟩
   ·obtain ⟨h1,h2,h3⟩:=o.o id x hx
    exact ⟨h1,h2,by omega⟩
  rl:=o.rl,tk:=o.tk
  q:=by dsimp only; rw [insW_len,o.q]
  bl:=by dsimp only; rw [ins_length,o.bl]
  bt:=o.bt
  p:=fun j h1 h2=>by
   obtain ⟨c,c1,c2⟩:=o.p j (by omega) h2
   refine ⟨c,?_,c2⟩
   dsimp only
   rw [bufAt_give hb' ho' (by omega) (by omega) (by omega),if_neg]
   ·exact c1
   ·intro q
    have e:(ordR ds i).pc.slot=i:=rfl
    rw [e] at q
    omega }
theorem OS.new:OS ds 0 sz (dNew gotL sz 5):=
 {ok:=new_ok gotL_own (by omega),rk:=fun n d h=>by simp [dNew] at h,sz:=rfl,o:=fun _ _ h=>(by cases h),rl:=rfl,tk:=⟨rfl,rfl⟩,q:=rfl,bl:=rfl,bt:=⟨rfl,rfl⟩
  p:=fun j _ h=>by
   have:j=0∨j=1∨j=2∨j=3:=by omega
   rcases this with rfl | rfl | rfl | rfl
   ·exact ⟨⟨1,1,1,z8⟩,rfl,rfl,by decide⟩
   ·exact ⟨⟨1,1,1,z8⟩,rfl,rfl,by decide⟩
   ·exact ⟨⟨1,1,1,z8⟩,rfl,rfl,by decide⟩
   ·exact ⟨⟨1,1,1,z20⟩,rfl,rfl,by decide⟩ }
theorem OS.oi (o:OS ds 4 sz st) (hs:1≤sz):OI ds st [] (-1):=
 {ok:=o.ok,rk:=o.rk,sz:=by rw [o.sz]; exact hs,o:=fun id x h=>o.o id x h,rl:=by rw [o.rl]; rfl,cnt:=by rw [o.q]; rfl,la:=.inl rfl }
end
theorem gd_app {h0 h h':Heap} {db:Nat} {x:DX} {T:Nat→Prop} {tm:List (Nat × Obj)} {st:Dv} {a:Option Addr} (g:Gd h0 db x T tm h st) (ch:Ch (blkOf a) h h') (ha : ∀ y,blkOf a y→T y∧h0.size≤y) (ht : ∀ p∈tm,¬ blkOf a p.1) :
  Gd h0 db x (Nw T h h') tm h' st:=by
 obtain ⟨col,D,q⟩:=g.L.dev
 have hz:=ch.1
 refine ⟨⟨⟨recol col h 0,D.tmpCh (fun y _ hy=>(q y (ha y hy).1).2) ch,fun y hy=>?_⟩,g.L.ok,g.L.rl⟩,?_,fun p hp=>?_,fun y hy=>.inl (g.old y hy)⟩
 ·rcases hy with hy | hy
  ·obtain ⟨q1,q2⟩:=q y hy
   exact ⟨by omega,by unfold recol; rw [if_pos q1]; exact q2⟩
  ·exact ⟨hy.2,by unfold recol; rw [if_neg (by omega)]⟩
 ·exact ⟨Nat.le_trans g.ex.1 hz,fun y hy=>by rw [ch.2 y (Nat.lt_of_lt_of_le hy g.ex.1) (fun q=>by have:=(ha y q).2; omega),g.ex.2 y hy]⟩
 ·obtain ⟨p1,p2⟩:=g.tm p hp
  exact ⟨by rw [ch.2 p.1 (lt_of_get p1) (ht p hp)]; exact p1,.inl p2⟩
end Go.Proofs.Vf
namespace Go.Proofs.Vf
open Go Go.Proofs Go.VC
theorem order_spec {h:Heap} {d0 d1 d2 d3 p1:Int} (h0:0≤d0∧d0<256) (h1:0≤d1∧d1<256) (h2:0≤d2∧d2<256) (h3:0≤d3∧d3<256) (hp:0≤p1∧p1<256) :
  CallsH PR fn_linchpinlaw20_IoqOrder #[.agg #[.int .u8 d0,.int .u8 d1,.int .u8 d2,.int .u8 d3],.int .u8 p1] h (fun v h'=>v = .bool true∧Ext h h'):=by
 apply F_linchpinlaw20_IoqOrder_ok
 unfold F_linchpinlaw20_IoqOrder
 intro g1 e1
 obtain ⟨a1,a2,a3⟩:=push_get e1
 obtain ⟨ds,hds⟩ : ∃ ds:Int→Int,ds=fun i=>if i=0 then d0 else if i=1 then d1 else if i=2 then d2 else d3:=⟨_,rfl⟩
 have hr : ∀ i,0≤ds i∧ds i<256:=fun i=>by rw [hds]; dsimp only; repeat (first | assumption | split)
 have cell : ∀ {hz:Heap},Ext g1 hz→∀ i:Int,0≤i∧i<4→cellH hz h.size (0+i.toNat * 1)=some (.int .u8 (ds i)):=fun {hz} xz i hi=>by
  have hb:=xz.get a1
  have:i=0∨i=1∨i=2∨i=3:=by omega
  rcases this with rfl | rfl | rfl | rfl <;> (rw [hds]; exact cell_lst hb rfl)
 refine (awake_spec g1).mono ?_
 rintro _ g3 ⟨rfl,x3⟩
 refine ⟨true,rfl,fun q=>(by cases q),fun _=>?_⟩
 have w1:IntKind.i64.wrap p1=p1:=wrap_i64 ⟨by omega,by omega⟩
 rw [w1]
 obtain ⟨sz,hsz⟩ : ∃ sz,sz=1+p1.tmod 6:=⟨_,rfl⟩
 rw [← hsz]
 have s0:1≤sz∧sz≤6:=by rw [hsz,Int.tmod_eq_emod_of_nonneg hp.1]; omega
 refine (got_spec g3).mono ?_
 rintro _ g6 ⟨pb,rfl,x6,P6⟩
 refine ⟨_,rfl,⟨by omega,by omega⟩,?_⟩
 refine (lnew P6 x6 (fun y hy=>hy.1) gotL_own (n:=sz) (cost:=5) (by omega) (by omega)).mono ?_
 rintro _ g11 ⟨db,x,rfl,x11,rfl,L11⟩
 refine ⟨_,_,rfl,fun q=>(by simp at q),fun _=>?_⟩
 have G0:=gd_new (tm:=[]) x3 L11 (x6.trans x11) (Ext.refl _) (fun p hp=>by cases hp)
 obtain ⟨T,hT⟩ : ∃ T:Nat→Prop,T=fun y=>y<g1.size∨∃ p∈([]:List (Nat × Obj)),p.1=y:=⟨_,rfl⟩
 rw [← hT] at G0
 refine ⟨fun i hh=>(0≤i∧i≤4)∧∃ st,Gd g1 db x T [] hh st∧OS ds i.toNat sz.toNat st∧Bd i.toNat st,fun i _=>(4 - i).toNat,⟨⟨by omega,by omega⟩,_,G0,OS.new,bd_new⟩,?_⟩
 rintro i g21 ⟨⟨i0,i1⟩,st,G,o,B⟩
 have ei:((i.toNat:Nat):Int)=i:=by omega
 refine ⟨fun hlt=>?_,fun hge=>?_⟩
 ·have hd:=hr i
  refine ⟨⟨i0,hlt⟩,ds i,cell G.ex i ⟨i0,hlt⟩,?_⟩
  have w2:IntKind.u64.wrap (ds i)=ds i:=wrap_u64 (by omega) (by omega)
  have w3:IntKind.u64.wrap (10+ds i)=10+ds i:=wrap_u64 (by omega) (by omega)
  rw [w2,w3]
  obtain ⟨c1,c2⟩:=o.submit hr (by omega)
  rw [ei] at c1 c2
  refine (lsubmit G.L (ordR ds i) (by show 0≤10+ds i; omega)).mono ?_
  rintro _ g27 ⟨rfl,L27,K27⟩
  have e1:(i+1).toNat=i.toNat+1:=by omega
  refine ⟨_,rfl,fun q=>absurd c1 q,fun _=>⟨⟨by omega,by omega⟩,⟨⟨by omega,by omega⟩,_,G.step L27 K27,?_,?_⟩,by dsimp only; omega⟩⟩
  ·rw [e1]; exact c2
  ·rw [e1]; exact bd_submit B _
 have e4:i.toNat=4:=by omega
 rw [e4] at o B
 refine ⟨fun a n c hh=>∃ st T',Gd g1 db x T' [] hh st∧n=4∧st.Q.length=0∧st.RL.length - st.reaped=0,?_,?_⟩
 ·rintro a n c g35 ⟨s',T',G',rfl,q1,q2⟩
  refine (lcounts G'.L).mono ?_
  rintro _ g36 ⟨rfl,x36⟩
  refine ⟨_,_,rfl,?_,a2.trans (G'.ext x36).ex⟩
  rw [q1,q2]; rfl
 refine ⟨fun a n c last k hh=>(0≤k∧k≤8)∧∃ st T' all,Gd g1 db x T' [] hh st∧OI ds st all last∧st.taken=st.reaped∧((st.taken:Nat):Int)=k∧Sl hh 3 1 a n c (all.map (Value.int .i64))∧n=all.length∧(∀ y,blkOf a y→T' y∧g1.size≤y)∧Bd (4+4 * k.toNat) st,
  fun _ _ _ _ k _=>(8 - k).toNat,⟨⟨by omega,by omega⟩,st,T,[],G,o.oi (by omega),by rw [o.tk.1,o.tk.2],by rw [o.tk.1]; rfl,Sl.nil _ _ _,rfl,fun y hy=>by (obtain ⟨_,_,q,_⟩:=hy; cases q),B⟩,?_⟩
 rintro a n c last k g49 ⟨⟨k0,k1⟩,s1,T1,all,G1,oi,tr,tk,sl,rfl,bt,B1⟩
 have hlen:=oi.cnt
 have hRL:s1.RL.length=all.length:=by rw [← oi.rl,List.length_map]
 have hrt:=oi.ok.rt
 refine ⟨fun hk=>?_,fun hk=>by exfalso; omega⟩
 refine (lstart G1.L B1 (by omega)).mono ?_
 rintro _ g51 ⟨a53,c53,rfl,s53,L51,K51,z53⟩
 obtain ⟨oi2,ch,tk2,rp2,en⟩:=oi.start hr
 have B2:=bd_start B1
 obtain ⟨S,hS⟩ : ∃ S,S=(dStart s1).1:=⟨_,rfl⟩
 obtain ⟨s2,hs2⟩ : ∃ s2,s2=(dStart s1).2:=⟨_,rfl⟩
 rw [← hS] at s53 oi2 ch ⊢
 rw [← hs2] at L51 oi2 tk2 rp2 en B2
 have G51:Gd g1 db x T1 [] g51 s2:=G1.step (L51.sub fun y hy=>.inl hy) K51
 have hcnt2:=oi2.cnt
 rw [List.length_append] at hcnt2
 refine ⟨_,_,_,rfl,fun p j hh=>hh=g51∧0≤j∧j≤S.length∧p=prevOf last S j.toNat,fun _ j _=>(S.length - j).toNat,⟨rfl,by omega,by omega,rfl⟩,?_⟩
 rintro p j g59 ⟨rfl,j0,j1,rfl⟩
 refine ⟨fun hj=>?_,fun hj=>?_⟩
 ·obtain ⟨v,hv⟩ : ∃ v,S[j.toNat]? = some v:=⟨_,List.getElem?_eq_getElem (by omega)⟩
  obtain ⟨c1,c2⟩:=chain_at ch j.toNat v hv
  obtain ⟨b,o',rfl,hc⟩:=s53.get (i:=j.toNat) (v:=.int .i64 v) (by rw [List.getElem?_map,hv]; rfl)
  have pr:0≤prevOf last S j.toNat→prevOf last S j.toNat<4:=fun hq=>by
   by_cases hj0:j.toNat=0
   ·rw [hj0] at hq ⊢
    have:prevOf last S 0=last:=rfl
    rw [this] at hq ⊢
    rcases oi.la with q | q
    ·omega
    ·exact q.2.1
   ·have e:prevOf last S j.toNat=(S[j.toNat - 1]?).getD last:=by unfold prevOf; rw [if_neg hj0]
    obtain ⟨u,hu⟩ : ∃ u,S[j.toNat - 1]? = some u:=⟨_,List.getElem?_eq_getElem (by omega)⟩
    rw [e,hu]
    exact (chain_at ch _ u hu).2.2
  refine ⟨fun q=>⟨q,pr q⟩,ds (prevOf last S j.toNat),fun q=>cell G51.ex _ ⟨q,pr q⟩,b,o',fun _=>rfl,fun _=>⟨j0,hj⟩,v,fun _=>by rw [Nat.mul_one]; exact hc,fun _=>c2,ds v,fun _=>cell G51.ex _ c2,fun q=>?_,fun _=>⟨b,o',rfl,⟨j0,hj⟩,v,by rw [Nat.mul_one]; exact hc,⟨by omega,by omega⟩,⟨rfl,by omega,by omega,?_⟩,by dsimp only; omega⟩⟩
  ·exfalso
   simp only [Bool.and_eq_true,decide_eq_true_eq] at q
   have:=c1 q.1
   omega
  ·have:(j+1).toNat=j.toNat+1:=by omega
   rw [this]
   unfold prevOf
   rw [if_neg (by omega),Nat.add_sub_cancel,hv]; rfl
 have jl:j.toNat=S.length:=by omega
 rw [jl,prev_last]
 have sl2:Sl g59 3 1 a all.length c (all.map (Value.int .i64)):=K51.sl sl fun y hy=>(bt y hy).1
 refine ⟨S.length,S.map (Value.int .i64),⟨rfl,s53.first⟩,?_⟩
 refine sl2.append (by rw [List.length_map,Nat.mul_one]) (by intro v hv; obtain ⟨u,_,rfl⟩:=List.mem_map.1 hv; rfl) rfl (by omega) fun a' c' h89 s89 c89 f89=>?_
 rw [← List.map_append,← List.length_append] at s89
 rw [← List.length_append]
 have G89:=gd_app G51 c89 bt (fun p hp=>by cases hp)
 obtain ⟨T2,hT2⟩ : ∃ T2,T2=Nw T1 g59 h89:=⟨_,rfl⟩
 rw [← hT2] at G89
 have bt2 : ∀ y,blkOf a' y→T2 y∧g1.size≤y:=fun y hy=>by
  rw [hT2]
  rcases f89 y hy with q | q
  ·exact ⟨.inl (bt y q).1,(bt y q).2⟩
  ·exact ⟨.inr q,by have:=G51.ex.1; omega⟩
 obtain ⟨all2,hall2⟩ : ∃ all2,all2=all ++ S:=⟨_,rfl⟩
 rw [← hall2] at s89 oi2 ⊢
 have hRL2:s2.RL.length=all2.length:=by rw [← oi2.rl,List.length_map]
 have hc2:=oi2.cnt
 have tr2:s2.taken=s2.reaped:=by rw [tk2,rp2]; exact tr
 refine (ltake G89.L B2 (by omega)).mono ?_
 rintro _ g90 ⟨rfl,L90,K90⟩
 have G90:=G89.step L90 K90
 refine ⟨_,_,_,_,_,_,_,_,_,_,_,rfl,fun g95 e95=>?_⟩
 obtain ⟨g98,t1,t2,t3,t4⟩:=st_tmp (zs:=[_,_,_,_,_,_,_,_,_]) e95 (dscV (dTake s2).1.2.1) rfl (dscV_one _)
 refine ⟨g98,t1,fun hne=>?_,fun he=>?_⟩
 ·have hn:s2.RL[s2.taken]? = none:=by
   cases hh:s2.RL[s2.taken]? with
   | none=>rfl
   | some d=>rw [(take_v hh).1] at hne; exact absurd rfl hne
  have hl:=List.getElem?_eq_none_iff.1 hn
  rw [take_n hn] at G90
  have hrt2:=oi2.ok.rt
  have hsz2:=oi2.sz
  have hq0:s2.Q = []:=by
   rcases en with q | q
   ·exact q
   ·omega
  rw [hq0] at hc2
  refine ⟨s2,T2,G90.ext t3,by simpa using hc2,by rw [hq0]; rfl,by omega⟩
 obtain ⟨d,hd⟩ : ∃ d,s2.RL[s2.taken]? = some d:=by
  cases hh:s2.RL[s2.taken]? with
  | none=>rw [take_n hh] at he; cases he
  | some d=>exact ⟨d,rfl⟩
 obtain ⟨v1,v2,v3,v4,v5,v6,v7⟩:=oi2.turn tr2 hd
 rw [v1] at t2 ⊢
 have hlt:=(List.getElem?_eq_some_iff.1 hd).1
 obtain ⟨L98,K98⟩:=G90.L.ext t3
 have G98:Gd g1 db x (Nw T2 g90 g98) [(g90.size,.cells (List.toArray (dscV d)) 63 (0,0))] g98 (dTake s2).2:=
  {L:=L98
   ex:=Kp.ext G90.ex K98 G90.old
   tm:=fun p hp=>by
    rcases List.mem_cons.1 hp with rfl | hp
    ·exact ⟨t2,.inr ⟨Nat.le_refl _,by omega⟩⟩
    ·cases hp
   old:=fun y hy=>.inl (G90.old y hy) }
 have s98:Sl g98 3 1 a' all2.length c' (all2.map (Value.int .i64)):=K98.sl (K90.sl s89 fun y hy=>(bt2 y hy).1) fun y hy=>(bt2 y hy).1
 have cd : ∀ {hz:Heap} {s:Dv},Gd g1 db x (Nw T2 g90 g98) [(g90.size,.cells (List.toArray (dscV d)) 63 (0,0))] hz s→cellH hz g90.size 1=some (.int .i64 d.req):=fun Gz=>cell_lst (Gz.get List.mem_cons_self) rfl
 obtain ⟨b,o',rfl,hc⟩:=s98.get (i:=s2.taken) (v:=.int .i64 d.req) (by rw [List.getElem?_map,v2]; rfl)
 refine ⟨d.req,cd G98,b,o',rfl,⟨by omega,by show ((s2.taken:Nat):Int)<_; omega⟩,d.req,by rw [Nat.mul_one]; exact hc,fun c hh=>c=0∧Gd g1 db x (Nw T2 g90 g98) [(g90.size,.cells (List.toArray (dscV d)) 63 (0,0))] hh (dFinish (dTake s2).2 (s2.taken:Nat) 0 false).2∧Sl hh 3 1 (some ⟨b,o',none⟩) all2.length c' (all2.map (Value.int .i64)),?_,fun _=>?_,fun q=>absurd rfl q⟩
 rotate_left
 ·refine (lfinish G98.L (s2.taken:Nat) 0 false).mono ?_
  rintro _ hz ⟨rfl,Lz,Kz⟩
  exact ⟨_,rfl,v3,G98.step Lz Kz,Kz.sl s98 fun y hy=>.inl (bt2 y hy).1⟩
 rintro c0 g109 ⟨rfl,G109,s109⟩
 refine ⟨fun q=>by simp at q,fun _=>(lreap G109.L (bd_finish (bd_take B2) _ _ _) (by omega)).mono ?_⟩
 rintro _ g114 ⟨rfl,L114,K114⟩
 have G114:=G109.step L114 K114
 rw [v4]
 refine ⟨_,_,rfl,d.req,fun _=>cd G114,fun q=>by simp at q,fun _=>⟨⟨by omega,by omega⟩,⟨⟨by omega,by omega⟩,_,Nw T2 g90 g98,all2,⟨G114.L,G114.ex,fun p hp=>(by cases hp),G114.old⟩,v5,v6.trans v7.symm,by rw [v6]; omega,K114.sl s109 fun y hy=>.inl (bt2 y hy).1,rfl,fun y hy=>⟨.inl (bt2 y hy).1,(bt2 y hy).2⟩,?_⟩,by dsimp only; omega⟩⟩
 have:4+4 * (k+1).toNat=4+4 * k.toNat+1+1+1+1:=by omega
 rw [this]
 exact bd_reap (bd_finish (bd_take B2) _ _ _)
end Go.Proofs.Vf
