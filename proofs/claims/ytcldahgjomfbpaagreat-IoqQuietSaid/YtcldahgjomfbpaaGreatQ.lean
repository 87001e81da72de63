/- Contracts of functions of the program over the heap, and laws that follow from them. Conditions: as stated at each. -/
import Derived.Test.YtcldahgjomfbpaaGreatE
import Derived.Test.YtcldahgjomfbpaaGreatFLaw
namespace Go.Proofs.Vf
open Go Go.Proofs Go.VC
def aw0:Dv:=dNew gotL 2 5
def awr7:Rq:=⟨7,0,100,0,⟨0,1,2,4⟩⟩
def awr8:Rq:=⟨8,0,100,0,⟨0,1,2,4⟩⟩
def aw1:Dv:=(dSubmit aw0 awr7).2
def aw2:Dv:=(dSubmit aw1 awr8).2
def aw3:Dv:=(dStart aw2).2
def aw4:Dv:=(dTake aw3).2
def aw5:Dv:=(dWrite aw4 0 1 [97,98]).2
def aw6:Dv:=(dFinish aw5 0 9 false).2
def aw7:Dv:=(dReap aw6).2
def aw8:Dv:=(dGo aw7 1).2
theorem av1:(dSubmit aw0 awr7).1=0:=by decide +kernel
theorem av2:(dSubmit aw1 awr8).1=8:=by decide +kernel
theorem av3:(dStart aw2).1 = [7]:=by decide +kernel
theorem av4:(dTake aw3).1.1=0∧(dTake aw3).1.2.2=0:=by decide +kernel
theorem av5:(dWrite aw4 0 1 [97,98]).1=0:=by decide +kernel
theorem av7:(dReap aw6).1.1=7∧(dReap aw6).1.2=0:=by decide +kernel
theorem av8:(dGo aw7 1).1.1=0∧(dGo aw7 1).1.2 = [⟨7,1,9⟩]:=by decide +kernel
theorem av9:pRead aw8.P 0 1 3 2=(0,[97,98]):=by decide +kernel
theorem ab2:Bd 1 aw2:=⟨by decide +kernel,by decide +kernel⟩
theorem ab3:Bd 1 aw3:=⟨by decide +kernel,by decide +kernel⟩
theorem ab6:Bd 1 aw6:=⟨by decide +kernel,by decide +kernel⟩
theorem ab7:Bd 1 aw7:=⟨by decide +kernel,by decide +kernel⟩
theorem _root_.Go.VC.Ext.kp {h0 h1 h2:Heap} {T:Nat→Prop} (x:Ext h0 h1) (k:Kp T h1 h2) (hT : ∀ y,y<h0.size→T y):Ext h0 h2:=Kp.ext x k hT
theorem awake_spec (h:Heap):CallsH PR Gj2 #[] h (fun v h'=>v = .bool true∧Ext h h'):=by
 apply Gbr
 unfold Gbq
 refine (got_spec h).mono ?_
 rintro _ h1 ⟨pb,rfl,x1,P1⟩
 refine⟨_,rfl,fun q=>(by cases q),fun _=>?_⟩
 refine (lnew P1 x1 (fun y hy=>hy.1) gotL_own (n:=2) (cost:=5) (by omega) (by omega)).mono ?_
 rintro _ h5 ⟨db,x,rfl,x5,rfl,L5⟩
 refine⟨_,_,rfl,fun q=>(by simp at q),fun _ h11 e11=>?_⟩
 have xx:=x1.trans x5
 obtain⟨h14,s1,s2,s3,s4⟩:=st_tmp (zs:=[_,_]) e11 [.int .i64 0,.int .u64 1] rfl (by simp [Value.oneCell'])
 obtain⟨L14,K14⟩:=L5.ext s3
 obtain⟨T,hT⟩ : ∃ T:Nat→Prop,T=fun y=>y<h.size∨y=h5.size:=⟨_,rfl⟩
 replace L14:Lw db x T h14 aw0:=L14.sub fun y hy=>by
  rw [hT] at hy
  rcases hy with hy | hy
  ·exact .inl hy
  ·exact .inr ⟨by omega,by omega⟩
 have cH:T h5.size:=by rw [hT]; exact .inr rfl
 have old : ∀ y,y<h.size→T y:=fun y hy=>by rw [hT]; exact .inl hy
 have l0 : ∀ {hz:Heap},hz[h5.size]? = some (.cells (List.toArray [.int .i64 0,.int .u64 1]) 39 (0,0))→ldCells hz h5.size 0 2=some [.int .i64 0,.int .u64 1]:=fun q=>ld_lst q 2 0 (by simp)
 refine⟨h14,s1,_,_,l0 s2,?_⟩
 refine (lsubmit L14 awr7 (by decide)).mono ?_
 rintro _ h17 ⟨rfl,(L17:Lw db x T h17 aw1),K17⟩
 have c17:=K17.get s2 cH
 refine⟨_,rfl,_,_,l0 c17,?_⟩
 refine (lsubmit L17 awr8 (by decide)).mono ?_
 rintro _ h22 ⟨rfl,(L22:Lw db x T h22 aw2),K22⟩
 refine⟨_,rfl,?_⟩
 refine (lstart L22 ab2 (by omega)).mono ?_
 rintro _ h25 ⟨a,c,rfl,-,L25,K25,-⟩
 replace L25:Lw db x T h25 aw3:=L25.sub fun y hy=>.inl hy
 refine⟨_,_,_,rfl,?_⟩
 refine (ltake L25 ab3 (by omega)).mono ?_
 rintro _ h28 ⟨rfl,(L28:Lw db x T h28 aw4),K28⟩
 refine⟨_,_,_,_,_,_,_,_,_,_,_,rfl,fun h33 e33=>?_⟩
 obtain⟨h36,t1,t2,t3,t4⟩:=st_tmp (zs:=[_,_,_,_,_,_,_,_,_]) e33 (dscV (dTake aw3).1.2.1) rfl (dscV_one _)
 obtain⟨L36,K36⟩:=L28.ext t3
 replace L36:Lw db x T h36 aw4:=L36.sub fun y hy=>.inl hy
 refine⟨h36,t1,fun h37 e37=>?_⟩
 obtain⟨u1,u2,u3⟩:=push_get e37
 obtain⟨L37,K37⟩:=L36.ext u2
 refine⟨⟨_,_,_,u1⟩,fun h39 m39=>?_⟩
 obtain⟨m1,m2,m3⟩:=m39
 obtain⟨z,hz⟩:=m3 _ _ _ u1
 have L39:=L37.tmp (t:=h36.size) (.inr ⟨Nat.le_refl _,by omega⟩) m2 m1
 replace L39:Lw db x T h39 aw4:=L39.sub fun y hy=>.inl hy
 have K39:Kp T h36 h39:=⟨by omega,fun y hy=>by rw [m2 y (fun q=>by have:=L36.lt hy; omega),K37.2 y hy]⟩
 have f39:firstH h39 1 2 (.slice (some ⟨h36.size,0,none⟩) 2 2)=some ([97,98].map u8):=by
  simp [firstH,ldCells,cellH,hz]
 have e4:(dTake aw3).1.1=0:=av4.1
 rw [e4]
 refine (lwrite L39 0 1 (bs:=[97,98]) rfl f39 (by omega)).mono ?_
 rintro _ h42 ⟨rfl,(L42:Lw db x T h42 aw5),K42⟩
 refine⟨_,rfl,?_⟩
 refine (lfinish L42 0 9 false).mono ?_
 rintro _ h45 ⟨rfl,(L45:Lw db x T h45 aw6),K45⟩
 refine⟨_,rfl,?_⟩
 refine (lreap L45 ab6 (by omega)).mono ?_
 rintro _ h48 ⟨rfl,(L48:Lw db x T h48 aw7),K48⟩
 refine⟨_,_,rfl,?_⟩
 refine (lgo L48 ab7 (by omega) (t:=1) (by decide)).mono ?_
 rintro _ h52 ⟨a52,c52,rfl,s52,L52,K52⟩
 have KK:Kp T h17 h52:=(((((((K22.trans K25 fun _ q=>q).trans K28 fun _ q=>q).trans K36 fun _ q=>q).trans K39 fun _ q=>q).trans K42 fun _ q=>q).trans K45 fun _ q=>q).trans K48 fun _ q=>q).trans K52 fun _ q=>q
 have c52':=KK.get c17 cH
 refine⟨_,_,_,_,rfl,_,_,l0 c52',?_⟩
 refine (lread L52 0 1 3 2 (by omega)).mono ?_
 rintro _ h59 ⟨a59,c59,rfl,x59,s59,-⟩
 obtain⟨v1,v2⟩:=av8
 have v2':(dGo aw7 1).1.2 = [⟨7,1,9⟩]:=v2
 obtain⟨b,o,rfl,ld⟩:=flat_ld (s52.ext x59) (i:=0) (f:=⟨7,1,9⟩) (by rw [v2]; rfl)
 rw [Nat.zero_mul,Nat.add_zero] at ld
 have w9:pRead (dGo aw7 1).2.P 0 1 3 2=(0,[97,98]):=av9
 rw [w9] at s59 ⊢
 refine⟨_,_,_,_,rfl,b,o,fun _=>rfl,fun _=>?_,7,1,9,fun _=>ld,[97,98],fun _=>s59.first,?_,?_⟩
 ·rw [v2]; decide
 ·have w1:(dSubmit aw0 awr7).1=0:=av1
  have w2:(dSubmit aw1 awr8).1=8:=av2
  have w3:(dStart aw2).1 = [7]:=av3
  have w5:(dWrite aw4 0 1 [97,98]).1=0:=av5
  rw [w1,w2,w3,av4.2,w5,av7.1,av7.2,v2]
  rfl
 ·have e17:Ext h h14:=(x1.trans x5).trans s3
  exact ((e17.kp K17 old).kp KK old).trans x59
end Go.Proofs.Vf
namespace Go.Proofs.Vf
open Go Go.Proofs Go.VC
def ArgI (h:Heap) (k:IntKind) (a:Option Addr) (xs:List Int):Prop:=∀ i x,xs[i]? = some x→∃ b o,a=some ⟨b,o,none⟩∧cellH h b (o+i)=some (.int k x)
theorem ArgI.ext {h h':Heap} {k:IntKind} {a:Option Addr} {xs:List Int} (A:ArgI h k a xs) (x:Ext h h'):ArgI h' k a xs:=fun i v hv=>by
 obtain⟨b,o,h1,h2⟩:=A i v hv
 exact⟨b,o,h1,x.cell h2⟩
theorem ArgI.first {h:Heap} {a:Option Addr} {bs:List Int} (A:ArgI h .u8 a bs) {n c:Nat} (hn:n=bs.length):firstH h 1 n (.slice a n c)=some (bs.map u8):=by
 cases a with
 | none=>
  have:bs = []:=by
   cases bs with
   | nil=>rfl
   | cons x bs=>obtain⟨b,o,q,_⟩:=A 0 x rfl; cases q
  subst this; rfl
 | some A'=>
  obtain⟨b,o,s⟩:=A'
  cases s with
  | some z=>
   have:bs = []:=by
    cases bs with
    | nil=>rfl
    | cons x bs=>obtain⟨b,o,q,_⟩:=A 0 x rfl; cases q
   subst this
   subst hn
   rfl
  | none=>
   have:=ldc_of (h:=h) (b:=b) (vs:=bs.map u8) (o:=o) fun i v hv=>by
    rw [List.getElem?_map] at hv
    obtain⟨x,hx,rfl⟩:=Option.map_eq_some_iff.1 hv
    obtain⟨b',o',q,hc⟩:=A i x hx
    cases q
    exact hc
   rw [List.length_map] at this
   show ldCells h b o (n * 1)=_
   rw [Nat.mul_one,hn]; exact this
section
variable {n:Nat} {st:Dv}
theorem bd_of {s:Dv} (b:Bd n st) (h1:s.B.F.length≤st.B.F.length+1) (h2:s.RL.length≤st.RL.length+65):Bd (n+1) s:=⟨by have:=b.1; omega,by have:=b.2; omega⟩
theorem stOpen_F (s:St) (id d:Int):(stOpen s id d).2.F=s.F:=by
 unfold stOpen
 repeat (first | rfl | split)
theorem stOut_F (s:St) (id k w:Int):(stOut s id k w).2.F.length≤s.F.length+1:=by
 unfold stOut; split
 ·simp
 ·dsimp only; omega
theorem stAnswer_F (s:St) (id t:Int) (bad:Bool):(stAnswer s id t bad).2.F.length≤s.F.length+1:=by
 unfold stAnswer
 split
 ·dsimp only; omega
 split <;> exact stOut_F _ _ _ _
theorem bd_submit (b:Bd n st) (r:Rq):Bd (n+1) (dSubmit st r).2:=by
 refine bd_of b ?_ (by rw [submit_RLe]; omega)
 have:(dSubmit st r).2.B.F=st.B.F:=by
  have:=stOpen_F st.B r.id r.dead
  unfold dSubmit
  repeat (first | rfl | exact this | split)
 rw [this]; omega
theorem bd_take (b:Bd n st):Bd (n+1) (dTake st).2:=by
 refine bd_of b ?_ (by rw [take_RLe]; omega)
 have:(dTake st).2.B=st.B:=by
  unfold dTake
  cases st.RL[st.taken]? with
  | none=>rfl
  | some d=>
   dsimp only
   cases st.I (st.taken:Nat) with
   | none=>rfl
   | some e=>dsimp only; split <;> rfl
 rw [this]; omega
theorem bd_write (b:Bd n st) (no at_:Int) (bs:List Int):Bd (n+1) (dWrite st no at_ bs).2:=by
 refine bd_of b ?_ (by rw [write_RLe]; omega)
 have:(dWrite st no at_ bs).2.B=st.B:=by
  unfold dWrite
  cases st.I no with
  | none=>rfl
  | some e=>
   dsimp only
   split
   ·rfl
   cases st.O e.id with
   | none=>rfl
   | some a=>dsimp only; split <;> rfl
 rw [this]; omega
theorem bd_finish (b:Bd n st) (no s:Int) (bad:Bool):Bd (n+1) (dFinish st no s bad).2:=by
 rcases dFinish_cases st no s bad with⟨c,_,e⟩ | ⟨d,_,_,_,_,_,e⟩
 ·rw [e]; exact b.mono (by omega)
 ·rw [e]
  exact bd_of b (by dsimp only; omega) (by dsimp only; rw [List.length_set]; omega)
theorem bd_reap (b:Bd n st):Bd (n+1) (dReap st).2:=by
 refine bd_of b ?_ (by rw [reap_RLe]; omega)
 unfold dReap
 cases st.RL[st.reaped]? with
 | none=>dsimp only; omega
 | some d=>
  dsimp only
  split
  ·dsimp only; omega
  dsimp only
  cases st.I (st.reaped:Nat) with
  | none=>dsimp only; omega
  | some e=>
   dsimp only
   split
   ·dsimp only; omega
   ·dsimp only
    rw [(dLeave_fields _ _).1]
    exact stAnswer_F _ _ _ _
theorem bd_cancel (b:Bd n st) (id:Int):Bd (n+1) (dCancel st id).2:=by
 refine bd_of b ?_ (by rw [cancel_RLe]; omega)
 unfold dCancel
 split
 ·dsimp only; rw [(dLeave_fields _ _).1]; exact stOut_F _ _ _ _
 ·exact stOut_F _ _ _ _
theorem bd_go (b:Bd n st) (t:Int):Bd (n+1) (dGo st t).2:=by
 refine bd_of b ?_ (by rw [go_RLe]; omega)
 unfold dGo
 rw [foldl_B]
 unfold stGo
 split
 ·dsimp only; omega
 split
 ·dsimp only; omega
 ·simp
theorem startN_len : ∀ (k:Nat) (s:Dv),(dStartN k s).2.RL.length≤s.RL.length+k∧(dStartN k s).2.B=s.B
 | 0,s=>⟨Nat.le_refl _,rfl⟩
 | k+1,s=>by
  unfold dStartN
  cases h:dStart1 s with
  | none=>exact⟨by dsimp only; omega,rfl⟩
  | some p=>
   obtain⟨id,s'⟩:=p
   obtain⟨h1,h2⟩:=startN_len k s'
   have h3:=(dStart1_len h).1
   refine⟨by dsimp only; omega,?_⟩
   dsimp only
   rw [h2]
   unfold dStart1 at h
   split at h
   ·cases h
   split at h
   ·cases h
   simp only at h
   split at h
   ·cases h
   ·simp only [Option.some.injEq,Prod.mk.injEq] at h
    rw [← h.2]
theorem bd_start (b:Bd n st):Bd (n+1) (dStart st).2:=by
 obtain⟨h1,h2⟩:=startN_len 65 st
 exact bd_of b (by unfold dStart; rw [h2]; omega) h1
theorem bd_new {L:List Buf} {size:Nat} {cost:Int} : Bd 0 (dNew L size cost):=⟨Nat.le_refl _,Nat.le_refl _⟩
end
structure Gd (h0:Heap) (db:Nat) (x:DX) (T:Nat→Prop) (tm:List (Nat × Obj)) (h:Heap) (st:Dv):Prop where
 L:Lw db x T h st
 ex:Ext h0 h
 tm : ∀ p∈tm,h[p.1]? = some p.2∧T p.1
 old : ∀ y,y<h0.size→T y
section
variable {h0 h h':Heap} {db:Nat} {x:DX} {T:Nat→Prop} {tm:List (Nat × Obj)} {st st':Dv}
theorem Gd.step (g:Gd h0 db x T tm h st) (L:Lw db x T h' st') (k:Kp T h h'):Gd h0 db x T tm h' st':=
 ⟨L,Kp.ext g.ex k g.old,fun p hp=>⟨k.get (g.tm p hp).1 (g.tm p hp).2,(g.tm p hp).2⟩,g.old⟩
theorem Gd.ext (g:Gd h0 db x T tm h st) (e:Ext h h'):Gd h0 db x T tm h' st:=by
 obtain⟨L,K⟩:=g.L.ext e
 exact g.step (L.sub fun y hy=>.inl hy) K
theorem Gd.get (g:Gd h0 db x T tm h st) {b:Nat} {o:Obj} (hp:(b,o)∈tm):h[b]? = some o:=(g.tm _ hp).1
theorem Gd.to (g:Gd h0 db x T tm h st) (e:st=st'):Gd h0 db x T tm h st':=e ▸ g
theorem gd_new {h1 h2:Heap} (x0:Ext h0 h1) (L:Lw db x (fun y=>y<h1.size) h2 st) (x2:Ext h1 h2) (e:Ext h2 h) (ht : ∀ p∈tm,h[p.1]? = some p.2∧h2.size≤p.1) :
  Gd h0 db x (fun y=>y<h0.size∨∃ p∈tm,p.1=y) tm h st:=by
 obtain⟨L',K⟩:=L.ext e
 refine⟨L'.sub fun y hy=>?_,(x0.trans x2).trans e,fun p hp=>⟨(ht p hp).1,.inr ⟨p,hp,rfl⟩⟩,fun y hy=>.inl hy⟩
 rcases hy with hy | ⟨p,hp,rfl⟩
 ·exact .inl (by have:=x0.1; omega)
 ·exact .inr ⟨(ht p hp).2,lt_of_get (ht p hp).1⟩
end
end Go.Proofs.Vf
namespace Go.Proofs.Vf
open Go Go.Proofs Go.VC
section
variable {st:Dv}
theorem qNext_grp {Q:List Wnt} {hd:Int} {dn:Bool} (ht : ∀ w∈Q,0≤w.track) (h0:(qNext Q hd dn).2.2=0):(qNext Q hd dn).1∈grp Q:=by
 unfold qNext at *
 split at h0
 ·cases h0
 rename_i hne
 rw [if_neg hne]
 have hb:0≤(blw hd (grp Q)).track→blw hd (grp Q)∈grp Q:=fun hp=>by
  rcases blw_mem hd (grp Q) ⟨0,0,-1⟩ with q | q
  ·unfold blw at hp; rw [q] at hp; exact absurd hp (by decide)
  ·exact q
 cases ha:abv hd (grp Q) with
 | none=>
  dsimp only
  apply hb
  obtain⟨a,Q',rfl⟩ : ∃ a Q',Q=a :: Q':=by
   cases Q with
   | nil=>exact absurd rfl hne
   | cons a Q'=>exact⟨a,Q',rfl⟩
  have ga : ∃ G,grp (a :: Q')=a :: G:=by
   refine⟨Q'.takeWhile fun x=>decide (x.dead=a.dead),?_⟩
   show (a :: Q').takeWhile (fun x=>decide (x.dead=a.dead))=_
   rw [List.takeWhile_cons,if_pos (by simp)]
  obtain⟨G,hG⟩:=ga
  rw [hG] at ha ⊢
  unfold abv at ha
  rw [List.find?_eq_none] at ha
  have hlt:=ha a (by simp)
  simp only [decide_eq_true_eq] at hlt
  have h0a:=ht a (by simp)
  unfold blw
  rw [List.foldl_cons,if_pos ⟨by omega,by dsimp only; omega⟩]
  exact Int.le_trans h0a (blw_ge hd G a)
 | some u=>
  dsimp only
  split
  ·rename_i hc
   simp only [Bool.and_eq_true,decide_eq_true_eq] at hc
   exact hb hc.2
  ·exact List.mem_of_find?_eq_some ha
theorem qNext_code {Q:List Wnt} {hd:Int} {dn:Bool} (h:Q≠[]):(qNext Q hd dn).2.2=0:=by
 unfold qNext
 rw [if_neg h]
 cases abv hd (grp Q) with
 | none=>rfl
 | some u=>dsimp only; split <;> rfl
theorem qNext_le {Q:List Wnt} {hd:Int} {dn:Bool} (hs:srtW Q) (ht : ∀ w∈Q,0≤w.track) (h0:(qNext Q hd dn).2.2=0) : ∀ w∈Q,(qNext Q hd dn).1.dead≤w.dead:=by
 have hg:=qNext_grp ht h0
 cases Q with
 | nil=>intro w hw; cases hw
 | cons a Q=>
  have hd':(qNext (a :: Q) hd dn).1.dead=a.dead:=by
   have h2:(qNext (a :: Q) hd dn).1∈(a :: Q).takeWhile (fun x=>decide (x.dead=a.dead)):=hg
   have:=List.all_takeWhile (p:=fun x:Wnt=>decide (x.dead=a.dead)) (l:=a :: Q)
   rw [List.all_eq_true] at this
   have:=this _ h2
   simpa using this
  intro w hw
  rw [hd']
  rcases List.mem_cons.1 hw with rfl | hw
  ·exact Int.le_refl _
  ·have:=(List.pairwise_cons.1 hs).1 w hw
   rw [lessW_iff] at this
   omega
theorem qDrop_len : ∀ {Q:List Wnt} {w:Wnt},w∈Q→(qDrop Q w.id).2.length+1=Q.length:=by
 intro Q w hw
 unfold qDrop
 cases hf:Q.findIdx? (fun x=>decide (x.id=w.id)) with
 | none=>
  rw [List.findIdx?_eq_none_iff] at hf
  have:=hf w hw
  simp at this
 | some i=>
  obtain⟨hi,_⟩:=List.findIdx?_eq_some_iff_getElem.1 hf
  simp only [List.length_append,List.length_take,List.length_drop]
  omega
def dscOf (a:Opn) (id:Int):Dsc:=⟨a.r.op,id,a.r.pc.slot,a.r.pc.gen,a.r.pc.fr,a.r.pc.len,true,false,0⟩
theorem start1_some {id:Int} {s':Dv} (h:dStart1 st=some (id,s')) : ∃ a,(qNext st.Q st.hd st.dn).2.2=0∧id=(qNext st.Q st.hd st.dn).1.id∧st.O id=some a∧st.RL.length - st.reaped≠st.size∧s'.Q=(qDrop st.Q id).2∧s'.RL=st.RL ++ [dscOf a id] ∧
  s'.taken=st.taken∧s'.reaped=st.reaped∧s'.size=st.size∧s'.B=st.B∧s'.P=st.P∧s'.O=updF st.O id (some { a with no:=(st.RL.length:Int) }):=by
 unfold dStart1 at h
 split at h
 ·cases h
 rename_i hq0
 have hq0:(qNext st.Q st.hd st.dn).2.2=0:=by omega
 split at h
 ·cases h
 rename_i a ha
 simp only at h
 split at h
 ·cases h
 rename_i hr
 simp only [Option.some.injEq,Prod.mk.injEq] at h
 obtain⟨rfl,rfl⟩:=h
 have eT:(qTake st.Q st.hd st.dn).2.1=(qDrop st.Q (qNext st.Q st.hd st.dn).1.id).2:=by unfold qTake; rw [if_neg (by omega)]
 have eR:rPut st.size st.RL st.reaped ⟨a.r.op,(qNext st.Q st.hd st.dn).1.id,a.r.pc.slot,a.r.pc.gen,a.r.pc.fr,a.r.pc.len,false,false,0⟩=(((st.RL.length:Int),(0:Int)),st.RL ++ [dscOf a (qNext st.Q st.hd st.dn).1.id])∧st.RL.length - st.reaped≠st.size:=by
  unfold rPut at hr ⊢
  dsimp only at hr ⊢
  split
  ·rename_i q; rw [if_pos q] at hr; exact absurd (by decide:(1:Int)≠0) hr
  ·rename_i q
   rw [if_neg q] at hr
   split
   ·rename_i q; rw [if_pos q] at hr; exact absurd (by decide:(4:Int)≠0) hr
   ·exact⟨rfl,by assumption⟩
 refine⟨a,hq0,rfl,ha,eR.2,eT,?_,rfl,rfl,rfl,rfl,rfl,?_⟩
 ·dsimp only; rw [eR.1]
 ·dsimp only; rw [eR.1]
theorem start1_none (k:DvOk st) (hd : ∀ id a,st.O id=some a→mayD (dscOf a id)=true) (h:dStart1 st=none):st.Q = []∨st.RL.length - st.reaped=st.size:=by
 by_cases hQ:st.Q = []
 ·exact .inl hQ
 right
 have h0:=qNext_code (hd:=st.hd) (dn:=st.dn) hQ
 obtain⟨a,ha,_⟩:=k.qO _ (qNext_mem k.trk h0)
 unfold dStart1 at h
 rw [if_neg (by omega),ha] at h
 simp only at h
 split at h
 ·rename_i hr
  unfold rPut at hr
  dsimp only at hr
  have hm:=hd _ a ha
  unfold dscOf at hm
  rw [hm] at hr
  rw [if_neg (by decide)] at hr
  split at hr
  ·assumption
  ·exact absurd rfl hr
 ·cases h
end
section
variable {st:Dv}
theorem take_O (st:Dv) {id:Int} {y:Opn} (h:(dTake st).2.O id=some y) : ∃ x,st.O id=some x∧y.r=x.r:=by
 unfold dTake at h
 split at h
 ·exact⟨y,h,rfl⟩
 rename_i d hd
 dsimp only at h
 split at h
 ·exact⟨y,h,rfl⟩
 rename_i e he
 split at h
 ·exact⟨y,h,rfl⟩
 ·dsimp only at h
  unfold updF at h
  split at h
  ·rename_i q
   obtain⟨x,hx,rfl⟩:=Option.map_eq_some_iff.1 h
   exact⟨x,by rw [q]; exact hx,rfl⟩
  ·exact⟨y,h,rfl⟩
theorem take_f (st:Dv):(dTake st).2.Q=st.Q∧(dTake st).2.reaped=st.reaped∧(dTake st).2.size=st.size∧(dTake st).2.B=st.B:=by
 unfold dTake
 cases st.RL[st.taken]? with
 | none=>exact⟨rfl,rfl,rfl,rfl⟩
 | some d=>
  dsimp only
  cases st.I (st.taken:Nat) with
  | none=>exact⟨rfl,rfl,rfl,rfl⟩
  | some e=>dsimp only; split <;> exact⟨rfl,rfl,rfl,rfl⟩
end
end Go.Proofs.Vf
namespace Go.Proofs.Vf
open Go Go.Proofs Go.VC
def ordR (ds:Int→Int) (i:Int):Rq:=⟨i,0,10+ds i,i,⟨i,1,0,1⟩⟩
def chainP (ds:Int→Int):Int→List Int→Prop
 | _,[]=>True
 | l,x :: r=>(0≤l→ds l≤ds x)∧(0≤x∧x<4)∧chainP ds x r
def lastOf (l:Int):List Int→Int
 | []=>l
 | x :: r=>lastOf x r
structure OI (ds:Int→Int) (st:Dv) (all:List Int) (last:Int):Prop where
 ok:DvOk st
 rk:RLok st
 sz:1≤st.size
 o : ∀ id x,st.O id=some x→x.r=ordR ds id∧0≤id∧id<4
 rl:st.RL.map (·.req)=all
 cnt:st.Q.length+all.length=4
 la:last = -1∨(0≤last∧last<4∧∀ w∈st.Q,ds last≤ds w.id)
section
variable {ds:Int→Int} {st:Dv} {all:List Int} {last:Int}
theorem OI.q (o:OI ds st all last) {w:Wnt} (hw:w∈st.Q):w.dead=10+ds w.id∧0≤w.id∧w.id<4:=by
 obtain⟨x,x1,x2,x3⟩:=o.ok.qO w hw
 obtain⟨h1,h2⟩:=o.o _ x x1
 rw [h1] at x3
 refine⟨?_,h2⟩
 rw [← x3]; rfl
theorem OI.d (o:OI ds st all last) (_hds : ∀ i,0≤ds i∧ds i<256) : ∀ id a,st.O id=some a→mayD (dscOf a id)=true:=fun id a h=>by
 obtain⟨h1,h2,h3⟩:=o.o id a h
 unfold mayD dscOf
 rw [h1]
 unfold ordR
 dsimp only
 have e1:inD id 65535=true:=by simp [inD]; omega
 rw [e1]; rfl
theorem OI.start1 (o:OI ds st all last) {id:Int} {s':Dv} (h:dStart1 st=some (id,s')):OI ds s' (all ++ [id]) id∧(0≤last→ds last≤ds id)∧0≤id∧id<4∧s'.taken=st.taken∧s'.reaped=st.reaped:=by
 obtain⟨a,a0,a1,a2,a3,a4,a5,a6,a7,a8,a9,a10,a11⟩:=start1_some h
 have hN:=qNext_mem o.ok.trk a0
 obtain⟨q1,q2,q3⟩:=o.q hN
 have hle:=qNext_le o.ok.srt o.ok.trk a0
 have hqe:(qDrop st.Q id).2.length+1=st.Q.length:=by rw [a1]; exact qDrop_len hN
 have hsub:=qDrop_sub st.Q id
 refine⟨{ ok:=start1_ok o.ok h,rk:=start1_RL o.rk h,sz:=by rw [a8]; exact o.sz,o:=fun j y hj=>?_,rl:=?_,cnt:=?_,la:=.inr ⟨by omega,by omega,fun w hw=>?_⟩ },fun hl=>?_,by omega,by omega,a6,a7⟩
 ·rw [a11] at hj
  unfold updF at hj
  split at hj
  ·rename_i e
   cases hj
   rw [e]
   exact o.o id a a2
  ·exact o.o j y hj
 ·rw [a5,List.map_append,o.rl]; rfl
 ·rw [a4,List.length_append,List.length_singleton]
  have:=o.cnt
  omega
 ·rw [a4] at hw
  have h1:=hle w (hsub.subset hw)
  have h2:=o.q (hsub.subset hw)
  rw [a1]
  omega
 ·rcases o.la with q | ⟨_,_,q⟩
  ·omega
  ·have:=q _ hN
   rw [a1]; exact this
theorem OI.startN : ∀ (n:Nat) {st:Dv} {all:List Int} {last:Int},OI ds st all last→(∀ i,0≤ds i∧ds i<256)→st.Q.length<n →
  OI ds (dStartN n st).2 (all ++ (dStartN n st).1) (lastOf last (dStartN n st).1)∧chainP ds last (dStartN n st).1∧(dStartN n st).2.taken=st.taken∧(dStartN n st).2.reaped=st.reaped∧((dStartN n st).2.Q = []∨(dStartN n st).2.RL.length - st.reaped=(dStartN n st).2.size)
 | 0,st,all,last,o,hds,hn=>by omega
 | n+1,st,all,last,o,hds,hn=>by
  unfold dStartN
  cases h:dStart1 st with
  | none=>
   dsimp only
   rw [List.append_nil]
   exact⟨o,trivial,rfl,rfl,start1_none o.ok (o.d hds) h⟩
  | some p=>
   obtain⟨id,s'⟩:=p
   dsimp only
   obtain⟨o1,c1,c2,c3,c4,c5⟩:=o.start1 h
   have hq:s'.Q.length<n:=by
    have h1:=o.cnt
    have h2:=o1.cnt
    rw [List.length_append,List.length_singleton] at h2
    omega
   obtain⟨r1,r2,r3,r4,r5⟩:=OI.startN n o1 hds hq
   rw [List.append_assoc] at r1
   exact⟨r1,⟨c1,⟨c2,c3⟩,r2⟩,r3.trans c4,r4.trans c5,by rw [c5] at r5; exact r5⟩
theorem OI.start (o:OI ds st all last) (hds : ∀ i,0≤ds i∧ds i<256) :
  OI ds (dStart st).2 (all ++ (dStart st).1) (lastOf last (dStart st).1)∧chainP ds last (dStart st).1∧(dStart st).2.taken=st.taken∧(dStart st).2.reaped=st.reaped∧((dStart st).2.Q = []∨(dStart st).2.RL.length - st.reaped=(dStart st).2.size):=by
 refine OI.startN 65 o hds ?_
 have:=o.cnt
 omega
end
end Go.Proofs.Vf
namespace Go.Proofs.Vf
open Go Go.Proofs Go.VC
section
variable {st:Dv}
theorem submit_good (r:Rq) {b:Buf} (hb:bufAt st.P r.pc.slot r.pc.gen=some b) (ho:b.owner=1) (hp:0≤r.pc.fr∧1≤r.pc.len∧r.pc.fr+r.pc.len≤b.b.length) (hop:0≤r.op∧r.op≤15) (hfr:r.pc.fr≤65535) (hm:mayW (wantOf r)=true)
  (hr:inRing st r.id=false) (hl0:look st.B.L r.id=none) (hq:st.Q.length<64) (hl:st.B.L.length<64) (ht:st.B.now+st.B.cost<r.dead):(dSubmit st r).1=0:=by
 have hok:argOk st r=true:=by
  unfold argOk mayP
  rw [hb]
  dsimp only
  rw [hm,decide_eq_true (by omega),decide_eq_false (by omega),decide_eq_false (by omega),decide_eq_false (by omega)]
  rfl
 have hm2:=hm
 unfold mayW at hm2
 simp only [Bool.and_eq_true,decide_eq_true_eq] at hm2
 have e:wantOf r=⟨r.id,r.dead,r.track⟩:=rfl
 rw [e] at hm2
 dsimp only at hm2
 have hso:(stOpen st.B r.id r.dead).1=0:=by
  unfold stOpen
  rw [if_neg (by omega),if_neg (by omega),hl0,if_neg (by decide),if_neg (by omega),if_neg (by omega)]
 unfold dSubmit
 rw [if_neg (by rw [hok]; decide)]
 have hpo:(pOwner st.P r.pc.slot r.pc.gen).1=1:=by unfold pOwner; rw [hb]; exact ho
 rw [if_neg (fun q=>q hpo),if_neg (by rw [hr]; decide),if_neg (by omega),if_neg (fun q=>q hso)]
end
structure OS (ds:Int→Int) (i:Nat) (sz:Nat) (st:Dv):Prop where
 ok:DvOk st
 rk:RLok st
 sz:st.size=sz
 o : ∀ id x,st.O id=some x→x.r=ordR ds id∧0≤id∧id<i
 rl:st.RL = []
 tk:st.taken=0∧st.reaped=0
 q:st.Q.length=i
 bl:st.B.L.length=i
 bt:st.B.now=0∧st.B.cost=5
 p : ∀ j:Nat,i≤j→j<4→∃ b,bufAt st.P j 1=some b∧b.owner=1∧1≤b.b.length
section
variable {ds:Int→Int} {st:Dv} {i sz:Nat}
theorem insW_len (w:Wnt) (Q:List Wnt):(insW w Q).length=Q.length+1:=(insW_perm w Q).length_eq
theorem OS.submit (o:OS ds i sz st) (hds : ∀ i,0≤ds i∧ds i<256) (hi:i<4):(dSubmit st (ordR ds i)).1=0∧OS ds (i+1) sz (dSubmit st (ordR ds i)).2:=by
 have hd:=hds i
 obtain⟨b,b1,b2,b3⟩:=o.p i (Nat.le_refl _) hi
 have hl0:look st.B.L (ordR ds i).id=none:=by
  cases h:look st.B.L (ordR ds i).id with
  | none=>rfl
  | some d=>
   obtain⟨y,y1,_⟩:=o.ok.oB _ d h
   have:=o.o _ y y1
   have e:(ordR ds i).id=i:=rfl
   omega
 have hr:inRing st (ordR ds i).id=false:=by unfold inRing; rw [o.rl]; simp
 have hm:mayW (wantOf (ordR ds i))=true:=by
  unfold mayW wantOf ordR
  dsimp only
  simp only [Bool.and_eq_true,decide_eq_true_eq]
  omega
 have hg:(dSubmit st (ordR ds i)).1=0:=submit_good (ordR ds i) b1 b2 ⟨by show (0:Int)≤0; omega,by show (1:Int)≤1; omega,by show (0:Int)+1≤b.b.length; omega⟩ ⟨by show (0:Int)≤0; omega,by show (0:Int)≤15; omega⟩ (by show (0:Int)≤65535; omega) hm hr hl0 (by rw [o.q]; omega) (by rw [o.bl]; omega) (by rw [o.bt.1,o.bt.2]; show 0+5<10+ds i; omega)
 refine⟨hg,?_⟩
 have k:=submit_ok o.ok (ordR ds i)
 have rk:=rlok_of o.rk (submit_RLe st (ordR ds i))
 rcases dSubmit_cases o.ok (ordR ds i) with⟨c,hc,e⟩ | ⟨b',_,hb',ho',_,_,_,_,_,_,_,hO,_,_,_,e⟩
 ·rw [e] at hg; exact absurd hg hc
 rw [e] at k rk ⊢
 exact
 {ok:=k,rk:=rk,sz:=o.sz
  o:=fun id x hx=>by
   dsimp only at hx
   unfold updF at hx
   split at hx
   ·rename_i q
    cases hx
    have e:(ordR ds i).id=i:=rfl
    rw [q,e]
    exact⟨rfl,by omega,by omega⟩
   ·obtain⟨h1,h2,h3⟩:=o.o id x hx
    exact⟨h1,h2,by omega⟩
  rl:=o.rl,tk:=o.tk
  q:=by dsimp only; rw [insW_len,o.q]
  bl:=by dsimp only; rw [ins_length,o.bl]
  bt:=o.bt
  p:=fun j h1 h2=>by
   obtain⟨c,c1,c2⟩:=o.p j (by omega) h2
   refine⟨c,?_,c2⟩
   dsimp only
   rw [bufAt_give hb' ho' (by omega) (by omega) (by omega),if_neg]
   ·exact c1
   ·intro q
    have e:(ordR ds i).pc.slot=i:=rfl
    rw [e] at q
    omega }
theorem OS.new:OS ds 0 sz (dNew gotL sz 5):=
 {ok:=new_ok gotL_own (by omega),rk:=fun n d h=>by simp [dNew] at h,sz:=rfl,o:=fun _ _ h=>(by cases h),rl:=rfl,tk:=⟨rfl,rfl⟩,q:=rfl,bl:=rfl,bt:=⟨rfl,rfl⟩
  p:=fun j _ h=>by
   have:j=0∨j=1∨j=2∨j=3:=by omega
   rcases this with rfl | rfl | rfl | rfl
   ·exact⟨⟨1,1,1,z8⟩,rfl,rfl,by decide⟩
   ·exact⟨⟨1,1,1,z8⟩,rfl,rfl,by decide⟩
   ·exact⟨⟨1,1,1,z8⟩,rfl,rfl,by decide⟩
   ·exact⟨⟨1,1,1,z20⟩,rfl,rfl,by decide⟩ }
end
end Go.Proofs.Vf
namespace Go.Proofs.Vf
open Go Go.Proofs Go.VC
def PZ (P:List Buf):Prop:=∀ j:Nat,j<4→∃ b,bufAt P j 1=some b∧b.b[0]? = some 0∧2≤b.b.length∧(b.owner=1∨b.owner=2∨b.owner=3)
theorem pz_give {P:List Buf} (h:PZ P) (s g fr to:Int) (ht:1≤to∧to≤3):PZ (pGive P s g fr to).2:=by
 unfold pGive
 cases hb:bufAt P s g with
 | none=>exact h
 | some b=>
  dsimp only
  split
  ·exact h
  split
  ·exact h
  obtain⟨q1,q2,q3,q4,q5⟩:=bufAt_some hb
  intro j hj
  obtain⟨c,c1,c2,c3,c4⟩:=h j hj
  dsimp only
  rw [bufAt_set q3 (b':={ b with owner:=to }) rfl q4 (by dsimp only; omega)]
  split
  ·rename_i hq
   have:bufAt P j 1=some b:=by
    have e:(j:Int)=s:=by omega
    rw [e,hq.2,q5]; exact hb
   rw [this] at c1; cases c1
   exact⟨_,rfl,c2,c3,by dsimp only; omega⟩
  ·exact⟨c,c1,c2,c3,c4⟩
theorem pz_leave {st:Dv} (h:PZ st.P) (id:Int):PZ (dLeave st id).P:=by
 unfold dLeave
 split
 ·exact h
 ·exact pz_give h _ _ _ _ (by omega)
theorem pz_fold : ∀ (l:List Fate) {st:Dv},PZ st.P→PZ (l.foldl goStep st).P
 | [],_,h=>h
 | f :: l,st,h=>by
  rw [List.foldl_cons]
  refine pz_fold l ?_
  unfold goStep
  split
  ·exact h
  ·exact pz_leave h f.id
theorem pz_take {st:Dv} (h:PZ st.P):PZ (dTake st).2.P:=by
 unfold dTake
 cases st.RL[st.taken]? with
 | none=>exact h
 | some d=>
  dsimp only
  cases st.I (st.taken:Nat) with
  | none=>exact h
  | some e=>
   dsimp only
   split
   ·exact h
   ·exact pz_give h _ _ _ _ (by omega)
theorem pz_got:PZ gotL:=fun j h=>by
 have:j=0∨j=1∨j=2∨j=3:=by omega
 rcases this with rfl | rfl | rfl | rfl
 ·exact⟨⟨1,1,1,z8⟩,rfl,rfl,by decide,.inl rfl⟩
 ·exact⟨⟨1,1,1,z8⟩,rfl,rfl,by decide,.inl rfl⟩
 ·exact⟨⟨1,1,1,z8⟩,rfl,rfl,by decide,.inl rfl⟩
 ·exact⟨⟨1,1,1,z20⟩,rfl,rfl,by decide,.inl rfl⟩
structure SA (n:Nat) (i:Int) (st:Dv):Prop where
 ok:DvOk st
 rk:RLok st
 pz:PZ st.P
 f:st.B.F = []
 c:st.B.cost=5∧st.B.now=0
 len:st.B.L.length=n
 dead : ∀ y∈st.B.L,y.dead=30
 o : ∀ id x,st.O id=some x→0≤id∧id<i
 rl : ∀ d∈st.RL,0≤d.req∧d.req<20∧d.done=false
 rp:st.reaped=0
section
variable {n:Nat} {i:Int} {st:Dv}
def silR (i s:Int):Rq:=⟨i,0,30,0,⟨s,1,0,2⟩⟩
theorem SA.submit (a:SA n i st) (h0:0≤i) (s:Int):((dSubmit st (silR i s)).1=0∧SA (n+1) (i+1) (dSubmit st (silR i s)).2)∨((dSubmit st (silR i s)).1≠0∧SA n (i+1) (dSubmit st (silR i s)).2):=by
 have k:=submit_ok a.ok (silR i s)
 have rk:=rlok_of a.rk (submit_RLe st (silR i s))
 rcases dSubmit_cases a.ok (silR i s) with⟨c,hc,e⟩ | ⟨b',_,hb',ho',_,_,_,_,_,_,_,hO,_,_,_,e⟩
 ·right
  rw [e]
  exact⟨hc,{ a with o:=fun id x h=>by have:=a.o id x h; omega }⟩
 ·left
  rw [e] at k rk ⊢
  have ei:(silR i s).id=i:=rfl
  exact⟨rfl,
  {ok:=k,rk:=rk,pz:=pz_give a.pz _ _ _ _ (by omega),f:=a.f,c:=a.c
   len:=by dsimp only; rw [ins_length,a.len]
   dead:=fun y hy=>by
    rcases mem_ins.1 hy with rfl | hy
    ·rfl
    ·exact a.dead y hy
   o:=fun id x hx=>by
    dsimp only at hx
    unfold updF at hx
    split at hx
    ·omega
    ·have:=a.o id x hx; omega
   rl:=a.rl,rp:=a.rp }⟩
theorem SA.start1 (a:SA n i st) (h:i≤20) {id:Int} {s':Dv} (hs:dStart1 st=some (id,s')):SA n i s'∧s'.taken=st.taken:=by
 obtain⟨w,a0,a1,a2,a3,a4,a5,a6,a7,a8,a9,a10,a11⟩:=start1_some hs
 have hi:=a.o id w a2
 refine⟨{ ok:=start1_ok a.ok hs,rk:=start1_RL a.rk hs,pz:=by rw [a10]; exact a.pz,f:=by rw [a9]; exact a.f,c:=by rw [a9]; exact a.c,len:=by rw [a9]; exact a.len,dead:=by rw [a9]; exact a.dead,o:=fun j y hj=>?_,rl:=fun d hd=>?_,rp:=by rw [a7]; exact a.rp },a6⟩
 ·rw [a11] at hj
  unfold updF at hj
  split at hj
  ·omega
  ·exact a.o j y hj
 ·rw [a5] at hd
  rcases List.mem_append.1 hd with hd | hd
  ·exact a.rl d hd
  ·rw [List.mem_singleton] at hd
   rw [hd]
   unfold dscOf
   dsimp only
   exact⟨hi.1,by omega,rfl⟩
theorem SA.startN : ∀ (m:Nat) {st:Dv},SA n i st→i≤20→SA n i (dStartN m st).2∧(dStartN m st).2.taken=st.taken
 | 0,st,a,h=>⟨a,rfl⟩
 | m+1,st,a,h=>by
  unfold dStartN
  cases hs:dStart1 st with
  | none=>exact⟨a,rfl⟩
  | some p=>
   obtain⟨b1,b2⟩:=a.start1 h hs
   obtain⟨c1,c2⟩:=SA.startN m b1 h
   exact⟨c1,c2.trans b2⟩
theorem SA.take (a:SA n i st):SA n i (dTake st).2:=by
 obtain⟨f1,f2,f3,f4⟩:=take_f st
 exact
 {ok:=take_ok a.ok,rk:=rlok_of a.rk (take_RLe st),pz:=pz_take a.pz,f:=by rw [f4]; exact a.f,c:=by rw [f4]; exact a.c,len:=by rw [f4]; exact a.len,dead:=by rw [f4]; exact a.dead
  o:=fun j y hj=>by
   obtain⟨x,hx,_⟩:=take_O st hj
   exact a.o j x hx
  rl:=by rw [take_RLe]; exact a.rl
  rp:=by rw [f2]; exact a.rp }
theorem SA.new {sz:Nat} : SA 0 0 (dNew gotL sz 5):=
 {ok:=new_ok gotL_own (by omega),rk:=fun n d h=>by simp [dNew] at h,pz:=pz_got,f:=rfl,c:=⟨rfl,rfl⟩,len:=rfl,dead:=fun y hy=>(by cases hy),o:=fun _ _ h=>(by cases h),rl:=fun d hd=>(by cases hd),rp:=rfl }
structure SC (t i:Nat) (st:Dv):Prop where
 ok:DvOk st
 rk:RLok st
 pz:PZ st.P
 b:st.B=⟨5,25,[],[]⟩
 o : ∀ id,st.O id=none
 rl : ∀ d∈st.RL,0≤d.req∧d.req<20
 dn : ∀ (j:Nat) d,i≤j→st.RL[j]? = some d→d.done=false
 tk:st.taken=t∧st.reaped=0
theorem go_taken (st:Dv) (t:Int):(dGo st t).2.taken=st.taken∧(dGo st t).2.reaped=st.reaped:=by
 unfold dGo
 dsimp only
 have : ∀ (l:List Fate) (s:Dv),(l.foldl goStep s).taken=s.taken∧(l.foldl goStep s).reaped=s.reaped:=fun l=>by
  induction l with
  | nil=>exact fun s=>⟨rfl,rfl⟩
  | cons f l ih=>
   intro s
   rw [List.foldl_cons]
   obtain⟨h1,h2⟩:=ih (goStep s f)
   rw [h1,h2]
   unfold goStep; split
   ·exact⟨rfl,rfl⟩
   ·exact⟨(dLeave_fields _ _).2.2.1,(dLeave_fields _ _).2.2.2.1⟩
 exact this _ _
theorem SA.go (a:SA n i st):(dGo st 25).1=(0,st.B.L.map byTime)∧SC st.taken 0 (dGo st 25).2:=by
 have hd : ∀ y∈st.B.L,dueBy st.B.cost 25 y=true:=fun y hy=>by
  unfold dueBy; rw [a.c.1,a.dead y hy]; decide
 have e:stGo st.B 25=(0,st.B.L.map byTime,⟨5,25,[],[]⟩):=by
  unfold stGo
  rw [if_neg (by omega),if_neg (by rw [a.c.2]; omega),a.f,List.nil_append,List.filter_eq_self.2 hd]
  have:st.B.L.filter (fun x=>!dueBy st.B.cost 25 x) = []:=List.filter_eq_nil_iff.2 fun y hy=>by rw [hd y hy]; decide
  rw [this,a.c.1]
 have hB:(dGo st 25).2.B=⟨5,25,[],[]⟩:=by
  unfold dGo; rw [foldl_B,e]
 have k:=go_ok a.ok (show (0:Int)≤25 by decide)
 obtain⟨t1,t2⟩:=go_taken st 25
 refine⟨by unfold dGo; rw [e],{ ok:=k,rk:=rlok_of a.rk (go_RLe st 25),pz:=?_,b:=hB,o:=fun id=>?_,rl:=?_,dn:=fun j d _ h=>?_,tk:=⟨t1,t2.trans a.rp⟩ }⟩
 ·unfold dGo
  exact pz_fold _ a.pz
 ·cases h:(dGo st 25).2.O id with
  | none=>rfl
  | some x=>
   rcases k.oE id x h with q | q
   ·rw [hB] at q; simp [look] at q
   ·exact q.elim
 ·rw [go_RLe]; exact fun d hd=>⟨(a.rl d hd).1,(a.rl d hd).2.1⟩
 ·rw [go_RLe] at h
  exact (a.rl d (List.mem_of_getElem? h)).2.2
end
section
variable {t i:Nat} {st:Dv}
theorem SC.void (s:SC t i st) {k:Int} {e:Ent} (h:st.I k=some e):e.void=true:=by
 obtain⟨n,rfl,_,_⟩:=(s.ok.iR k).1 (by rw [h]; rfl)
 obtain⟨d,_,_,_,_,g⟩:=s.ok.iE n e h
 cases hv:e.void with
 | true=>rfl
 | false=>
  obtain⟨x,x1,_⟩:=g hv
  rw [s.o] at x1; cases x1
theorem SC.write (s:SC t i st) (_hi:i<t) (bs:List Int):dWrite st (i:Nat) 0 bs=(12,st):=by
 unfold dWrite
 cases he:st.I (i:Nat) with
 | none=>rfl
 | some e=>
  dsimp only
  rw [if_pos (by rw [s.void he]; simp)]
theorem SC.finish (s:SC t i st) (hi:i<t):(dFinish st (i:Nat) 1 false).1=0∧SC t (i+1) (dFinish st (i:Nat) 1 false).2:=by
 have hrt:=s.ok.rt
 have hlt:i<st.RL.length:=by have:=s.tk.1; omega
 have k:=finish_ok s.ok (i:Nat) 1 false
 have rk:=finish_RL s.rk (i:Nat) 1 false
 have hdn:=s.dn i _ (Nat.le_refl _) (List.getElem?_eq_getElem hlt)
 have e0:((i:Nat):Int).toNat=i:=by omega
 rcases dFinish_cases st (i:Nat) 1 false with⟨c,hc,e⟩ | ⟨d,h1,h2,h3,hd,hd2,e⟩
 ·exfalso
  have e2:rFinish st.RL st.taken st.reaped (i:Nat) 1=(0,st.RL.set i { st.RL[i] with dev:=false,done:=true,st:=1 }):=by
   unfold rFinish
   rw [if_neg (by omega),if_neg (by have:=s.tk; omega),e0,List.getElem?_eq_getElem hlt]
   dsimp only
   rw [if_neg (by rw [hdn]; decide)]
  unfold dFinish at e
  rw [e2] at e
  simp at e
  exact hc e.1.symm
 ·rw [e] at k rk ⊢
  rw [e0] at hd
  refine⟨rfl,{ ok:=k,rk:=rk,pz:=s.pz,b:=s.b,o:=s.o,rl:=fun d' hd'=>?_,dn:=fun j d' hj h=>?_,tk:=s.tk }⟩
  ·dsimp only at hd'
   rw [e0] at hd'
   rcases List.mem_or_eq_of_mem_set hd' with q | q
   ·exact s.rl d' q
   ·rw [q]; exact s.rl d (List.mem_of_getElem? hd)
  ·dsimp only at h
   rw [e0,List.getElem?_set_ne (by omega)] at h
   exact s.dn j d' (by omega) h
structure SE (i:Nat) (st:Dv):Prop where
 ok:DvOk st
 rk:RLok st
 pz:PZ st.P
 own : ∀ j:Nat,i≤j→j<4→∃ b,bufAt st.P j 1=some b∧b.owner=1
 b:st.B.cost=5∧st.B.now=25∧st.B.F = []∧st.B.L.length=i∧∀ y∈st.B.L,y.dead=60
 o : ∀ id x,st.O id=some x→50≤id∧id<50+i
 q:st.Q.length=i
 rl : ∀ d∈st.RL,0≤d.req∧d.req<20
 vd : ∀ k e,st.I k=some e→e.void=true
def sil2 (i:Int):Rq:=⟨50+i,0,60,0,⟨i,1,0,1⟩⟩
theorem SE.submit (s:SE i st) (hi:i<4):(dSubmit st (sil2 i)).1=0∧SE (i+1) (dSubmit st (sil2 i)).2:=by
 obtain⟨b,b1,b2⟩:=s.own i (Nat.le_refl _) hi
 obtain⟨b',c1,_,c3,_⟩:=s.pz i hi
 rw [b1] at c1; cases c1
 obtain⟨q1,q2,q3,q4,q5⟩:=s.b
 have ei:(sil2 (i:Nat)).id=50+(i:Int):=rfl
 have hl0:look st.B.L (sil2 (i:Nat)).id=none:=by
  cases h:look st.B.L (sil2 (i:Nat)).id with
  | none=>rfl
  | some d=>
   obtain⟨y,y1,_⟩:=s.ok.oB _ d h
   have:=s.o _ y y1
   omega
 have hr:inRing st (sil2 (i:Nat)).id=false:=by
  cases h:inRing st (sil2 (i:Nat)).id with
  | false=>rfl
  | true=>
   unfold inRing at h
   rw [List.any_eq_true] at h
   obtain⟨d,hd,he⟩:=h
   have:=s.rl d (List.mem_of_mem_drop hd)
   rw [decide_eq_true_eq] at he
   omega
 have hm:mayW (wantOf (sil2 (i:Nat)))=true:=by
  unfold mayW wantOf sil2
  dsimp only
  simp only [Bool.and_eq_true,decide_eq_true_eq]
  omega
 have hg:(dSubmit st (sil2 (i:Nat))).1=0:=submit_good (sil2 (i:Nat)) b1 b2 ⟨by show (0:Int)≤0; omega,by show (1:Int)≤1; omega,by show (0:Int)+1≤b.b.length; omega⟩ ⟨by show (0:Int)≤0; omega,by show (0:Int)≤15; omega⟩ (by show (0:Int)≤65535; omega) hm hr hl0 (by rw [s.q]; omega) (by omega) (by rw [q1,q2]; show (25:Int)+5<60; omega)
 refine⟨hg,?_⟩
 have k:=submit_ok s.ok (sil2 (i:Nat))
 have rk:=rlok_of s.rk (submit_RLe st (sil2 (i:Nat)))
 rcases dSubmit_cases s.ok (sil2 (i:Nat)) with⟨c,hc,e⟩ | ⟨b',_,hb',ho',_,_,_,_,_,_,_,hO,_,_,_,e⟩
 ·rw [e] at hg; exact absurd hg hc
 rw [e] at k rk ⊢
 exact
 {ok:=k,rk:=rk,pz:=pz_give s.pz _ _ _ _ (by omega)
  own:=fun j h1 h2=>by
   obtain⟨c,c1,c2⟩:=s.own j (by omega) h2
   refine⟨c,?_,c2⟩
   dsimp only
   rw [bufAt_give hb' ho' (by omega) (by omega) (by omega),if_neg]
   ·exact c1
   ·intro q
    have e:(sil2 (i:Nat)).pc.slot=i:=rfl
    rw [e] at q
    omega
  b:=⟨q1,q2,q3,by dsimp only; rw [ins_length,q4],fun y hy=>by
   rcases mem_ins.1 hy with rfl | hy
   ·rfl
   ·exact q5 y hy⟩
  o:=fun id x hx=>by
   dsimp only at hx
   unfold updF at hx
   split at hx
   ·omega
   ·have:=s.o id x hx; omega
  q:=by dsimp only; rw [insW_len,s.q]
  rl:=s.rl
  vd:=s.vd }
theorem SE.reap (s:SE i st):SE i (dReap st).2:=by
 have k:=reap_ok s.ok s.rk
 have rk:=rlok_of s.rk (reap_RLe st)
 have e:(dReap st).2.P=st.P∧(dReap st).2.B=st.B∧(dReap st).2.O=st.O∧(dReap st).2.Q=st.Q∧(∀ k e,(dReap st).2.I k=some e→e.void=true):=by
  unfold dReap
  cases st.RL[st.reaped]? with
  | none=>exact⟨rfl,rfl,rfl,rfl,s.vd⟩
  | some d=>
   dsimp only
   split
   ·exact⟨rfl,rfl,rfl,rfl,s.vd⟩
   dsimp only
   cases he:st.I (st.reaped:Nat) with
   | none=>exact⟨rfl,rfl,rfl,rfl,s.vd⟩
   | some e=>
    dsimp only
    rw [if_pos (s.vd _ e he)]
    refine⟨rfl,rfl,rfl,rfl,fun k e h=>?_⟩
    dsimp only at h
    unfold updF at h
    split at h
    ·cases h
    ·exact s.vd k e h
 obtain⟨e1,e2,e3,e4,e5⟩:=e
 exact { ok:=k,rk:=rk,pz:=by rw [e1]; exact s.pz,own:=by rw [e1]; exact s.own,b:=by rw [e2]; exact s.b,o:=by rw [e3]; exact s.o,q:=by rw [e4]; exact s.q,rl:=by rw [reap_RLe]; exact s.rl,vd:=e5 }
theorem SE.go (s:SE i st):(dGo st 26).1=(0,[]):=by
 obtain⟨q1,q2,q3,q4,q5⟩:=s.b
 have:stGo st.B 26=(0,[],(stGo st.B 26).2.2):=by
  unfold stGo
  rw [if_neg (by omega),if_neg (by rw [q2]; omega),q3,List.nil_append]
  have:st.B.L.filter (dueBy st.B.cost 26) = []:=List.filter_eq_nil_iff.2 fun y hy=>by
   unfold dueBy; rw [q1,q5 y hy]; decide
  rw [this]; rfl
 unfold dGo
 rw [this]
end
end Go.Proofs.Vf
namespace Go.Proofs.Vf
open Go Go.Proofs Go.VC
def PQ (w:Bool) (P P':List Buf):Prop:=∀ j:Nat,j<4→∃ b b',bufAt P j 1=some b∧bufAt P' j 1=some b'∧(b'.b=b.b∨(w=true∧b.owner=3))∧b'.b.length=b.b.length∧(b'.owner=1∨b'.owner=2∨b'.owner=3)
def PG (P:List Buf):Prop:=∀ j:Nat,j<4→∃ b,bufAt P j 1=some b∧(b.owner=1∨b.owner=2∨b.owner=3)
theorem PQ.pg {w:Bool} {P P':List Buf} (q:PQ w P P'):PG P':=fun j hj=>by
 obtain⟨b,b',_,h2,_,_,h5⟩:=q j hj
 exact⟨b',h2,h5⟩
theorem PG.refl {w:Bool} {P:List Buf} (g:PG P):PQ w P P:=fun j hj=>by
 obtain⟨b,h1,h2⟩:=g j hj
 exact⟨b,b,h1,h1,.inl rfl,rfl,h2⟩
theorem PQ.trans {P P' P'':List Buf} (q:PQ false P P') (r:PQ false P' P''):PQ false P P'':=fun j hj=>by
 obtain⟨b,b',h1,h2,h3,h4,_⟩:=q j hj
 obtain⟨c,c',g1,g2,g3,g4,g5⟩:=r j hj
 rw [h2] at g1; cases g1
 refine⟨b,c',h1,g2,.inl ?_,g4.trans h4,g5⟩
 rcases h3 with h | h
 ·rcases g3 with g | g
  ·exact g.trans h
  ·cases g.1
 ·cases h.1
theorem PQ.or {w:Bool} {P P':List Buf} (q:PQ false P P'):PQ w P P':=fun j hj=>by
 obtain⟨b,b',h1,h2,h3,h4⟩:=q j hj
 refine⟨b,b',h1,h2,?_,h4⟩
 rcases h3 with h | h
 ·exact .inl h
 ·cases h.1
theorem pq_set {w:Bool} {P:List Buf} (g:PG P) {s gg:Int} {b b':Buf} (hb:bufAt P s gg=some b) (e1:b'.gen=b.gen) (e2:b'.b=b.b∨(w=true∧b.owner=3)) (e3:b'.b.length=b.b.length) (e4:b'.owner=1∨b'.owner=2∨b'.owner=3):PQ w P (P.set s.toNat b'):=fun j hj=>by
 obtain⟨q1,q2,q3,q4,q5⟩:=bufAt_some hb
 obtain⟨c,c1,c2⟩:=g j hj
 rw [bufAt_set q3 e1 q4 (by omega)]
 split
 ·rename_i hq
  have:bufAt P j 1=some b:=by
   have e:(j:Int)=s:=by omega
   rw [e,hq.2,q5]; exact hb
  rw [this] at c1; cases c1
  exact⟨_,_,this,rfl,e2,e3,e4⟩
 ·exact⟨c,c,c1,c1,.inl rfl,rfl,c2⟩
theorem pq_give {P:List Buf} (g:PG P) (s gg fr to:Int) (ht:1≤to∧to≤3):PQ false P (pGive P s gg fr to).2:=by
 unfold pGive
 cases hb:bufAt P s gg with
 | none=>exact g.refl
 | some b=>
  dsimp only
  split
  ·exact g.refl
  split
  ·exact g.refl
  exact pq_set g hb rfl (.inl rfl) rfl (by dsimp only; omega)
section
variable {st:Dv}
theorem pq_leave (g:PG st.P) (id:Int):PQ false st.P (dLeave st id).P:=by
 unfold dLeave
 split
 ·exact g.refl
 ·exact pq_give g _ _ _ _ (by omega)
theorem pq_fold : ∀ (l:List Fate) {st:Dv},PG st.P→PQ false st.P (l.foldl goStep st).P
 | [],_,g=>g.refl
 | f :: l,st,g=>by
  have h1:PQ false st.P (goStep st f).P:=by
   unfold goStep
   split
   ·exact g.refl
   ·exact pq_leave g f.id
  exact h1.trans (pq_fold l h1.pg)
theorem pq_take (g:PG st.P):PQ false st.P (dTake st).2.P:=by
 unfold dTake
 cases st.RL[st.taken]? with
 | none=>exact g.refl
 | some d=>
  dsimp only
  cases st.I (st.taken:Nat) with
  | none=>exact g.refl
  | some e=>
   dsimp only
   split
   ·exact g.refl
   ·exact pq_give g _ _ _ _ (by omega)
theorem pq_write (g:PG st.P) (no at_:Int) (bs:List Int):PQ true st.P (dWrite st no at_ bs).2.P:=by
 unfold dWrite
 cases st.I no with
 | none=>exact g.refl
 | some e=>
  dsimp only
  split
  ·exact g.refl
  cases st.O e.id with
  | none=>exact g.refl
  | some a=>
   dsimp only
   split
   ·exact g.refl
   dsimp only
   unfold pWrite
   cases hb:bufAt st.P a.r.pc.slot a.r.pc.gen with
   | none=>exact g.refl
   | some b=>
    dsimp only
    split
    ·exact g.refl
    split
    ·exact g.refl
    split
    ·exact g.refl
    rename_i c1 c2 c3
    dsimp only
    refine pq_set g hb rfl (.inr ⟨rfl,by omega⟩) ?_ ?_
    ·dsimp only
     rw [splice_length (by omega)]
    ·dsimp only; omega
theorem pq_reap (g:PG st.P):PQ false st.P (dReap st).2.P:=by
 unfold dReap
 cases st.RL[st.reaped]? with
 | none=>exact g.refl
 | some d=>
  dsimp only
  split
  ·exact g.refl
  dsimp only
  cases st.I (st.reaped:Nat) with
  | none=>exact g.refl
  | some e=>
   dsimp only
   split
   ·exact g.refl
   ·exact pq_leave (st:={ st with reaped:=st.reaped+1,B:=(stAnswer st.B e.id d.st e.bad).2 }) g e.id
theorem pq_cancel (g:PG st.P) (id:Int):PQ false st.P (dCancel st id).2.P:=by
 unfold dCancel
 split
 ·exact pq_leave (st:={ st with B:=(stCancel st.B id).2 }) g id
 ·exact g.refl
theorem pq_go (g:PG st.P) (t:Int):PQ false st.P (dGo st t).2.P:=by
 unfold dGo
 exact pq_fold _ (st:={ st with B:=(stGo st.B t).2.2 }) g
theorem startN_P : ∀ (n:Nat) (s:Dv),(dStartN n s).2.P=s.P
 | 0,s=>rfl
 | n+1,s=>by
  unfold dStartN
  cases h:dStart1 s with
  | none=>rfl
  | some p=>
   obtain⟨id,s'⟩:=p
   obtain⟨_,_,_,_,_,_,_,_,_,_,_,h10,_⟩:=start1_some h
   dsimp only
   rw [startN_P n s',h10]
theorem write_B (st:Dv) (no at_:Int) (bs:List Int):(dWrite st no at_ bs).2.B=st.B:=by
 unfold dWrite
 cases st.I no with
 | none=>rfl
 | some e=>
  dsimp only
  split
  ·rfl
  cases st.O e.id with
  | none=>rfl
  | some a=>dsimp only; split <;> rfl
theorem finish_BP (st:Dv) (no s:Int) (bad:Bool):(dFinish st no s bad).2.B=st.B∧(dFinish st no s bad).2.P=st.P:=by
 unfold dFinish; split <;> exact⟨rfl,rfl⟩
theorem del_len : ∀ {L:List One} {id:Int},(L.map (·.id)).Nodup→(look L id).isSome=true→(del id L).length+1=L.length
 | [],id,_,h=>by simp [look] at h
 | a :: L,id,hn,h=>by
  rw [List.map_cons,List.nodup_cons] at hn
  by_cases q:a.id=id
  ·have e:del id (a :: L)=L:=by
    unfold del
    rw [List.filter_cons,if_neg (by simp [q])]
    refine List.filter_eq_self.2 fun y hy=>?_
    have:y.id≠id:=fun e=>hn.1 (by rw [q,← e]; exact List.mem_map_of_mem hy)
    simp [this]
   rw [e,List.length_cons]
  ·have e:del id (a :: L)=a :: del id L:=by
    unfold del
    rw [List.filter_cons,if_pos (by simp [q])]
   have h2:(look L id).isSome=true:=by
    unfold look at h ⊢
    rw [List.find?_cons,decide_eq_false q] at h
    exact h
   rw [e,List.length_cons,List.length_cons,del_len hn.2 h2]
theorem stOut_cnt {s:St} (hn:(s.L.map (·.id)).Nodup) (id k w:Int):(stOut s id k w).2.L.length+(stOut s id k w).2.F.length=s.L.length+s.F.length∧(∀ y∈(stOut s id k w).2.L,y∈s.L)∧(stOut s id k w).2.cost=s.cost∧(stOut s id k w).2.now=s.now:=by
 unfold stOut
 split
 ·rename_i h
  dsimp only
  rw [List.length_append,List.length_singleton]
  have:=del_len hn h
  exact⟨by omega,fun y hy=>(mem_del.1 hy).1,rfl,rfl⟩
 ·exact⟨rfl,fun y hy=>hy,rfl,rfl⟩
structure QI (c now op:Int) (st:Dv):Prop where
 ok:DvOk st
 rk:RLok st
 pg:PG st.P
 cost:st.B.cost=c∧1≤c∧c≤20
 nw:st.B.now=now∧0≤now
 cnt:op=((st.B.L.length+st.B.F.length:Nat):Int)
 dead : ∀ y∈st.B.L,y.dead≤now+199
variable {c now op:Int}
theorem QI.same (q:QI c now op st) {s:Dv} (k:DvOk s) (r:RLok s) (g:PG s.P) (h:s.B=st.B):QI c now op s:=
 {ok:=k,rk:=r,pg:=g,cost:=by rw [h]; exact q.cost,nw:=by rw [h]; exact q.nw,cnt:=by rw [h]; exact q.cnt,dead:=by rw [h]; exact q.dead }
theorem QI.out (q:QI c now op st) {s:Dv} (k:DvOk s) (r:RLok s) (g:PG s.P) {id kd w:Int} (h:s.B=(stOut st.B id kd w).2):QI c now op s:=by
 obtain⟨h1,h2,h3,h4⟩:=stOut_cnt q.ok.B.nd id kd w
 exact { ok:=k,rk:=r,pg:=g,cost:=by rw [h,h3]; exact q.cost,nw:=by rw [h,h4]; exact q.nw,cnt:=by rw [h,h1]; exact q.cnt,dead:=by rw [h]; exact fun y hy=>q.dead y (h2 y hy) }
theorem QI.submit (q:QI c now op st) (r:Rq) (hd:r.dead≤now+199):PQ false st.P (dSubmit st r).2.P∧(((dSubmit st r).1=0∧QI c now (op+1) (dSubmit st r).2)∨((dSubmit st r).1≠0∧QI c now op (dSubmit st r).2)):=by
 have k:=submit_ok q.ok r
 have rk:=rlok_of q.rk (submit_RLe st r)
 rcases dSubmit_cases q.ok r with⟨cc,hc,e⟩ | ⟨b',_,hb',ho',_,_,_,_,_,_,_,hO,_,_,_,e⟩
 ·rw [e]; exact⟨q.pg.refl,.inr ⟨hc,q⟩⟩
 ·rw [e] at k rk ⊢
  have p:PQ false st.P (pGive st.P r.pc.slot r.pc.gen 1 2).2:=pq_give q.pg _ _ _ _ (by omega)
  refine⟨p,.inl ⟨rfl,?_⟩⟩
  exact
  {ok:=k,rk:=rk,pg:=p.pg,cost:=q.cost,nw:=q.nw
   cnt:=by
    have:=q.cnt
    dsimp only
    rw [ins_length]; omega
   dead:=fun y hy=>by
    rcases mem_ins.1 hy with rfl | hy
    ·exact hd
    ·exact q.dead y hy }
theorem QI.start (q:QI c now op st):PQ false st.P (dStart st).2.P∧QI c now op (dStart st).2:=by
 have e:(dStart st).2.P=st.P:=startN_P 65 st
 have k:=start_ok q.ok q.rk
 exact⟨by rw [e]; exact q.pg.refl,q.same k.1 k.2 (by rw [e]; exact q.pg) (startN_len 65 st).2⟩
theorem QI.take (q:QI c now op st):PQ false st.P (dTake st).2.P∧QI c now op (dTake st).2:=by
 have p:=pq_take q.pg
 exact⟨p,q.same (take_ok q.ok) (rlok_of q.rk (take_RLe st)) p.pg (take_f st).2.2.2⟩
theorem QI.write (q:QI c now op st) (no at_:Int) (bs:List Int):PQ true st.P (dWrite st no at_ bs).2.P∧QI c now op (dWrite st no at_ bs).2:=by
 have p:=pq_write q.pg no at_ bs
 exact⟨p,q.same (write_ok q.ok no at_ bs) (rlok_of q.rk (write_RLe st no at_ bs)) p.pg (write_B st no at_ bs)⟩
theorem QI.finish (q:QI c now op st) (no s:Int) (bad:Bool):PQ false st.P (dFinish st no s bad).2.P∧QI c now op (dFinish st no s bad).2:=by
 obtain⟨e1,e2⟩:=finish_BP st no s bad
 exact⟨by rw [e2]; exact q.pg.refl,q.same (finish_ok q.ok no s bad) (finish_RL q.rk no s bad) (by rw [e2]; exact q.pg) e1⟩
theorem QI.reap (q:QI c now op st):PQ false st.P (dReap st).2.P∧QI c now op (dReap st).2:=by
 have p:=pq_reap q.pg
 have k:=reap_ok q.ok q.rk
 have rk:=rlok_of q.rk (reap_RLe st)
 refine⟨p,?_⟩
 have e:(dReap st).2.B=st.B∨∃ id kd w,(dReap st).2.B=(stOut st.B id kd w).2:=by
  unfold dReap
  cases st.RL[st.reaped]? with
  | none=>exact .inl rfl
  | some d=>
   dsimp only
   split
   ·exact .inl rfl
   dsimp only
   cases st.I (st.reaped:Nat) with
   | none=>exact .inl rfl
   | some e=>
    dsimp only
    split
    ·exact .inl rfl
    ·dsimp only
     rw [(dLeave_fields _ _).1]
     dsimp only
     unfold stAnswer
     split
     ·exact .inl rfl
     split
     ·exact .inr ⟨_,_,_,rfl⟩
     ·exact .inr ⟨_,_,_,rfl⟩
 rcases e with e | ⟨id,kd,w,e⟩
 ·exact q.same k rk p.pg e
 ·exact q.out k rk p.pg e
theorem QI.cancel (q:QI c now op st) (id:Int):PQ false st.P (dCancel st id).2.P∧QI c now op (dCancel st id).2:=by
 have p:=pq_cancel q.pg id
 refine⟨p,q.out (id:=id) (kd:=2) (w:=3) (cancel_ok q.ok id) (rlok_of q.rk (cancel_RLe st id)) p.pg ?_⟩
 unfold dCancel
 split
 ·rw [(dLeave_fields _ _).1]; rfl
 ·rfl
theorem filt_len {α : Type} (p : α→Bool) : ∀ L:List α,(L.filter p).length+(L.filter fun x=>!p x).length=L.length
 | []=>rfl
 | a :: L=>by
  have:=filt_len p L
  rw [List.filter_cons,List.filter_cons,List.length_cons]
  cases p a with
  | true=>simp; omega
  | false=>simp; omega
theorem QI.go (q:QI c now op st) {t:Int} (h:now≤t) (ht:t<4611686018427387904):(dGo st t).1.1=0∧PQ false st.P (dGo st t).2.P∧QI c t (op - ((dGo st t).1.2.length:Nat)) (dGo st t).2∧((∀ y∈st.B.L,dueBy c t y=true)→op=((dGo st t).1.2.length:Nat)∧(dGo st t).2.B.L = []):=by
 have hn:=q.nw
 have e:stGo st.B t=(0,st.B.F ++ (st.B.L.filter (dueBy st.B.cost t)).map byTime,{ st.B with now:=t,L:=st.B.L.filter (fun x=>!dueBy st.B.cost t x),F:=[] }):=by
  unfold stGo
  rw [if_neg (by omega),if_neg (by omega)]
 have hB:(dGo st t).2.B = { st.B with now:=t,L:=st.B.L.filter (fun x=>!dueBy st.B.cost t x),F:=[] }:=by
  unfold dGo; rw [foldl_B,e]
 have e1:(dGo st t).1=(0,st.B.F ++ (st.B.L.filter (dueBy st.B.cost t)).map byTime):=by unfold dGo; rw [e]
 have p:=pq_go q.pg t
 have hl:=filt_len (dueBy st.B.cost t) st.B.L
 have hc:=q.cnt
 refine⟨by rw [e1],p,{ ok:=go_ok q.ok (by omega),rk:=rlok_of q.rk (go_RLe st t),pg:=p.pg,cost:=by rw [hB]; exact q.cost,nw:=by rw [hB]; exact⟨rfl,by omega⟩,cnt:=?_,dead:=?_ },fun hd=>?_⟩
 ·rw [hB,e1]
  dsimp only
  rw [List.length_append,List.length_map,List.length_nil]
  omega
 ·rw [hB]
  intro y hy
  have:=q.dead y (List.mem_filter.1 hy).1
  omega
 ·rw [hB,e1]
  dsimp only
  rw [← q.cost.1] at hd
  rw [List.filter_eq_self.2 hd,List.length_append,List.length_map]
  exact⟨by omega,List.filter_eq_nil_iff.2 fun y hy=>by rw [hd y hy]; decide⟩
theorem QI.end_ (q:QI c now op st) (h:st.B.L = []):st.Q.length=0∧∀ j:Nat,j<4→∃ r,pOwner st.P j 1=(1,r,0):=by
 have hO : ∀ id,st.O id=none:=fun id=>by
  cases hh:st.O id with
  | none=>rfl
  | some x=>
   rcases q.ok.oE id x hh with r | r
   ·rw [h] at r; simp [look] at r
   ·exact r.elim
 constructor
 ·cases hq:st.Q with
  | nil=>rfl
  | cons w Q=>
   obtain⟨x,x1,_⟩:=q.ok.qO w (by rw [hq]; simp)
   rw [hO] at x1; cases x1
 ·intro j hj
  obtain⟨b,b1,b4⟩:=q.pg j hj
  obtain⟨q1,q2,q3,q4,q5⟩:=bufAt_some b1
  have:b.owner=1:=by
   rcases b4 with r | r | r
   ·exact r
   ·obtain⟨id,x,x1,_⟩:=q.ok.own _ b q3 (.inl r)
    rw [hO] at x1; cases x1
   ·obtain⟨id,x,x1,_⟩:=q.ok.own _ b q3 (.inr r)
    rw [hO] at x1; cases x1
  refine⟨b.refs,?_⟩
  unfold pOwner
  rw [b1]
  dsimp only
  rw [this]
theorem QI.new {sz:Nat} (hc:1≤c∧c≤20):QI c 0 0 (dNew gotL sz c):=
 {ok:=new_ok gotL_own ⟨hc.1,by omega⟩,rk:=fun n d h=>by simp [dNew] at h
  pg:=fun j h=>by
   obtain⟨b,b1,_,_,b4⟩:=pz_got j h
   exact⟨b,b1,b4⟩
  cost:=⟨rfl,hc⟩,nw:=⟨rfl,Int.le_refl _⟩,cnt:=rfl,dead:=fun y hy=>(by cases hy) }
end
end Go.Proofs.Vf
namespace Go.Proofs.Vf
open Go Go.Proofs Go.VC
structure DoV where
 k:Int
 r:Rq
 no:Int
 at_:Int
 ba:Option Addr
 bn:Nat
 bc:Nat
def doV (d:DoV):List Value:=.int .i64 d.k :: (rqV d.r ++ [.int .i64 d.no,.int .i64 d.at_,.slice d.ba d.bn d.bc])
def DoArg (h:Heap) (a:Option Addr) (n:Nat):Prop:=∀ i,i<n→∃ (b o:Nat) (d:DoV) (bs:List Int),a=some ⟨b,o,none⟩∧ldCells h b (o+i * 12) 12=some (doV d)∧(0≤d.r.dead∧d.r.dead<18446744073709551616)∧(-9223372036854775808≤d.at_∧d.at_<9223372036854775808)∧ArgI h .u8 d.ba bs∧d.bn=bs.length
theorem doV_one (d:DoV) : ∀ v∈doV d,v.oneCell'=true:=by
 intro v hv
 simp [doV,rqV] at hv
 rcases hv with rfl | rfl | rfl | rfl | rfl | rfl | rfl | rfl | rfl | rfl | rfl | rfl <;> rfl
theorem later_spec (now n:Int) (h:Heap) (h0:0≤now∧now≤1000000) (hn : -9223372036854775808≤n∧n<9223372036854775808) :
  CallsH PR Gj5 #[.int .u64 now,.int .i64 n] h (fun v h'=>h'=h∧∃ t,v = .int .u64 t∧now≤t∧t≤now+199):=by
 apply Gbx
 unfold Gbw
 refine⟨fun _=>⟨rfl,now,rfl,by omega,by omega⟩,fun hp=>?_⟩
 have w1:IntKind.u64.wrap n=n:=wrap_u64 (by omega) (by omega)
 rw [w1,Int.tmod_eq_emod_of_nonneg (by omega)]
 have w2:IntKind.u64.wrap (now+n % 200)=now+n % 200:=wrap_u64 (by omega) (by omega)
 rw [w2]
 exact⟨rfl,_,rfl,by omega,by omega⟩
theorem cell_12 {h:Heap} {b o i:Nat} {vs:List Value} (ld:ldCells h b o 12=some vs) (hi:i<12):cellH h b (o+i)=vs[i]?:=(ldc_get ld).2 i hi
theorem small_spec {h:Heap} {a:Option Addr} {n c:Nat} (A:DoArg h a n) (_hn:n≤9223372036854775807) :
  CallsH PR Gj6 #[.slice a n c] h (fun v h'=>h'=h∧∃ r,v = .bool r):=by
 apply Gbz
 unfold Gby
 refine⟨fun i hh=>hh=h∧0≤i,fun i _=>(n - i).toNat,⟨rfl,by omega⟩,?_⟩
 rintro i hh ⟨rfl,i0⟩
 refine⟨fun hq=>?_,fun _=>⟨rfl,_,rfl⟩⟩
 simp only [Bool.and_eq_true,decide_eq_true_eq] at hq
 obtain⟨b,o,d,bs,rfl,ld,_⟩:=A i.toNat (by omega)
 have:=cell_12 ld (show 11<12 by omega)
 exact⟨b,o,rfl,⟨i0,hq.1⟩,d.ba,d.bn,d.bc,this,fun _=>⟨rfl,_,rfl⟩,fun _=>⟨⟨by omega,by omega⟩,⟨rfl,by omega⟩,by dsimp only; omega⟩⟩
theorem same_spec {h:Heap} {e e':TypeId} {a a':Option Addr} {n n' c c':Nat} {xs ys:List Int} (s:Sl h e 1 a n c (xs.map u8)) (s':Sl h e' 1 a' n' c' (ys.map u8)) (hl:n≤9223372036854775807) :
  CallsH PR Gjz #[.slice a n c,.slice a' n' c'] h (fun v h'=>h'=h∧∃ r,v = .bool r∧(xs=ys→r=true)):=by
 have hn:n=xs.length:=by have:=s.1; simp at this; exact this.symm
 have hn':n'=ys.length:=by have:=s'.1; simp at this; exact this.symm
 apply Gc1
 unfold Gc0
 refine⟨fun hne=>⟨rfl,_,rfl,fun q=>?_⟩,fun heq=>?_⟩
 ·exfalso; apply hne; rw [hn,hn',q]
 refine⟨fun i hh=>hh=h∧0≤i∧i≤n,fun i _=>(n - i).toNat,⟨rfl,by omega,by omega⟩,?_⟩
 rintro i hh ⟨rfl,i0,i1⟩
 refine⟨fun hlt=>?_,fun _=>⟨rfl,_,rfl,fun _=>rfl⟩⟩
 obtain⟨x,hx⟩ : ∃ x,xs[i.toNat]? = some x:=⟨_,List.getElem?_eq_getElem (by omega)⟩
 obtain⟨y,hy⟩ : ∃ y,ys[i.toNat]? = some y:=⟨_,List.getElem?_eq_getElem (by omega)⟩
 obtain⟨b,o,rfl,hc⟩:=s.get (i:=i.toNat) (v:=u8 x) (by rw [List.getElem?_map,hx]; rfl)
 obtain⟨b',o',rfl,hc'⟩:=s'.get (i:=i.toNat) (v:=u8 y) (by rw [List.getElem?_map,hy]; rfl)
 refine⟨b,o,rfl,⟨i0,hlt⟩,x,by rw [Nat.mul_one]; exact hc,b',o',rfl,⟨i0,by omega⟩,y,by rw [Nat.mul_one]; exact hc',fun hne=>⟨rfl,_,rfl,fun q=>?_⟩,fun _=>⟨⟨by omega,by omega⟩,⟨rfl,by omega,by omega⟩,by dsimp only; omega⟩⟩
 exfalso; apply hne
 rw [q,hy] at hx
 exact (Option.some.inj hx).symm
abbrev SV:=Option Addr × Nat × Nat
def svV (w:SV):Value:=.slice w.1 w.2.1 w.2.2
def upL {α : Type} (l:List α) (j:Nat) (v : α):List α:=l.take j ++ [v] ++ l.drop (j+1)
theorem upL_len {α : Type} {l:List α} {j:Nat} {v : α} (hj:j<l.length):(upL l j v).length=l.length:=by
 simp [upL]; omega
theorem upL_get {α : Type} {l:List α} {j:Nat} {v : α} (hj:j<l.length) (i:Nat):(upL l j v)[i]? = if i=j then some v else l[i]?:=by
 unfold upL
 have ht:(l.take j).length=j:=by rw [List.length_take]; omega
 rw [List.append_assoc]
 by_cases h1:i<j
 ·rw [List.getElem?_append_left (by omega),List.getElem?_take_of_lt h1,if_neg (by omega)]
 ·rw [List.getElem?_append_right (by omega),ht]
  by_cases h2:i=j
  ·subst h2; rw [Nat.sub_self,if_pos rfl]; rfl
  ·rw [List.getElem?_append_right (by simp; omega),if_neg h2,List.getElem?_drop]
   simp
   congr 1
   omega
theorem upL_map {α : Type} {l:List α} {j:Nat} {v : α} (f : α→Value):(upL l j v).map f=spl (l.map f) j [f v]:=by
 simp [upL,spl,List.map_take,List.map_drop]
structure Ev (h0:Heap) (db:Nat) (x:DX) (T:Nat→Prop) (X WS OW:Nat) (xs:List Value) (ws:List SV) (os:List Int) (bb:List (List Int)) (m:Nat) (h:Heap) (st:Dv):Prop where
 G:Gd h0 db x T [] h st
 t:T X∧T WS∧T OW
 ne:X≠WS∧X≠OW∧WS≠OW∧h0.size≤X∧h0.size≤WS∧h0.size≤OW
 x:h[X]? = some (.cells (List.toArray xs) 93 (0,0))
 w:h[WS]? = some (.cells (List.toArray (ws.map svV)) 115 (0,0))
 o:h[OW]? = some (.cells (List.toArray (os.map (Value.int .i64))) 116 (0,0))
 len:ws.length=4∧os.length=4
 sl : ∀ j,j<m→∃ a n c bs,ws[j]? = some (a,n,c)∧bb[j]? = some bs∧Sl h ty_uint8 1 a n c (bs.map u8)∧∀ y,blkOf a y→T y∧y≠X∧y≠WS∧y≠OW
section
variable {h0 h h':Heap} {db:Nat} {x:DX} {T:Nat→Prop} {X WS OW:Nat} {xs:List Value} {ws:List SV} {os:List Int} {bb:List (List Int)} {m:Nat} {st st':Dv}
theorem Ev.step (e:Ev h0 db x T X WS OW xs ws os bb m h st) (L:Lw db x T h' st') (k:Kp T h h'):Ev h0 db x T X WS OW xs ws os bb m h' st':=
 {G:=e.G.step L k
  t:=e.t
  ne:=e.ne
  x:=k.get e.x e.t.1
  w:=k.get e.w e.t.2.1
  o:=k.get e.o e.t.2.2
  len:=e.len
  sl:=fun j hj=>by
   obtain⟨a,n,c,bs,h1,h2,h3,h4⟩:=e.sl j hj
   exact⟨a,n,c,bs,h1,h2,k.sl h3 fun y hy=>(h4 y hy).1,h4⟩ }
theorem Ev.ext (e:Ev h0 db x T X WS OW xs ws os bb m h st) (q:Ext h h'):Ev h0 db x (Nw T h h') X WS OW xs ws os bb m h' st:=by
 obtain⟨L,K⟩:=e.G.L.ext q
 have e2:=e.step (L.sub fun y hy=>.inl hy) K
 exact
 {G:={ L:=L,ex:=e2.G.ex,tm:=fun p hp=>(by cases hp),old:=fun y hy=>.inl (e.G.old y hy) }
  t:=⟨.inl e.t.1,.inl e.t.2.1,.inl e.t.2.2⟩
  ne:=e.ne,x:=e2.x,w:=e2.w,o:=e2.o,len:=e.len
  sl:=fun j hj=>by
   obtain⟨a,n,c,bs,h1,h2,h3,h4⟩:=e2.sl j hj
   exact⟨a,n,c,bs,h1,h2,h3,fun y hy=>⟨.inl (h4 y hy).1,(h4 y hy).2⟩⟩ }
theorem Gd.own {t:Nat} (g:Gd h0 db x T [] h st) (ht:T t) (h1:h0.size≤t) (h2 : ∀ y,y≠t→h'[y]? = h[y]?) (hz:h'.size=h.size):Gd h0 db x T [] h' st:=
 {L:=g.L.tmp ht h2 hz
  ex:=⟨by have:=g.ex.1; omega,fun y hy=>by rw [h2 y (by omega)]; exact g.ex.2 y hy⟩
  tm:=fun p hp=>by cases hp
  old:=g.old }
theorem Ev.putW (e:Ev h0 db x T X WS OW xs ws os bb m h st) {j:Nat} (hj:j<4) (hm:j=m) (w:SV) {bs:List Int} (hb:bb[j]? = some bs) (s:Sl h ty_uint8 1 w.1 w.2.1 w.2.2 (bs.map u8)) (hs : ∀ y,blkOf w.1 y→T y∧y≠X∧y≠WS∧y≠OW) :
  ∃ h',stCells WS h (0+j * 1) [svV w]=some h'∧Ev h0 db x T X WS OW xs (upL ws j w) os bb (m+1) h' st∧(∀ y,y≠WS→h'[y]? = h[y]?)∧h'.size=h.size:=by
 have hl:=e.len
 obtain⟨h',s1,s2,s3,s4⟩:=st_ex (o:=0+j * 1) [svV w] e.w (by simp; omega) (by simp [svV,Value.oneCell'])
 have ne:=e.ne
 have kp : ∀ {a:Option Addr} {n c:Nat} {vs:List Value},Sl h ty_uint8 1 a n c vs→(∀ y,blkOf a y→T y∧y≠X∧y≠WS∧y≠OW)→Sl h' ty_uint8 1 a n c vs:=fun sl hh=>sl.keep fun y _ hy=>s3 y (hh y hy).2.2.1
 refine⟨h',s1,{ G:=e.G.own e.t.2.1 ne.2.2.2.2.1 s3 s4,t:=e.t,ne:=ne,x:=by rw [s3 X ne.1]; exact e.x,w:=?_,o:=by rw [s3 OW (fun q=>ne.2.2.1 q.symm)]; exact e.o,len:=⟨by rw [upL_len (by omega)]; exact hl.1,hl.2⟩,sl:=fun i hi=>?_ },s3,s4⟩
 ·rw [s2,upL_map,Nat.zero_add,Nat.mul_one]
 ·by_cases q:i=j
  ·subst q
   refine⟨w.1,w.2.1,w.2.2,bs,by rw [upL_get (by omega),if_pos rfl],hb,kp s hs,hs⟩
  ·obtain⟨a,n,c,bs',g1,g2,g3,g4⟩:=e.sl i (by omega)
   exact⟨a,n,c,bs',by rw [upL_get (by omega),if_neg q]; exact g1,g2,kp g3 g4,g4⟩
theorem Ev.putO (e:Ev h0 db x T X WS OW xs ws os bb m h st) {j:Nat} (hj:j<4) (w:Int) :
  ∃ h',stCells OW h (0+j * 1) [.int .i64 w]=some h'∧Ev h0 db x T X WS OW xs ws (upL os j w) bb m h' st∧(∀ y,y≠OW→h'[y]? = h[y]?)∧h'.size=h.size:=by
 have hl:=e.len
 obtain⟨h',s1,s2,s3,s4⟩:=st_ex (o:=0+j * 1) [.int .i64 w] e.o (by simp; omega) (by simp [Value.oneCell'])
 have ne:=e.ne
 refine⟨h',s1,{ G:=e.G.own e.t.2.2 ne.2.2.2.2.2 s3 s4,t:=e.t,ne:=ne,x:=by rw [s3 X ne.2.1]; exact e.x,w:=by rw [s3 WS ne.2.2.1]; exact e.w,o:=?_,len:=⟨hl.1,by rw [upL_len (by omega)]; exact hl.2⟩,sl:=fun i hi=>?_ },s3,s4⟩
 ·rw [s2,upL_map,Nat.zero_add,Nat.mul_one]
 ·obtain⟨a,n,c,bs',g1,g2,g3,g4⟩:=e.sl i hi
  exact⟨a,n,c,bs',g1,g2,g3.keep fun y _ hy=>s3 y (g4 y hy).2.2.2,g4⟩
end
end Go.Proofs.Vf
namespace Go.Proofs.Vf
open Go Go.Proofs Go.VC
theorem DoArg.ext {h h':Heap} {a:Option Addr} {n:Nat} (A:DoArg h a n) (x:Ext h h'):DoArg h' a n:=fun i hi=>by
 obtain⟨b,o,d,bs,h1,h2,h3,h4,h5,h6⟩:=A i hi
 exact⟨b,o,d,bs,h1,ldc_ext x h2,h3,h4,h5.ext x,h6⟩
theorem Ev.putX {h0 h:Heap} {db:Nat} {x:DX} {T:Nat→Prop} {X WS OW:Nat} {xs:List Value} {ws:List SV} {os:List Int} {bb:List (List Int)} {m:Nat} {st:Dv}
  (e:Ev h0 db x T X WS OW xs ws os bb m h st) (o:Nat) (vs:List Value) (hl:o+vs.length≤xs.length) (h1 : ∀ v∈vs,v.oneCell'=true) : ∃ h',stCells X h o vs=some h'∧Ev h0 db x T X WS OW (spl xs o vs) ws os bb m h' st:=by
 obtain⟨h',s1,s2,s3,s4⟩:=st_ex (o:=o) vs e.x hl h1
 have ne:=e.ne
 refine⟨h',s1,{ G:=e.G.own e.t.1 ne.2.2.2.1 s3 s4,t:=e.t,ne:=ne,x:=s2,w:=by rw [s3 WS (fun q=>ne.1 q.symm)]; exact e.w,o:=by rw [s3 OW (fun q=>ne.2.1 q.symm)]; exact e.o,len:=e.len,sl:=fun i hi=>?_ }⟩
 obtain⟨a,n,c,bs',g1,g2,g3,g4⟩:=e.sl i hi
 exact⟨a,n,c,bs',g1,g2,g3.keep fun y _ hy=>s3 y (g4 y hy).2.1,g4⟩
def bbOf (P:List Buf):List (List Int):=(List.range 4).map fun j:Nat=>((bufAt P j 1).map (·.b)).getD []
theorem bbOf_get {P:List Buf} {j:Nat} (hj:j<4) {b:Buf} (h:bufAt P j 1=some b):(bbOf P)[j]? = some b.b:=by
 unfold bbOf
 rw [List.getElem?_map,List.getElem?_range hj,Option.map_some,h]; rfl
theorem Lw.buf_le {h:Heap} {db:Nat} {x:DX} {T:Nat→Prop} {st:Dv} (L:Lw db x T h st) {s g:Int} {b:Buf} (hb:bufAt st.P s g=some b):b.b.length≤65536:=by
 obtain⟨col,D,_⟩:=L.dev
 obtain⟨u1,u2,u3,u4,u5⟩:=bufAt_some hb
 obtain⟨_,_,_,_,R⟩:=D.P
 exact R.sz b (List.mem_of_getElem? u3)
theorem read_all {P:List Buf} {j:Int} {b:Buf} (h:bufAt P j 1=some b) {n:Nat} (hn:n=b.b.length):pRead P j 1 0 n=(0,b.b):=by
 unfold pRead
 rw [h]
 dsimp only
 rw [if_neg (by omega)]
 have:(b.b.drop (0:Int).toNat).take (n:Int).toNat=b.b:=by
  rw [hn]
  show (b.b.drop 0).take (b.b.length:Int).toNat=b.b
  rw [List.drop_zero,Int.toNat_natCast,List.take_length]
 rw [this]
theorem quietly_spec {h:Heap} {p0 p1:Int} {a:Option Addr} {n c:Nat} (h0:0≤p0∧p0<256) (h1:0≤p1∧p1<256) (A:DoArg h a n) (hn:n≤9223372036854775807) :
  CallsH PR Giz #[.int .u8 p0,.int .u8 p1,.slice a n c] h (fun v h'=>v = .bool true∧Ext h h'):=by
 apply Gbp
 unfold Gbo
 refine (awake_spec h).mono ?_
 rintro _ g1 ⟨rfl,x1⟩
 refine⟨true,rfl,fun q=>(by cases q),fun _=>?_⟩
 refine (small_spec (A.ext x1) hn).mono ?_
 rintro _ g4 ⟨rfl,sm,rfl⟩
 refine⟨sm,rfl,fun _=>⟨rfl,x1⟩,fun _=>?_⟩
 have w0:IntKind.i64.wrap p0=p0:=wrap_i64 ⟨by omega,by omega⟩
 have w1:IntKind.u64.wrap p1=p1:=wrap_u64 (by omega) (by omega)
 rw [w0,w1]
 obtain⟨sz,hsz⟩ : ∃ sz,sz=1+p0.tmod 8:=⟨_,rfl⟩
 obtain⟨ct,hct⟩ : ∃ ct,ct=1+p1.tmod 20:=⟨_,rfl⟩
 rw [← hsz,← hct]
 have s0:1≤sz∧sz≤8:=by rw [hsz,Int.tmod_eq_emod_of_nonneg h0.1]; omega
 have c0:1≤ct∧ct≤20:=by rw [hct,Int.tmod_eq_emod_of_nonneg h1.1]; omega
 have wc:IntKind.u64.wrap ct=ct:=wrap_u64 (by omega) (by omega)
 rw [wc]
 refine (got_spec g4).mono ?_
 rintro _ g7 ⟨pb,rfl,x7,P7⟩
 refine⟨_,rfl,⟨by omega,by omega⟩,?_⟩
 refine (lnew P7 x7 (fun y hy=>hy.1) gotL_own (n:=sz) (cost:=ct) (by omega) (by omega)).mono ?_
 rintro _ g14 ⟨db,x,rfl,x14,rfl,L14⟩
 refine⟨_,_,rfl,fun q=>(by simp at q),fun _=>?_⟩
 have G0:=gd_new (tm:=[]) x1 L14 (x7.trans x14) (Ext.refl _) (fun p hp=>by cases hp)
 refine⟨fun now op i hh=>(0≤i∧i≤120)∧(0≤now∧now≤200 * i)∧∃ (st:Dv) (T:Nat→Prop),Gd h db x T [] hh st∧QI ct now op st∧Bd i.toNat st,fun _ _ i _=>(120 - i).toNat,⟨⟨by omega,by omega⟩,⟨by omega,by omega⟩,_,_,G0,QI.new c0,bd_new⟩,?_⟩
 rintro now op i g26 ⟨⟨i0,i1⟩,⟨n0,n1⟩,st,T,G,q,B⟩
 have hop:0≤op∧op≤64+200:=by
  have e1:=q.cnt
  have e2:=q.ok.B.len
  have e3:=B.1
  omega
 refine⟨fun hq=>?_,fun _=>?_⟩
 ·simp only [Bool.and_eq_true,decide_eq_true_eq] at hq
  obtain⟨b,o,d,bs,ha,ld0,hdd,hat,ab,hbn⟩:=A i.toNat (by omega)
  have ld:=ldc_ext G.ex ld0
  refine⟨b,o,ha,⟨i0,hq.1⟩,d.k,d.r.id,d.r.op,d.r.dead,d.r.track,d.r.pc.slot,d.r.pc.gen,d.r.pc.fr,d.r.pc.len,d.no,d.at_,d.ba,d.bn,d.bc,ld,fun g35 e35=>?_⟩
  obtain⟨g38,t1,t2,t3,t4⟩:=st_tmp (zs:=[_,_,_,_,_,_,_,_,_,_,_,_]) e35 (doV d) rfl (doV_one d)
  refine⟨g38,t1,fun g39 e39 g41 e41=>?_⟩
  obtain⟨u1,u2,u3⟩:=push_get e39
  obtain⟨v1,v2,v3⟩:=push_get e41
  have x41:Ext g26 g41:=(t3.trans u2).trans v2
  obtain⟨L41,K41⟩:=G.L.ext x41
  have zh:=G.ex.1
  have E41:Ev h db x (Nw T g26 g41) g26.size g38.size g39.size (doV d) [(none,0,0),(none,0,0),(none,0,0),(none,0,0)] [0,0,0,0] (bbOf st.P) 0 g41 st:=
   {G:={ L:=L41,ex:=Kp.ext G.ex K41 G.old,tm:=fun p hp=>(by cases hp),old:=fun y hy=>.inl (G.old y hy) }
    t:=⟨.inr ⟨by omega,by omega⟩,.inr ⟨by omega,by omega⟩,.inr ⟨by omega,by omega⟩⟩
    ne:=⟨by omega,by omega,by omega,by omega,by omega,by omega⟩
    x:=(u2.trans v2).get t2
    w:=v2.get u1
    o:=v1
    len:=⟨rfl,rfl⟩
    sl:=fun j hj=>by omega }
  refine⟨fun k hh=>(0≤k∧k≤4)∧∃ (T':Nat→Prop) (ws:List SV) (os:List Int),Ev h db x T' g26.size g38.size g39.size (doV d) ws os (bbOf st.P) k.toNat hh st∧∀ j:Nat,j<k.toNat→∃ bf,bufAt st.P j 1=some bf∧os[j]? = some bf.owner,fun k _=>(4 - k).toNat,⟨⟨by omega,by omega⟩,_,_,_,E41,fun j hj=>by simp at hj⟩,?_⟩
  rintro k g47 ⟨⟨k0,k1⟩,T1,ws,os,E,ho⟩
  have ek:((k.toNat:Nat):Int)=k:=by omega
  refine⟨fun hk=>?_,fun hk=>?_⟩
  ·intro g49 e49
   obtain⟨g52,r1,r2,r3,r4⟩:=st_tmp (zs:=[_,_]) e49 [.int .i64 k,.int .u64 1] rfl (by simp [Value.oneCell'])
   have E52:=E.ext r3
   obtain⟨bf,f1,f2⟩:=q.pg k.toNat (by omega)
   have l0 : ∀ {hz:Heap},hz[g47.size]? = some (.cells (List.toArray [.int .i64 k,.int .u64 1]) 39 (0,0))→ldCells hz g47.size 0 2=some [.int .i64 k,.int .u64 1]:=fun q=>ld_lst q 2 0 (by simp)
   rw [ek] at f1
   refine⟨g52,r1,_,_,l0 r2,(lsize E52.G.L k 1).mono ?_⟩
   rintro _ g55 ⟨rfl,x55⟩
   have e5:(pSize st.P k 1).1=(bf.b.length:Nat):=by unfold pSize; rw [f1]
   rw [e5]
   have E55:=E52.ext x55
   have c55:=x55.get r2
   refine⟨_,_,rfl,_,_,l0 c55,(lread E55.G.L k 1 0 (bf.b.length:Nat) (by omega)).mono ?_⟩
   rw [read_all f1 rfl]
   rintro _ g61 ⟨a63,c63,rfl,x61,s61,z61⟩
   have E61:=E55.ext x61
   have c61:=x61.get c55
   have lX:=lt_of_get E.x
   have lW:=lt_of_get E.w
   have lO:=lt_of_get E.o
   have z3:=r3.1
   have z5:=x55.1
   obtain⟨g67,y1,E67,y3,y4⟩:=E61.putW (j:=k.toNat) (by omega) rfl (a63,bf.b.length,c63) (bbOf_get (by omega) (by rw [ek]; exact f1)) s61 (fun y hy=>by
    have hy1:=z61 y hy
    obtain⟨cur,hc⟩:=s61.blk_ty hy
    exact⟨.inr ⟨hy1,lt_of_get hc⟩,by omega,by omega,by omega⟩)
   have c67:g67[g47.size]? = some (.cells (List.toArray [.int .i64 k,.int .u64 1]) 39 (0,0)):=by rw [y3 _ (by omega)]; exact c61
   refine⟨_,_,_,_,rfl,⟨k0,hk⟩,g67,y1,_,_,l0 c67,(lowner E67.G.L k 1).mono ?_⟩
   rintro _ g70 ⟨rfl,x70⟩
   have E70:=E67.ext x70
   have e6:(pOwner st.P k 1).1=bf.owner:=by unfold pOwner; rw [f1]
   rw [e6]
   obtain⟨g77,j1,E77,_,_⟩:=E70.putO (j:=k.toNat) (by omega) bf.owner
   have e7:(k+1).toNat=k.toNat+1:=by omega
   refine⟨_,_,_,rfl,⟨k0,hk⟩,g77,j1,⟨by omega,by omega⟩,⟨⟨by omega,by omega⟩,_,_,_,by rw [e7]; exact E77,fun j hj=>?_⟩,by dsimp only; omega⟩
   have hl4:=E.len.2
   by_cases hjk:j=k.toNat
   ·subst hjk
    exact⟨bf,by rw [ek]; exact f1,by rw [upL_get (by omega),if_pos rfl]⟩
   ·obtain⟨bf',p1,p2⟩:=ho j (by omega)
    exact⟨bf',p1,by rw [upL_get (by omega),if_neg hjk]; exact p2⟩
  have k4:k.toNat=4:=by omega
  rw [k4] at E ho
  have Bn:=B.mono (show i.toNat≤i.toNat+1 by omega)
  have hi200:i.toNat≤10000:=by omega
  refine⟨fun now' op' hh=>∃ (st':Dv) (T':Nat→Prop) (xs':List Value),(0≤now'∧now'≤200 * (i+1))∧Ev h db x T' g26.size g38.size g39.size xs' ws os (bbOf st.P) 4 hh st'∧QI ct now' op' st'∧PQ (decide (d.k=3)) st.P st'.P∧Bd (i.toNat+1) st'∧xs'[0]? = some (.int .i64 d.k),?_,d.k,cell_lst E.x rfl,fun hk0=>?_,fun hk0=>⟨fun hk1=>?_,fun hk1=>⟨fun hk2=>?_,fun hk2=>⟨fun hk3=>?_,fun hk3=>?_⟩⟩⟩⟩
  ·-- what the buffers bear now
   rintro now' op' g83 ⟨st',T',xs',hnow,E',q',pq,B',hx0⟩
   refine⟨fun j hh=>(0≤j∧j≤4)∧∃ T'',Ev h db x T'' g26.size g38.size g39.size xs' ws os (bbOf st.P) 4 hh st',fun j _=>(4 - j).toNat,⟨⟨by omega,by omega⟩,T',E'⟩,?_⟩
   rintro j g88 ⟨⟨j0,j1⟩,T2,E2⟩
   have ej:((j.toNat:Nat):Int)=j:=by omega
   refine⟨fun hj=>?_,fun _=>⟨⟨by omega,by omega⟩,⟨⟨by omega,by omega⟩,hnow,st',T2,E2.G,q',by rw [show (i+1).toNat=i.toNat+1 by omega]; exact B'⟩,by dsimp only; omega⟩⟩
   intro g90 e90
   obtain⟨g93,r1,r2,r3,r4⟩:=st_tmp (zs:=[_,_]) e90 [.int .i64 j,.int .u64 1] rfl (by simp [Value.oneCell'])
   have E93:=E2.ext r3
   obtain⟨b1,b2,p1,p2,p3,p4,_⟩:=pq j.toNat (by omega)
   obtain⟨wa,wn,wc',wbs,m1,m2,m3,m4⟩:=E93.sl j.toNat (by omega)
   rw [bbOf_get (by omega) p1] at m2
   cases m2
   rw [ej] at p2
   have cw : ∀ {hz:Heap},hz[g38.size]? = some (.cells (List.toArray (ws.map svV)) 115 (0,0))→cellH hz g38.size (0+j.toNat * 1)=some (.slice wa wn wc'):=fun q=>cell_lst q (by rw [Nat.zero_add,Nat.mul_one,List.getElem?_map,m1]; rfl)
   have hwn:wn=b2.b.length:=by have:=m3.1; simp at this; omega
   refine⟨g93,r1,_,_,ld_lst r2 2 0 (by simp),⟨j0,hj⟩,wa,wn,wc',cw E93.w,(lread E93.G.L j 1 0 wn (by omega)).mono ?_⟩
   rw [read_all p2 hwn]
   rintro _ g99 ⟨a101,c101,rfl,x99,s99,-⟩
   have E99:=E93.ext x99
   have hle:=E99.G.L.buf_le p2
   refine⟨_,_,_,_,rfl,⟨j0,hj⟩,wa,wn,wc',cw E99.w,(same_spec s99 (m3.ext x99) (by show b2.b.length≤_; omega)).mono ?_⟩
   rintro _ g106 ⟨rfl,r,rfl,hr⟩
   obtain⟨bf,o1,o2⟩:=ho j.toNat (by omega)
   rw [p1] at o1; cases o1
   refine⟨r,rfl,d.k,fun _=>cell_lst E99.x hx0,fun _=>⟨j0,hj⟩,b1.owner,fun _=>cell_lst E99.o (by rw [Nat.zero_add,Nat.mul_one,List.getElem?_map,o2]; rfl),fun hf=>?_,fun _=>⟨⟨by omega,by omega⟩,⟨⟨by omega,by omega⟩,_,E99⟩,by dsimp only; omega⟩⟩
   exfalso
   simp only [Bool.and_eq_true,Bool.not_eq_true',Bool.or_eq_true,decide_eq_false_iff_not] at hf
   obtain⟨hf1,hf2⟩:=hf
   rcases p3 with g | ⟨g1,g2⟩
   ·rw [hr g] at hf1; cases hf1
   ·rw [decide_eq_true_eq] at g1
    rcases hf2 with z | z
    ·exact z g1
    ·exact z g2
  ·-- a request
   refine⟨d.r.dead,cell_lst E.x rfl,?_⟩
   have wd:IntKind.i64.wrap (d.r.dead.tmod 300)=d.r.dead.tmod 300:=by
    rw [Int.tmod_eq_emod_of_nonneg hdd.1]; exact wrap_i64 ⟨by omega,by omega⟩
   rw [wd]
   refine (later_spec now (d.r.dead.tmod 300) g47 ⟨n0,by omega⟩ (by rw [Int.tmod_eq_emod_of_nonneg hdd.1]; omega)).mono ?_
   rintro _ _ ⟨rfl,t,rfl,l1,l2⟩
   obtain⟨g128,s1,E128⟩:=E.putX 3 [.int .u64 t] (by simp [doV,rqV]) (by simp [Value.oneCell'])
   obtain⟨pq,hs⟩:=q.submit { d.r with dead:=t } l2
   refine⟨t,rfl,g128,s1,d.r.id,d.r.op,t,d.r.track,d.r.pc.slot,d.r.pc.gen,d.r.pc.fr,d.r.pc.len,ld_lst E128.x 8 1 (by simp [spl,doV,rqV]),(lsubmit E128.G.L { d.r with dead:=t } (by show 0≤t; omega)).mono ?_⟩
   rintro _ g131 ⟨rfl,L131,K131⟩
   have E131:=E128.step L131 K131
   refine⟨_,rfl,fun h0=>⟨⟨by omega,by omega⟩,_,_,_,⟨n0,by omega⟩,E131,?_,pq.or,bd_submit B _,rfl⟩,fun hne=>⟨_,_,_,⟨n0,by omega⟩,E131,?_,pq.or,bd_submit B _,rfl⟩⟩
   ·rcases hs with⟨_,z⟩ | ⟨z,_⟩
    ·exact z
    ·exact absurd h0 z
   ·rcases hs with⟨z,_⟩ | ⟨_,z⟩
    ·exact absurd z hne
    ·exact z
  ·refine (lstart E.G.L B hi200).mono ?_
   rintro _ hz ⟨a',c',rfl,-,Lz,Kz,-⟩
   obtain⟨pq,qz⟩:=q.start
   exact⟨_,_,_,rfl,_,_,_,⟨n0,by omega⟩,E.step (Lz.sub fun y hy=>.inl hy) Kz,qz,pq.or,bd_start B,rfl⟩
  ·refine (ltake E.G.L B hi200).mono ?_
   rintro _ hz ⟨rfl,Lz,Kz⟩
   obtain⟨pq,qz⟩:=q.take
   exact⟨_,_,_,_,_,_,_,_,_,_,_,rfl,_,_,_,⟨n0,by omega⟩,E.step Lz Kz,qz,pq.or,bd_take B,rfl⟩
  ·refine⟨d.no,cell_lst E.x rfl,d.at_,cell_lst E.x rfl,d.ba,d.bn,d.bc,cell_lst E.x rfl,(lwrite E.G.L d.no d.at_ (bs:=bs) hbn ((ab.ext E.G.ex).first hbn) hat.2).mono ?_⟩
   rintro _ hz ⟨rfl,Lz,Kz⟩
   obtain⟨pq,qz⟩:=q.write d.no d.at_ bs
   exact⟨_,rfl,_,_,_,⟨n0,by omega⟩,E.step Lz Kz,qz,by rw [decide_eq_true hk3]; exact pq,bd_write B _ _ _,rfl⟩
  ·refine⟨fun _ hh=>hh=g47,?_,fun _=>rfl,fun _=>rfl⟩
   rintro bl _ rfl
   refine⟨fun _=>?_,fun _=>⟨fun hk6=>?_,fun hk6=>⟨fun hk7=>?_,fun hk7=>?_⟩⟩⟩
   ·refine⟨d.no,cell_lst E.x rfl,d.at_,cell_lst E.x rfl,d.k,cell_lst E.x rfl,(lfinish E.G.L d.no d.at_ (decide (d.k=5))).mono ?_⟩
    rintro _ hz ⟨rfl,Lz,Kz⟩
    obtain⟨pq,qz⟩:=q.finish d.no d.at_ (decide (d.k=5))
    exact⟨_,rfl,_,_,_,⟨n0,by omega⟩,E.step Lz Kz,qz,pq.or,bd_finish B _ _ _,rfl⟩
   ·refine (lreap E.G.L B hi200).mono ?_
    rintro _ hz ⟨rfl,Lz,Kz⟩
    obtain⟨pq,qz⟩:=q.reap
    exact⟨_,_,rfl,_,_,_,⟨n0,by omega⟩,E.step Lz Kz,qz,pq.or,bd_reap B,rfl⟩
   ·refine⟨d.no,cell_lst E.x rfl,(lcancel E.G.L B hi200 d.no).mono ?_⟩
    rintro _ hz ⟨rfl,Lz,Kz⟩
    obtain⟨pq,qz⟩:=q.cancel d.no
    exact⟨_,rfl,_,_,_,⟨n0,by omega⟩,E.step Lz Kz,qz,pq.or,bd_cancel B _,rfl⟩
   ·refine⟨d.at_,cell_lst E.x rfl,(later_spec now d.at_ _ ⟨n0,by omega⟩ hat).mono ?_⟩
    rintro _ _ ⟨rfl,t,rfl,l1,l2⟩
    refine⟨t,rfl,(lgo E.G.L B hi200 (t:=t) (by omega)).mono ?_⟩
    rintro _ hz ⟨a',c',rfl,-,Lz,Kz⟩
    obtain⟨_,pq,qz,_⟩:=q.go l1 (by omega)
    have hc:=qz.cnt
    exact⟨_,_,_,_,rfl,⟨by omega,by omega⟩,_,_,_,⟨by omega,by omega⟩,E.step (Lz.sub fun y hy=>.inl hy) Kz,qz,pq.or,bd_go B _,rfl⟩
 ·-- the end
  have wt:IntKind.u64.wrap (now+1000)=now+1000:=wrap_u64 (by omega) (by omega)
  rw [wt]
  refine (lgo G.L B (by omega) (t:=now+1000) (by omega)).mono ?_
  rintro _ g194 ⟨a',c',rfl,-,Lz,Kz⟩
  obtain⟨z1,_,qz,ze⟩:=q.go (t:=now+1000) (by omega) (by omega)
  obtain⟨y1,y2⟩:=ze fun y hy=>by
   have:=q.dead y hy
   unfold dueBy
   exact decide_eq_true (by omega)
  have G194:Gd h db x T [] g194 (dGo st (now+1000)).2:=G.step (Lz.sub fun y hy=>.inl hy) Kz
  obtain⟨w3,w4⟩:=qz.end_ y2
  refine⟨_,_,_,_,rfl,fun hq=>?_,fun _=>⟨fun k hh=>(0≤k∧k≤4)∧Gd h db x T [] hh (dGo st (now+1000)).2,fun k _=>(4 - k).toNat,⟨⟨by omega,by omega⟩,G194⟩,?_⟩⟩
  ·exfalso
   rw [z1,← y1] at hq
   simp at hq
  rintro k g204 ⟨⟨k0,k1⟩,Gk⟩
  refine⟨fun hk=>?_,fun _=>?_⟩
  ·obtain⟨r,hr⟩:=w4 k.toNat (by omega)
   have ek:((k.toNat:Nat):Int)=k:=by omega
   rw [ek] at hr
   refine (lowner Gk.L k 1).mono ?_
   rw [hr]
   rintro _ g206 ⟨rfl,x206⟩
   exact⟨_,_,_,rfl,fun q=>by simp at q,fun _=>⟨⟨by omega,by omega⟩,⟨⟨by omega,by omega⟩,Gk.ext x206⟩,by dsimp only; omega⟩⟩
  ·refine (lcounts Gk.L).mono ?_
   rintro _ g214 ⟨rfl,x214⟩
   refine⟨_,_,rfl,?_,(Gk.ext x214).ex⟩
   rw [w3]; rfl
end Go.Proofs.Vf
