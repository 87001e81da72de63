/- Contracts of functions of the program over the heap, and laws that follow from them. Conditions: as stated at each. -/
import Derived.Test.YtcldahgjomfbpaaGreatE
import Derived.Test.YtcldahgjomfbpaaGreatFLaw
namespace Go.Proofs.Vf
open Go Go.Proofs Go.VC
def aw0:Dv:=dNew gotL 2 5
def awr7:Rq:=⟨7,0,100,0,⟨0,1,2,4⟩⟩
def awr8:Rq:=⟨8,0,100,0,⟨0,1,2,4⟩⟩
def aw1:Dv:=(dSubmit aw0 awr7).2
def aw2:Dv:=(dSubmit aw1 awr8).2
def aw3:Dv:=(dStart aw2).2
def aw4:Dv:=(dTake aw3).2
def aw5:Dv:=(dWrite aw4 0 1 [97,98]).2
def aw6:Dv:=(dFinish aw5 0 9 false).2
def aw7:Dv:=(dReap aw6).2
def aw8:Dv:=(dGo aw7 1).2
theorem av1:(dSubmit aw0 awr7).1=0:=by decide +kernel
theorem av2:(dSubmit aw1 awr8).1=8:=by decide +kernel
theorem av3:(dStart aw2).1 = [7]:=by decide +kernel
theorem av4:(dTake aw3).1.1=0∧(dTake aw3).1.2.2=0:=by decide +kernel
theorem av5:(dWrite aw4 0 1 [97,98]).1=0:=by decide +kernel
theorem av7:(dReap aw6).1.1=7∧(dReap aw6).1.2=0:=by decide +kernel
theorem av8:(dGo aw7 1).1.1=0∧(dGo aw7 1).1.2 = [⟨7,1,9⟩]:=by decide +kernel
theorem av9:pRead aw8.P 0 1 3 2=(0,[97,98]):=by decide +kernel
theorem ab2:Bd 1 aw2:=⟨by decide +kernel,by decide +kernel⟩
theorem ab3:Bd 1 aw3:=⟨by decide +kernel,by decide +kernel⟩
theorem ab6:Bd 1 aw6:=⟨by decide +kernel,by decide +kernel⟩
theorem ab7:Bd 1 aw7:=⟨by decide +kernel,by decide +kernel⟩
theorem _root_.Go.VC.Ext.kp {h0 h1 h2:Heap} {T:Nat→Prop} (x:Ext h0 h1) (k:Kp T h1 h2) (hT : ∀ y,y<h0.size→T y):Ext h0 h2:=Kp.ext x k hT
theorem awake_spec (h:Heap):CallsH PR fn_linchpinlaw20_awake #[] h (fun v h'=>v = .bool true∧Ext h h'):=by
  apply F_linchpinlaw20_awake_ok
  unfold F_linchpinlaw20_awake
  refine (got_spec h).mono ?_
  rintro _ h1 ⟨pb,rfl,x1,P1⟩
  refine ⟨_,rfl,fun q=>(by cases q),fun _=>?_⟩
  refine (lnew P1 x1 (fun y hy=>hy.1) gotL_own (n:=2) (cost:=5) (by omega) (by omega)).mono ?_
  rintro _ h5 ⟨db,x,rfl,x5,rfl,L5⟩
  refine ⟨_,_,rfl,fun q=>(by simp at q),fun _ h11 e11=>?_⟩
  have xx:=x1.trans x5
  obtain ⟨h14,s1,s2,s3,s4⟩:=st_tmp (zs:=[_,_]) e11 [.int .i64 0,.int .u64 1] rfl (by simp [Value.oneCell'])
  obtain ⟨L14,K14⟩:=L5.ext s3
  obtain ⟨T,hT⟩ : ∃ T:Nat→Prop,T=fun y=>y<h.size∨y=h5.size:=⟨_,rfl⟩
  replace L14:Lw db x T h14 aw0:=L14.sub fun y hy=>by
    rw [hT] at hy
    rcases hy with hy | hy
    · exact .inl hy
    · exact .inr ⟨by omega,by omega⟩
  have cH:T h5.size:=by rw [hT]; exact .inr rfl
  have old : ∀ y,y<h.size→T y:=fun y hy=>by rw [hT]; exact .inl hy
  have l0 : ∀ {hz:Heap},hz[h5.size]? = some (.cells (List.toArray [.int .i64 0,.int .u64 1]) 39 (0,0))→ldCells hz h5.size 0 2=some [.int .i64 0,.int .u64 1]:=fun q=>ld_lst q 2 0 (by simp)
  refine ⟨h14,s1,_,_,l0 s2,?_⟩
  refine (lsubmit L14 awr7 (by decide)).mono ?_
  rintro _ h17 ⟨rfl,(L17:Lw db x T h17 aw1),K17⟩
  have c17:=K17.get s2 cH
  refine ⟨_,rfl,_,_,l0 c17,?_⟩
  refine (lsubmit L17 awr8 (by decide)).mono ?_
  rintro _ h22 ⟨rfl,(L22:Lw db x T h22 aw2),K22⟩
  refine ⟨_,rfl,?_⟩
  refine (lstart L22 ab2 (by omega)).mono ?_
  rintro _ h25 ⟨a,c,rfl,-,L25,K25,-⟩
  replace L25:Lw db x T h25 aw3:=L25.sub fun y hy=>.inl hy
  refine ⟨_,_,_,rfl,?_⟩
  refine (ltake L25 ab3 (by omega)).mono ?_
  rintro _ h28 ⟨rfl,(L28:Lw db x T h28 aw4),K28⟩
  refine ⟨_,_,_,_,_,_,_,_,_,_,_,rfl,fun h33 e33=>?_⟩
  obtain ⟨h36,t1,t2,t3,t4⟩:=st_tmp (zs:=[_,_,_,_,_,_,_,_,_]) e33 (dscV (dTake aw3).1.2.1) rfl (dscV_one _)
  obtain ⟨L36,K36⟩:=L28.ext t3
  replace L36:Lw db x T h36 aw4:=L36.sub fun y hy=>.inl hy
  refine ⟨h36,t1,fun h37 e37=>?_⟩
  obtain ⟨u1,u2,u3⟩:=push_get e37
  obtain ⟨L37,K37⟩:=L36.ext u2
  refine ⟨⟨_,_,_,u1⟩,fun h39 m39=>?_⟩
  obtain ⟨m1,m2,m3⟩:=m39
  obtain ⟨z,hz⟩:=m3 _ _ _ u1
  have L39:=L37.tmp (t:=h36.size) (.inr ⟨Nat.le_refl _,by omega⟩) m2 m1
  replace L39:Lw db x T h39 aw4:=L39.sub fun y hy=>.inl hy
  have K39:Kp T h36 h39:=⟨by omega,fun y hy=>by rw [m2 y (fun q=>by have:=L36.lt hy; omega),K37.2 y hy]⟩
  have f39:firstH h39 1 2 (.slice (some ⟨h36.size,0,none⟩) 2 2)=some ([97,98].map u8):=by
    simp [firstH,ldCells,cellH,hz]
  have e4:(dTake aw3).1.1=0:=av4.1
  rw [e4]
  refine (lwrite L39 0 1 (bs:=[97,98]) rfl f39 (by omega)).mono ?_
  rintro _ h42 ⟨rfl,(L42:Lw db x T h42 aw5),K42⟩
  refine ⟨_,rfl,?_⟩
  refine (lfinish L42 0 9 false).mono ?_
  rintro _ h45 ⟨rfl,(L45:Lw db x T h45 aw6),K45⟩
  refine ⟨_,rfl,?_⟩
  refine (lreap L45 ab6 (by omega)).mono ?_
  rintro _ h48 ⟨rfl,(L48:Lw db x T h48 aw7),K48⟩
  refine ⟨_,_,rfl,?_⟩
  refine (lgo L48 ab7 (by omega) (t:=1) (by decide)).mono ?_
  rintro _ h52 ⟨a52,c52,rfl,s52,L52,K52⟩
  have KK:Kp T h17 h52:=(((((((K22.trans K25 fun _ q=>q).trans K28 fun _ q=>q).trans K36 fun _ q=>q).trans K39 fun _ q=>q).trans K42 fun _ q=>q).trans K45 fun _ q=>q).trans K48 fun _ q=>q).trans K52 fun _ q=>q
  have c52':=KK.get c17 cH
  refine ⟨_,_,_,_,rfl,_,_,l0 c52',?_⟩
  refine (lread L52 0 1 3 2 (by omega)).mono ?_
  rintro _ h59 ⟨a59,c59,rfl,x59,s59,-⟩
  obtain ⟨v1,v2⟩:=av8
  have v2':(dGo aw7 1).1.2 = [⟨7,1,9⟩]:=v2
  obtain ⟨b,o,rfl,ld⟩:=flat_ld (s52.ext x59) (i:=0) (f:=⟨7,1,9⟩) (by rw [v2]; rfl)
  rw [Nat.zero_mul,Nat.add_zero] at ld
  have w9:pRead (dGo aw7 1).2.P 0 1 3 2=(0,[97,98]):=av9
  rw [w9] at s59 ⊢
  refine ⟨_,_,_,_,rfl,b,o,fun _=>rfl,fun _=>?_,7,1,9,fun _=>ld,[97,98],fun _=>s59.first,?_,?_⟩
  · rw [v2]; decide
  · have w1:(dSubmit aw0 awr7).1=0:=av1
    have w2:(dSubmit aw1 awr8).1=8:=av2
    have w3:(dStart aw2).1 = [7]:=av3
    have w5:(dWrite aw4 0 1 [97,98]).1=0:=av5
    rw [w1,w2,w3,av4.2,w5,av7.1,av7.2,v2]
    rfl
  · have e17:Ext h h14:=(x1.trans x5).trans s3
    exact ((e17.kp K17 old).kp KK old).trans x59
end Go.Proofs.Vf
namespace Go.Proofs.Vf
open Go Go.Proofs Go.VC
def ArgI (h:Heap) (k:IntKind) (a:Option Addr) (xs:List Int):Prop:=∀ i x,xs[i]? = some x→∃ b o,a=some ⟨b,o,none⟩∧cellH h b (o+i)=some (.int k x)
theorem ArgI.ext {h h':Heap} {k:IntKind} {a:Option Addr} {xs:List Int} (A:ArgI h k a xs) (x:Ext h h'):ArgI h' k a xs:=fun i v hv=>by
  obtain ⟨b,o,h1,h2⟩:=A i v hv
  exact ⟨b,o,h1,x.cell h2⟩
theorem ArgI.first {h:Heap} {a:Option Addr} {bs:List Int} (A:ArgI h .u8 a bs) {n c:Nat} (hn:n=bs.length) (ha : ∀ A,a=some A→A.spot=none):firstH h 1 n (.slice a n c)=some (bs.map u8):=by
  cases a with
  | none=>
    have:bs = []:=by
      cases bs with
      | nil=>rfl
      | cons x bs=>obtain ⟨b,o,q,_⟩:=A 0 x rfl; cases q
    subst this; rfl
  | some A'=>
    obtain ⟨b,o,s⟩:=A'
    have hs:=ha _ rfl
    simp only at hs
    subst hs
    have:=ldc_of (h:=h) (b:=b) (vs:=bs.map u8) (o:=o) fun i v hv=>by
      rw [List.getElem?_map] at hv
      obtain ⟨x,hx,rfl⟩:=Option.map_eq_some_iff.1 hv
      obtain ⟨b',o',q,hc⟩:=A i x hx
      cases q
      exact hc
    rw [List.length_map] at this
    show ldCells h b o (n * 1)=_
    rw [Nat.mul_one,hn]; exact this
section
variable {n:Nat} {st:Dv}
theorem bd_of {s:Dv} (b:Bd n st) (h1:s.B.F.length≤st.B.F.length+1) (h2:s.RL.length≤st.RL.length+65):Bd (n+1) s:=⟨by have:=b.1; omega,by have:=b.2; omega⟩
theorem stOpen_F (s:St) (id d:Int):(stOpen s id d).2.F=s.F:=by
  unfold stOpen
  repeat (first | rfl | split)
theorem stOut_F (s:St) (id k w:Int):(stOut s id k w).2.F.length≤s.F.length+1:=by
  unfold stOut; split
  · simp
  · dsimp only; omega
theorem stAnswer_F (s:St) (id t:Int) (bad:Bool):(stAnswer s id t bad).2.F.length≤s.F.length+1:=by
  unfold stAnswer
  split
  · dsimp only; omega
  split <;> exact stOut_F _ _ _ _
theorem bd_submit (b:Bd n st) (r:Rq):Bd (n+1) (dSubmit st r).2:=by
  refine bd_of b ?_ (by rw [submit_RLe]; omega)
  have:(dSubmit st r).2.B.F=st.B.F:=by
    have:=stOpen_F st.B r.id r.dead
    unfold dSubmit
    repeat (first | rfl | exact this | split)
  rw [this]; omega
theorem bd_take (b:Bd n st):Bd (n+1) (dTake st).2:=by
  refine bd_of b ?_ (by rw [take_RLe]; omega)
  have:(dTake st).2.B=st.B:=by
    unfold dTake
    cases st.RL[st.taken]? with
    | none=>rfl
    | some d=>
      dsimp only
      cases st.I (st.taken:Nat) with
      | none=>rfl
      | some e=>dsimp only; split <;> rfl
  rw [this]; omega
theorem bd_finish (b:Bd n st) (no s:Int) (bad:Bool):Bd (n+1) (dFinish st no s bad).2:=by
  rcases dFinish_cases st no s bad with ⟨c,_,e⟩ | ⟨d,_,_,_,_,_,e⟩
  · rw [e]; exact b.mono (by omega)
  · rw [e]
    exact bd_of b (by dsimp only; omega) (by dsimp only; rw [List.length_set]; omega)
theorem bd_reap (b:Bd n st):Bd (n+1) (dReap st).2:=by
  refine bd_of b ?_ (by rw [reap_RLe]; omega)
  unfold dReap
  cases st.RL[st.reaped]? with
  | none=>dsimp only; omega
  | some d=>
    dsimp only
    split
    · dsimp only; omega
    dsimp only
    cases st.I (st.reaped:Nat) with
    | none=>dsimp only; omega
    | some e=>
      dsimp only
      split
      · dsimp only; omega
      · dsimp only
        rw [(dLeave_fields _ _).1]
        exact stAnswer_F _ _ _ _
theorem bd_cancel (b:Bd n st) (id:Int):Bd (n+1) (dCancel st id).2:=by
  refine bd_of b ?_ (by rw [cancel_RLe]; omega)
  unfold dCancel
  split
  · dsimp only; rw [(dLeave_fields _ _).1]; exact stOut_F _ _ _ _
  · exact stOut_F _ _ _ _
theorem bd_go (b:Bd n st) (t:Int):Bd (n+1) (dGo st t).2:=by
  refine bd_of b ?_ (by rw [go_RLe]; omega)
  unfold dGo
  rw [foldl_B]
  unfold stGo
  split
  · dsimp only; omega
  split
  · dsimp only; omega
  · simp
theorem startN_len : ∀ (k:Nat) (s:Dv),(dStartN k s).2.RL.length≤s.RL.length+k∧(dStartN k s).2.B=s.B
  | 0,s=>⟨Nat.le_refl _,rfl⟩
  | k+1,s=>by
    unfold dStartN
    cases h:dStart1 s with
    | none=>exact ⟨by dsimp only; omega,rfl⟩
    | some p=>
      obtain ⟨id,s'⟩:=p
      obtain ⟨h1,h2⟩:=startN_len k s'
      have h3:=(dStart1_len h).1
      refine ⟨by dsimp only; omega,?_⟩
      dsimp only
      rw [h2]
      unfold dStart1 at h
      split at h
      · cases h
      split at h
      · cases h
      simp only at h
      split at h
      · cases h
      · simp only [Option.some.injEq,Prod.mk.injEq] at h
        rw [← h.2]
theorem bd_start (b:Bd n st):Bd (n+1) (dStart st).2:=by
  obtain ⟨h1,h2⟩:=startN_len 65 st
  exact bd_of b (by unfold dStart; rw [h2]; omega) h1
theorem bd_new {L:List Buf} {size:Nat} {cost:Int} : Bd 0 (dNew L size cost):=⟨Nat.le_refl _,Nat.le_refl _⟩
end
structure Gd (h0:Heap) (db:Nat) (x:DX) (T:Nat→Prop) (tm:List (Nat × Obj)) (h:Heap) (st:Dv):Prop where
  L:Lw db x T h st
  ex:Ext h0 h
  tm : ∀ p∈tm,h[p.1]? = some p.2∧T p.1
  old : ∀ y,y<h0.size→T y
section
variable {h0 h h':Heap} {db:Nat} {x:DX} {T:Nat→Prop} {tm:List (Nat × Obj)} {st st':Dv}
theorem Gd.step (g:Gd h0 db x T tm h st) (L:Lw db x T h' st') (k:Kp T h h'):Gd h0 db x T tm h' st':=
  ⟨L,Kp.ext g.ex k g.old,fun p hp=>⟨k.get (g.tm p hp).1 (g.tm p hp).2,(g.tm p hp).2⟩,g.old⟩
theorem Gd.ext (g:Gd h0 db x T tm h st) (e:Ext h h'):Gd h0 db x T tm h' st:=by
  obtain ⟨L,K⟩:=g.L.ext e
  exact g.step (L.sub fun y hy=>.inl hy) K
theorem Gd.get (g:Gd h0 db x T tm h st) {b:Nat} {o:Obj} (hp:(b,o)∈tm):h[b]? = some o:=(g.tm _ hp).1
theorem Gd.to (g:Gd h0 db x T tm h st) (e:st=st'):Gd h0 db x T tm h st':=e ▸ g
theorem gd_new {h1 h2:Heap} (x0:Ext h0 h1) (L:Lw db x (fun y=>y<h1.size) h2 st) (x2:Ext h1 h2) (e:Ext h2 h) (ht : ∀ p∈tm,h[p.1]? = some p.2∧h2.size≤p.1) :
    Gd h0 db x (fun y=>y<h0.size∨∃ p∈tm,p.1=y) tm h st:=by
  obtain ⟨L',K⟩:=L.ext e
  refine ⟨L'.sub fun y hy=>?_,(x0.trans x2).trans e,fun p hp=>⟨(ht p hp).1,.inr ⟨p,hp,rfl⟩⟩,fun y hy=>.inl hy⟩
  rcases hy with hy | ⟨p,hp,rfl⟩
  · exact .inl (by have:=x0.1; omega)
  · exact .inr ⟨(ht p hp).2,lt_of_get (ht p hp).1⟩
end
end Go.Proofs.Vf
namespace Go.Proofs.Vf
open Go Go.Proofs Go.VC
def bdr:Rq:=⟨4,0,80,0,⟨1,1,0,3⟩⟩
def bd1:Dv:=(dSubmit aw0 bdr).2
def bd2:Dv:=(dSubmit bd1 bdr).2
def bdS (k:Int):Dv:=if 0<k then (dStart bd2).2 else bd2
def bdK (k:Int):Dv:=if 1<k then (dTake (bdS k)).2 else bdS k
def bdX (k st:Int):Dv:=if k=3 then (dCancel (dReap (dFinish (bdK k) 0 st true).2).2 4).2 else (dCancel (dCancel (bdK k) 4).2 4).2
def bdG (k st:Int):Dv:=(dGo (bdX k st) 2).2
def bdA (k st:Int):Dv:=(dSubmit (bdG k st) bdr).2
def bdT (k st:Int):Dv:=if k=1 then (dTake (bdA k st)).2 else bdA k st
def bdF (k st:Int):Dv:=(dFinish (bdT k st) 0 0 false).2
def bdR (k st:Int):Dv:=(dReap (bdF k st)).2
def bdW (k:Int):Int:=if k=3 then 2 else 3
theorem bv1:(dSubmit aw0 bdr).1=0∧(dSubmit bd1 bdr).1=8:=by decide +kernel
theorem bv3 : ∀ n:Fin 256,(dFinish (bdK 3) 0 (n.val:Int) true).1=0∧(dReap (dFinish (bdK 3) 0 (n.val:Int) true).2).1=(4,0)∧(dCancel (dReap (dFinish (bdK 3) 0 (n.val:Int) true).2).2 4).1=6:=by decide +kernel
theorem bv4 : ∀ k:Fin 3,(dCancel (bdK (k.val:Int)) 4).1=0∧(dCancel (dCancel (bdK (k.val:Int)) 4).2 4).1=6:=by decide +kernel
theorem bv5 : ∀ k:Fin 3,(pOwner (bdX (k.val:Int) 0).P 1 1).1=1∧(dGo (bdX (k.val:Int) 0) 2).1=(0,[⟨4,2,3⟩])∧(dSubmit (bdG (k.val:Int) 0) bdr).1=(if k.val=0 then 0 else 7):=by decide +kernel
theorem bv5' : ∀ n:Fin 256,(pOwner (bdX 3 (n.val:Int)).P 1 1).1=1∧(dGo (bdX 3 (n.val:Int)) 2).1=(0,[⟨4,2,2⟩])∧(dSubmit (bdG 3 (n.val:Int)) bdr).1=0:=by decide +kernel
theorem bv8 : ∀ k:Fin 2,(dReap (bdF (k.val+1:Nat) 0)).1.2=0∧(dSubmit (bdR (k.val+1:Nat) 0) bdr).1=0:=by decide +kernel
theorem bdX_st {k st:Int} (h:k≠3):bdX k st=bdX k 0:=by unfold bdX; rw [if_neg h,if_neg h]
theorem bw3 {st:Int} (h:0≤st∧st<256):(dFinish (bdK 3) 0 st true).1=0∧(dReap (dFinish (bdK 3) 0 st true).2).1=(4,0)∧(dCancel (dReap (dFinish (bdK 3) 0 st true).2).2 4).1=6:=by
  have:=bv3 ⟨st.toNat,by omega⟩
  have e:((st.toNat:Nat):Int)=st:=by omega
  dsimp only at this
  rw [e] at this
  exact this
theorem bw4 {k:Int} (h:0≤k∧k<3):(dCancel (bdK k) 4).1=0∧(dCancel (dCancel (bdK k) 4).2 4).1=6:=by
  have:=bv4 ⟨k.toNat,by omega⟩
  have e:((k.toNat:Nat):Int)=k:=by omega
  dsimp only at this
  rw [e] at this
  exact this
theorem bw5 {k st:Int} (hk:0≤k∧k<4) (h:0≤st∧st<256):(pOwner (bdX k st).P 1 1).1=1∧(dGo (bdX k st) 2).1=(0,[⟨4,2,bdW k⟩])∧(dSubmit (bdG k st) bdr).1=(if k=0∨k=3 then 0 else 7):=by
  by_cases h3:k=3
  · subst h3
    have:=bv5' ⟨st.toNat,by omega⟩
    have e:((st.toNat:Nat):Int)=st:=by omega
    dsimp only at this
    rw [e] at this
    rw [if_pos (.inr rfl)]
    exact this
  · have:=bv5 ⟨k.toNat,by omega⟩
    have e:((k.toNat:Nat):Int)=k:=by omega
    dsimp only at this
    rw [e] at this
    unfold bdG bdW
    rw [bdX_st h3,if_neg h3]
    refine ⟨this.1,this.2.1,this.2.2.trans ?_⟩
    by_cases h0:k=0
    · rw [if_pos (by omega),if_pos (.inl h0)]
    · rw [if_neg (by omega),if_neg (by omega)]
theorem bw8 {k st:Int} (hk:k=1∨k=2):(dReap (bdF k st)).1.2=0∧(dSubmit (bdR k st) bdr).1=0:=by
  have:=bv8 ⟨(k - 1).toNat,by omega⟩
  have e:(((k - 1).toNat+1:Nat):Int)=k:=by omega
  dsimp only at this
  rw [e] at this
  have:bdX k st=bdX k 0:=bdX_st (by omega)
  unfold bdR bdF bdT bdA bdG
  rw [this]
  assumption
theorem bad_spec {h:Heap} {p0 st:Int} (h0:0≤p0∧p0<256) (h2:0≤st∧st<256) :
    CallsH PR fn_linchpinlaw20_IoqBad #[.int .u8 p0,.int .u8 st] h (fun v h'=>v = .bool true∧Ext h h'):=by
  apply F_linchpinlaw20_IoqBad_ok
  unfold F_linchpinlaw20_IoqBad
  refine (awake_spec h).mono ?_
  rintro _ g1 ⟨rfl,x1⟩
  refine ⟨true,rfl,fun q=>(by cases q),fun _=>?_⟩
  have w0:IntKind.i64.wrap p0=p0:=wrap_i64 ⟨by omega,by omega⟩
  have w2:IntKind.i64.wrap st=st:=wrap_i64 ⟨by omega,by omega⟩
  rw [w0,w2]
  obtain ⟨k,hk⟩ : ∃ k,k=p0.tmod 4:=⟨_,rfl⟩
  rw [← hk]
  have k0:0≤k∧k<4:=by rw [hk,Int.tmod_eq_emod_of_nonneg h0.1]; omega
  refine (got_spec g1).mono ?_
  rintro _ g4 ⟨pb,rfl,x4,P4⟩
  refine ⟨_,rfl,?_⟩
  refine (lnew P4 x4 (fun y hy=>hy.1) gotL_own (n:=2) (cost:=5) (by omega) (by omega)).mono ?_
  rintro _ g7 ⟨db,x,rfl,x7,rfl,L7⟩
  refine ⟨_,_,rfl,fun q=>(by simp at q),fun _ g13 e13=>?_⟩
  obtain ⟨g16,s1,s2,s3,s4⟩:=st_tmp (zs:=[_,_]) e13 [.int .i64 1,.int .u64 1] rfl (by simp [Value.oneCell'])
  refine ⟨g16,s1,_,_,ld_lst s2 2 0 (by simp),fun g19 e19=>?_⟩
  obtain ⟨g22,t1,t2,t3,t4⟩:=st_tmp (zs:=[_,_,_,_,_,_,_,_]) e19 (rqV bdr) rfl (by simp [rqV,Value.oneCell'])
  refine ⟨g22,t1,?_⟩
  obtain ⟨tm,htm⟩ : ∃ tm,tm = [(g7.size,Obj.cells (List.toArray [.int .i64 1,.int .u64 1]) 39 (0,0)),(g16.size,Obj.cells (List.toArray (rqV bdr)) 43 (0,0))]:=⟨_,rfl⟩
  have G0:=gd_new (tm:=tm) x1 L7 (x4.trans x7) (s3.trans t3) (fun p hp=>by
    rw [htm] at hp
    rcases List.mem_cons.1 hp with rfl | hp
    · exact ⟨t3.get s2,Nat.le_refl _⟩
    · rcases List.mem_cons.1 hp with rfl | hp
      · exact ⟨t2,s3.1⟩
      · cases hp)
  obtain ⟨T,hT⟩ : ∃ T:Nat→Prop,T=fun y=>y<h.size∨∃ p∈tm,p.1=y:=⟨_,rfl⟩
  rw [← hT] at G0
  replace G0:Gd h db x T tm g22 aw0:=G0
  have lH : ∀ {hz:Heap} {s:Dv},Gd h db x T tm hz s→ldCells hz g7.size 0 2=some [.int .i64 1,.int .u64 1]:=fun G=>ld_lst (G.get (o:=.cells (List.toArray [.int .i64 1,.int .u64 1]) 39 (0,0)) (by rw [htm]; exact List.mem_cons_self)) 2 0 (by simp)
  have lR : ∀ {hz:Heap} {s:Dv},Gd h db x T tm hz s→ldCells hz g16.size 0 8=some (rqV bdr):=fun G=>ld_lst (G.get (o:=.cells (List.toArray (rqV bdr)) 43 (0,0)) (by rw [htm]; simp)) 8 0 (by simp [rqV])
  have B2:Bd 2 bd2:=bd_submit (bd_submit bd_new bdr) bdr
  have BS:Bd 3 (bdS k):=by unfold bdS; split; exact bd_start B2; exact B2.mono (by omega)
  have BK:Bd 4 (bdK k):=by unfold bdK; split; exact bd_take BS; exact BS.mono (by omega)
  have BX:Bd 7 (bdX k st):=by
    unfold bdX; split
    · exact bd_cancel (bd_reap (bd_finish BK _ _ _)) _
    · exact (bd_cancel (bd_cancel BK _) _).mono (by omega)
  have BG:Bd 8 (bdG k st):=bd_go BX _
  have BA:Bd 9 (bdA k st):=bd_submit BG _
  have BT:Bd 10 (bdT k st):=by unfold bdT; split; exact bd_take BA; exact BA.mono (by omega)
  have BF:Bd 11 (bdF k st):=bd_finish BT _ _ _
  refine ⟨_,_,_,_,_,_,_,_,lR G0,?_⟩
  refine (lsubmit G0.L bdr (by decide)).mono ?_
  rintro _ g26 ⟨rfl,L26,K26⟩
  have G26:Gd h db x T tm g26 bd1:=G0.step L26 K26
  refine ⟨_,rfl,_,_,_,_,_,_,_,_,fun _=>lR G26,fun c hh=>c=8∧Gd h db x T tm hh bd2,?_,fun _=>?_,fun q=>absurd bv1.1 q⟩
  rotate_left
  · refine (lsubmit G26.L bdr (by decide)).mono ?_
    rintro _ hz ⟨rfl,Lz,Kz⟩
    exact ⟨_,rfl,bv1.2,G26.step Lz Kz⟩
  rintro c g32 ⟨rfl,G32⟩
  refine ⟨fun q=>?_,fun _=>⟨fun hh=>Gd h db x T tm hh (bdS k),?_,fun hk0=>?_,fun hk0=>?_⟩⟩
  · exfalso; rw [bv1.1] at q; simp at q
  rotate_left
  · refine (lstart G32.L B2 (by omega)).mono ?_
    rintro _ hz ⟨a,c,rfl,-,Lz,Kz,-⟩
    exact ⟨_,_,_,rfl,(G32.step (Lz.sub fun y hy=>.inl hy) Kz).to (by unfold bdS; rw [if_pos hk0])⟩
  · exact G32.to (by unfold bdS; rw [if_neg hk0])
  intro g39 G39
  refine ⟨fun hh=>Gd h db x T tm hh (bdK k),?_,fun hk1=>?_,fun hk1=>?_⟩
  rotate_left
  · refine (ltake G39.L BS (by omega)).mono ?_
    rintro _ hz ⟨rfl,Lz,Kz⟩
    exact ⟨_,_,_,_,_,_,_,_,_,_,_,rfl,(G39.step Lz Kz).to (by unfold bdK; rw [if_pos hk1])⟩
  · exact G39.to (by unfold bdK; rw [if_neg hk1])
  intro g42 G42
  obtain ⟨v1,v2,v3⟩:=bw5 k0 h2
  refine ⟨fun w hh=>w=bdW k∧Gd h db x T tm hh (bdX k st),?_,fun hk3=>?_,fun hk3=>?_⟩
  rotate_left
  · subst hk3
    obtain ⟨u1,u2,u3⟩:=bw3 h2
    refine (lfinish G42.L 0 st true).mono ?_
    rintro _ g102 ⟨rfl,L102,K102⟩
    have G102:=G42.step L102 K102
    refine ⟨_,rfl,fun q=>absurd u1 q,fun _=>(lreap G102.L (bd_finish BK _ _ _) (by omega)).mono ?_⟩
    rintro _ g106 ⟨rfl,L106,K106⟩
    have G106:=G102.step L106 K106
    rw [u2]
    refine ⟨_,_,rfl,fun c hh=>c=6∧Gd h db x T tm hh (bdX 3 st),?_,fun _=>?_,fun q=>?_⟩
    · rintro c hz ⟨rfl,Gz⟩
      exact ⟨fun q=>(by simp at q),fun _=>⟨rfl,Gz⟩⟩
    · refine (lcancel G106.L (bd_reap (bd_finish BK _ _ _)) (by omega) 4).mono ?_
      rintro _ hz ⟨rfl,Lz,Kz⟩
      exact ⟨_,rfl,u3,(G106.step Lz Kz).to (by unfold bdX; rw [if_pos rfl])⟩
    · exfalso; simp at q
  · obtain ⟨u1,u2⟩:=bw4 (k:=k) (by omega)
    refine (lcancel G42.L BK (by omega) 4).mono ?_
    rintro _ g117 ⟨rfl,L117,K117⟩
    have G117:=G42.step L117 K117
    refine ⟨_,rfl,fun c hh=>c=6∧Gd h db x T tm hh (bdX k st),?_,fun _=>?_,fun q=>absurd u1 q⟩
    · rintro c hz ⟨rfl,Gz⟩
      refine ⟨fun q=>?_,fun _=>⟨by unfold bdW; rw [if_neg hk3],Gz⟩⟩
      rw [u1] at q; simp at q
    · refine (lcancel G117.L (bd_cancel BK _) (by omega) 4).mono ?_
      rintro _ hz ⟨rfl,Lz,Kz⟩
      exact ⟨_,rfl,u2,(G117.step Lz Kz).to (by unfold bdX; rw [if_neg hk3])⟩
  rintro w g46 ⟨rfl,G46⟩
  refine ⟨_,_,lH G46,(lowner G46.L 1 1).mono ?_⟩
  rintro _ g49 ⟨rfl,x49⟩
  have G49:=G46.ext x49
  refine ⟨_,_,_,rfl,(lgo G49.L BX (by omega) (t:=2) (by decide)).mono ?_⟩
  rintro _ g54 ⟨a,c,rfl,s54,L54,K54⟩
  have G54:Gd h db x T tm g54 (bdG k st):=G49.step (L54.sub fun y hy=>.inl hy) K54
  have e1:(dGo (bdX k st) 2).1.1=0:=by rw [v2]
  have e2:(dGo (bdX k st) 2).1.2 = [⟨4,2,bdW k⟩]:=by rw [v2]
  rw [e1,e2,v1]
  rw [e2] at s54
  obtain ⟨b,o,rfl,ld⟩:=flat_ld s54 (i:=0) (f:=⟨4,2,bdW k⟩) rfl
  rw [Nat.zero_mul,Nat.add_zero] at ld
  refine ⟨_,_,_,_,rfl,b,o,fun _=>rfl,fun _=>by simp,4,2,bdW k,fun _=>ld,fun q=>?_,fun _=>?_⟩
  · exfalso; simp at q
  refine ⟨_,_,_,_,_,_,_,_,lR G54,(lsubmit G54.L bdr (by decide)).mono ?_⟩
  rintro _ g70 ⟨rfl,L70,K70⟩
  have G70:Gd h db x T tm g70 (bdA k st):=G54.step L70 K70
  refine ⟨_,rfl,fun q=>?_,fun q=>?_⟩
  · refine ⟨?_,G70.ex⟩
    rw [v3,if_pos (by simpa using q)]; rfl
  have hk12:k=1∨k=2:=by simp at q; omega
  rw [v3,if_neg (by omega)]
  refine ⟨fun q=>absurd rfl q,fun _=>⟨fun hh=>Gd h db x T tm hh (bdT k st),?_,fun hk1=>?_,fun hk1=>?_⟩⟩
  rotate_left
  · refine (ltake G70.L BA (by omega)).mono ?_
    rintro _ hz ⟨rfl,Lz,Kz⟩
    exact ⟨_,_,_,_,_,_,_,_,_,_,_,rfl,(G70.step Lz Kz).to (by unfold bdT; rw [if_pos hk1])⟩
  · exact G70.to (by unfold bdT; rw [if_neg hk1])
  intro g79 G79
  obtain ⟨r1,r2⟩:=bw8 (st:=st) hk12
  refine (lfinish G79.L 0 0 false).mono ?_
  rintro _ g80 ⟨rfl,L80,K80⟩
  have G80:Gd h db x T tm g80 (bdF k st):=G79.step L80 K80
  refine ⟨_,rfl,(lreap G80.L BF (by omega)).mono ?_⟩
  rintro _ g83 ⟨rfl,L83,K83⟩
  have G83:Gd h db x T tm g83 (bdR k st):=G80.step L83 K83
  rw [r1]
  refine ⟨_,_,rfl,_,_,_,_,_,_,_,_,fun _=>lR G83,fun c hh=>c=0∧Ext h hh,?_,fun _=>?_,fun q=>absurd rfl q⟩
  · rintro c hz ⟨rfl,xz⟩
    exact ⟨rfl,xz⟩
  · refine (lsubmit G83.L bdr (by decide)).mono ?_
    rintro _ hz ⟨rfl,Lz,Kz⟩
    exact ⟨_,rfl,r2,(G83.step Lz Kz).ex⟩
end Go.Proofs.Vf
