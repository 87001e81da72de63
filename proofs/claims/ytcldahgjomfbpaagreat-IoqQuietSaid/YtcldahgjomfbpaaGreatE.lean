/- Contracts of functions of the program over the heap, and laws that follow from them. Conditions: as stated at each. -/
import Derived.Test.YtcldahgjomfbpaaGreatD
namespace Go.Proofs.Vf
open Go Go.Proofs Go.VC
theorem take_drop_sub {α : Type} : ∀ (Q:List α) (i:Nat),(Q.take i ++ Q.drop (i+1)).Sublist Q
 | [],i=>by simp
 | a :: Q,0=>by simp
 | a :: Q,i+1=>by simpa using take_drop_sub Q i
theorem qDrop_sub (Q:List Wnt) (id:Int):(qDrop Q id).2.Sublist Q:=by
 unfold qDrop
 split
 ·exact take_drop_sub Q _
 ·exact List.Sublist.refl _
theorem qDrop_mem : ∀ {Q:List Wnt} {id:Int} (_:(Q.map (·.id)).Nodup) (w:Wnt),w∈(qDrop Q id).2↔w∈Q∧w.id≠id
 | [],id,_,w=>by simp [qDrop]
 | a :: Q,id,hn,w=>by
  rw [List.map_cons,List.nodup_cons] at hn
  by_cases h:a.id=id
  ·have e:(qDrop (a :: Q) id).2=Q:=by simp [qDrop,List.findIdx?_cons,h]
   rw [e]
   constructor
   ·intro hw
    refine⟨List.mem_cons_of_mem _ hw,fun q=>hn.1 ?_⟩
    rw [h,← q]; exact List.mem_map_of_mem hw
   ·rintro⟨hw,hne⟩
    rcases List.mem_cons.1 hw with rfl | hw
    ·exact absurd h hne
    ·exact hw
  ·have e:(qDrop (a :: Q) id).2=a :: (qDrop Q id).2:=by
    unfold qDrop
    rw [List.findIdx?_cons,if_neg (by simp [h])]
    cases hf:Q.findIdx? (fun w=>decide (w.id=id)) with
    | none=>simp
    | some i=>simp
   rw [e,List.mem_cons,qDrop_mem hn.2 w,List.mem_cons]
   constructor
   ·rintro (rfl | ⟨h1,h2⟩)
    ·exact⟨.inl rfl,h⟩
    ·exact⟨.inr h1,h2⟩
   ·rintro⟨rfl | h1,h2⟩
    ·exact .inl rfl
    ·exact .inr ⟨h1,h2⟩
theorem insW_eq (w:Wnt) (Q:List Wnt):insW w Q=Q.takeWhile (lessW · w) ++ w :: Q.dropWhile (lessW · w):=by
 have h : ∀ Q:List Wnt,Q.take (posW w Q)=Q.takeWhile (lessW · w)∧Q.drop (posW w Q)=Q.dropWhile (lessW · w):=fun Q=>by
  induction Q with
  | nil=>exact⟨rfl,rfl⟩
  | cons a Q ih=>
   unfold posW at *
   by_cases q:lessW a w=true
   ·simp [q,ih]
   ·simp [q]
 unfold insW
 rw [(h Q).1,(h Q).2]
theorem insW_mem {w x:Wnt} {Q:List Wnt} : x∈insW w Q↔x=w∨x∈Q:=by
 rw [insW_eq,List.mem_append,List.mem_cons]
 have:x∈Q↔x∈Q.takeWhile (lessW · w)∨x∈Q.dropWhile (lessW · w):=by rw [← List.mem_append,List.takeWhile_append_dropWhile]
 rw [this]
 constructor
 ·rintro (h | h | h) <;> simp [h]
 ·rintro (h | h | h) <;> simp [h]
theorem insW_perm (w:Wnt) (Q:List Wnt):(insW w Q).Perm (w :: Q):=by
 rw [insW_eq]
 refine List.perm_middle.trans ?_
 rw [List.takeWhile_append_dropWhile]
theorem lessW_tri {a b:Wnt} (h:a.id≠b.id):lessW a b=true∨lessW b a=true:=by
 rw [lessW_iff,lessW_iff]; omega
theorem all_dropW {x:Wnt} : ∀ {L:List Wnt},srtW L→(∀ y∈L,y.id≠x.id)→∀ y∈L.dropWhile (lessW · x),lessW x y=true
 | [],_,_,y,h=>by cases h
 | a :: L,hs,hx,y,h=>by
  rw [List.dropWhile_cons] at h
  split at h
  ·exact all_dropW (List.pairwise_cons.1 hs).2 (fun z hz=>hx z (by simp [hz])) y h
  ·rename_i hn
   have hxa:lessW x a=true:=by
    rcases lessW_tri (hx a (by simp)) with q | q
    ·exact absurd q hn
    ·exact q
   rcases List.mem_cons.1 h with rfl | hy
   ·exact hxa
   ·exact lessW_trans hxa ((List.pairwise_cons.1 hs).1 y hy)
theorem insW_srt {x:Wnt} {L:List Wnt} (hs:srtW L) (hx : ∀ y∈L,y.id≠x.id):srtW (insW x L):=by
 rw [insW_eq]
 unfold srtW
 rw [List.pairwise_append,List.pairwise_cons]
 have ht : ∀ y∈L.takeWhile (lessW · x),lessW y x=true:=fun y hy=>by
  have:=List.all_takeWhile (p:=(lessW · x)) (l:=L)
  rw [List.all_eq_true] at this
  exact this y hy
 have hd:=all_dropW hs hx
 refine⟨List.Pairwise.sublist (List.takeWhile_sublist _) hs,⟨hd,List.Pairwise.sublist (List.dropWhile_sublist _) hs⟩,?_⟩
 intro a ha b hb
 rcases List.mem_cons.1 hb with rfl | hb
 ·exact ht a ha
 ·exact lessW_trans (ht a ha) (hd b hb)
theorem insW_nodup {x:Wnt} {L:List Wnt} (hn:(L.map (·.id)).Nodup) (hx : ∀ y∈L,y.id≠x.id):((insW x L).map (·.id)).Nodup:=by
 rw [((insW_perm x L).map (·.id)).nodup_iff,List.map_cons,List.nodup_cons]
 refine⟨?_,hn⟩
 intro h
 obtain⟨y,hy,he⟩:=List.mem_map.1 h
 exact hx y hy he
theorem blw_mem (hd:Int) : ∀ (G:List Wnt) (b:Wnt),let r:=G.foldl (fun best w=>if w.track≤hd∧best.track<w.track then w else best) b
  r=b∨r∈G
 | [],b=>.inl rfl
 | a :: G,b=>by
  simp only [List.foldl_cons]
  rcases blw_mem hd G (if a.track≤hd∧b.track<a.track then a else b) with h | h
  ·rw [h]
   split
   ·right; simp
   ·left; rfl
  ·right; exact List.mem_cons_of_mem _ h
theorem blw_ge (hd:Int) : ∀ (G:List Wnt) (b:Wnt),b.track≤(G.foldl (fun best w=>if w.track≤hd∧best.track<w.track then w else best) b).track
 | [],b=>Int.le_refl _
 | a :: G,b=>by
  simp only [List.foldl_cons]
  refine Int.le_trans ?_ (blw_ge hd G _)
  split
  ·rename_i h; omega
  ·exact Int.le_refl _
theorem grp_mem {Q:List Wnt} {w:Wnt} (h:w∈grp Q):w∈Q:=by
 unfold grp at h
 split at h
 ·cases h
 ·exact (List.takeWhile_sublist _).subset h
theorem qNext_mem {Q:List Wnt} {hd:Int} {dn:Bool} (ht : ∀ w∈Q,0≤w.track) (h0:(qNext Q hd dn).2.2=0):(qNext Q hd dn).1∈Q:=by
 unfold qNext at *
 split at h0
 ·cases h0
 rename_i hne
 rw [if_neg hne]
 have hb:0≤(blw hd (grp Q)).track→blw hd (grp Q)∈Q:=fun hp=>by
  rcases blw_mem hd (grp Q) ⟨0,0,-1⟩ with q | q
  ·unfold blw at hp; rw [q] at hp; exact absurd hp (by decide)
  ·exact grp_mem q
 cases ha:abv hd (grp Q) with
 | none=>
  dsimp only
  apply hb
  obtain⟨a,Q',rfl⟩ : ∃ a Q',Q=a :: Q':=by cases Q with
   | nil=>exact absurd rfl hne
   | cons a Q'=>exact⟨a,Q',rfl⟩
  have ga : ∃ G,grp (a :: Q')=a :: G:=by
   refine⟨Q'.takeWhile fun x=>decide (x.dead=a.dead),?_⟩
   show (a :: Q').takeWhile (fun x=>decide (x.dead=a.dead))=_
   rw [List.takeWhile_cons,if_pos (by simp)]
  obtain⟨G,hG⟩:=ga
  rw [hG] at ha ⊢
  unfold abv at ha
  rw [List.find?_eq_none] at ha
  have hlt:=ha a (by simp)
  simp only [decide_eq_true_eq] at hlt
  have h0a:=ht a (by simp)
  unfold blw
  rw [List.foldl_cons,if_pos ⟨by omega,by dsimp only; omega⟩]
  exact Int.le_trans h0a (blw_ge hd G a)
 | some u=>
  dsimp only
  split
  ·rename_i hc
   simp only [Bool.and_eq_true,decide_eq_true_eq] at hc
   exact hb hc.2
  ·exact grp_mem (List.mem_of_find?_eq_some ha)
theorem bufAt_set {L:List Buf} {i:Nat} {b b':Buf} (hb:L[i]? = some b) (hg:b'.gen=b.gen) (_ho:b.owner≠0) (ho':b'.owner≠0) (s g:Int):bufAt (L.set i b') s g=if s=(i:Int)∧g=b.gen then some b' else bufAt L s g:=by
 unfold bufAt
 by_cases hs:s<0
 ·rw [if_pos hs,if_pos hs,if_neg (by omega)]
 ·rw [if_neg hs,if_neg hs]
  have hi:=(List.getElem?_eq_some_iff.1 hb).1
  by_cases he:s=(i:Int)
  ·have e:s.toNat=i:=by omega
   rw [e,List.getElem?_set_self hi,hb]
   dsimp only
   by_cases hgg:g=b.gen
   ·have n1 : ¬ (b'.owner=0∨b'.gen≠g):=by rw [hg,hgg]; simp [ho']
    rw [if_neg n1,if_pos ⟨he,hgg⟩]
   ·have n1:b'.owner=0∨b'.gen≠g:=.inr (by rw [hg]; exact fun q=>hgg q.symm)
    have n2:b.owner=0∨b.gen≠g:=.inr fun q=>hgg q.symm
    rw [if_pos n1,if_neg (fun q=>hgg q.2),if_pos n2]
  ·rw [if_neg (fun q=>he q.1),List.getElem?_set_ne (by omega)]
theorem updF_same {α : Type} (F:Int→Option α) (k:Int) (v:Option α):updF F k v k=v:=by unfold updF; rw [if_pos rfl]
theorem updF_ne {α : Type} (F:Int→Option α) {k j:Int} (v:Option α) (h:j≠k):updF F k v j=F j:=by unfold updF; rw [if_neg h]
structure DvOk' (E:Int→Prop) (st:Dv):Prop where
 srt:srtW st.Q
 qnd:(st.Q.map (·.id)).Nodup
 trk : ∀ w∈st.Q,0≤w.track
 qO : ∀ w∈st.Q,∃ x,st.O w.id=some x∧x.no = -1∧wantOf x.r=w
 oid : ∀ id x,st.O id=some x→x.r.id=id
 oQ : ∀ id x,st.O id=some x→(x.no = -1∧x.owner=2∧wantOf x.r∈st.Q)∨∃ (n:Nat) (e:Ent),x.no=n∧st.I n=some e∧e.id=id∧e.void=false∧x.owner=if n<st.taken then 3 else 2
 iR : ∀ k,(st.I k).isSome=true↔∃ n:Nat,k=n∧st.reaped≤n∧n<st.RL.length
 iE : ∀ (n:Nat) e,st.I n=some e→∃ d,st.RL[n]? = some d∧e.id=d.req∧e.done=d.done∧e.taken=decide (n<st.taken)∧(e.void=false→∃ x,st.O e.id=some x∧x.no=n∧d.slot=x.r.pc.slot∧d.gen=x.r.pc.gen)
 dt : ∀ n d,st.RL[n]? = some d→d.done=true→n<st.taken
 rt:st.reaped≤st.taken∧st.taken≤st.RL.length
 oB : ∀ id d,look st.B.L id=some d→∃ x,st.O id=some x∧x.r.dead=d
 oE : ∀ id x,st.O id=some x→(look st.B.L id).isSome=true∨E id
 oP : ∀ id x,st.O id=some x→∃ b,bufAt st.P x.r.pc.slot x.r.pc.gen=some b∧b.owner=x.owner∧0≤x.r.pc.fr∧1≤x.r.pc.len∧x.r.pc.fr+x.r.pc.len≤b.b.length
 sl : ∀ id id' x x',st.O id=some x→st.O id'=some x'→x.r.pc.slot=x'.r.pc.slot→id=id'
 own : ∀ (i:Nat) b,st.P[i]? = some b→(b.owner=2∨b.owner=3)→∃ id x,st.O id=some x∧x.r.pc.slot=i
 B:StOk D0 st.B
abbrev DvOk:=DvOk' fun _=>False
section
variable {E:Int→Prop} {st:Dv}
theorem DvOk'.owner (k:DvOk' E st) {id:Int} {x:Opn} (h:st.O id=some x):x.owner=2∨x.owner=3:=by
 rcases k.oQ id x h with q | ⟨n,e,q⟩
 ·exact .inl q.2.1
 ·rw [q.2.2.2.2]; split <;> simp
theorem pGive_ok {L:List Buf} {s g fr to:Int} {b:Buf} (h:bufAt L s g=some b) (ho:b.owner=fr) (h1:1≤fr∧fr≤3) (h2:1≤to∧to≤3) (h3:fr≠to):pGive L s g fr to=(0,L.set s.toNat { b with owner:=to }):=by
 unfold pGive; rw [h]; dsimp only
 rw [if_neg (by omega),if_neg (by omega)]
theorem bufAt_give {L:List Buf} {s g fr to:Int} {b:Buf} (h:bufAt L s g=some b) (ho:b.owner=fr) (h1:1≤fr∧fr≤3) (h2:1≤to∧to≤3) (h3:fr≠to) (s' g':Int) :
  bufAt (pGive L s g fr to).2 s' g'=if s'=s∧g'=g then some { b with owner:=to } else bufAt L s' g':=by
 rw [pGive_ok h ho h1 h2 h3]
 obtain⟨q1,q2,q3,q4,q5⟩:=bufAt_some h
 dsimp only
 rw [bufAt_set q3 (b':={ b with owner:=to }) rfl q4 (by dsimp only; omega),q5]
 have:((s.toNat:Nat):Int)=s:=by omega
 rw [this]
theorem get_give {L:List Buf} {s g fr to:Int} {b:Buf} (h:bufAt L s g=some b) (ho:b.owner=fr) (h1:1≤fr∧fr≤3) (h2:1≤to∧to≤3) (h3:fr≠to) (i:Nat) :
  (pGive L s g fr to).2[i]? = if (i:Int)=s then some { b with owner:=to } else L[i]?:=by
 rw [pGive_ok h ho h1 h2 h3]
 obtain⟨q1,q2,q3,q4,q5⟩:=bufAt_some h
 have hi:=(List.getElem?_eq_some_iff.1 q3).1
 split
 ·have:s.toNat=i:=by omega
  rw [this] at hi ⊢; rw [List.getElem?_set_self hi]
 ·rw [List.getElem?_set_ne (by omega)]
theorem voidI_some {I:Int→Option Ent} {no:Int} (k:Int):(voidI I no k).isSome=(I k).isSome:=by
 unfold voidI
 cases he:I no with
 | some e=>
  dsimp only
  unfold updF; split
  ·rename_i q; rw [q,he]; rfl
  ·rfl
 | none=>rfl
theorem voidI_ne {I:Int→Option Ent} {no k:Int} (h:k≠no):voidI I no k=I k:=by
 unfold voidI
 cases he:I no with
 | some e=>exact updF_ne _ _ h
 | none=>rfl
theorem voidI_same {I:Int→Option Ent} {no:Int} : voidI I no no=(I no).map voidE:=by
 unfold voidI
 cases he:I no with
 | some e=>dsimp only; rw [updF_same]; rfl
 | none=>dsimp only; rw [he]; rfl
theorem leave_ok (k:DvOk' E st) (id:Int) (hl:look st.B.L id=none):DvOk' (fun j=>E j∧j≠id) (dLeave st id):=by
 unfold dLeave
 cases hx:st.O id with
 | none=>
  dsimp only
  refine { k with oE:=fun j x hj=>?_ }
  rcases k.oE j x hj with q | q
  ·exact .inl q
  ·exact .inr ⟨q,fun e=>by rw [e,hx] at hj; cases hj⟩
 | some x=>
  dsimp only
  obtain⟨b,hb,bo,b1,b2,b3⟩:=k.oP id x hx
  have xo:=k.owner hx
  have xid:=k.oid id x hx
  have g1:1≤x.owner∧x.owner≤3:=by omega
  have g3:x.owner≠1:=by omega
  have O' : ∀ {j y},updF st.O id none j=some y→j≠id∧st.O j=some y:=fun {j y} h=>by
   unfold updF at h; split at h
   ·cases h
   ·exact⟨by assumption,h⟩
  have O2 : ∀ {j y},j≠id→st.O j=some y→updF st.O id none j=some y:=fun {j y} h q=>by rw [updF_ne _ _ h]; exact q
  exact
  {srt:=List.Pairwise.sublist (qDrop_sub _ _) k.srt
   qnd:=List.Nodup.sublist ((qDrop_sub _ _).map _) k.qnd
   trk:=fun w hw=>k.trk w ((qDrop_sub _ _).subset hw)
   qO:=fun w hw=>by
    obtain⟨h1,h2⟩:=(qDrop_mem k.qnd w).1 hw
    obtain⟨y,y1,y2⟩:=k.qO w h1
    exact⟨y,O2 h2 y1,y2⟩
   oid:=fun j y h=>k.oid j y (O' h).2
   oQ:=fun j y h=>by
    obtain⟨h1,h2⟩:=O' h
    rcases k.oQ j y h2 with⟨q1,q2,q3⟩ | ⟨n,e,q1,q2,q3,q4,q5⟩
    ·refine .inl ⟨q1,q2,(qDrop_mem k.qnd _).2 ⟨q3,?_⟩⟩
     have:(wantOf y.r).id=y.r.id:=rfl
     rw [this,k.oid j y h2]; exact h1
    ·refine .inr ⟨n,e,q1,?_,q3,q4,q5⟩
     dsimp only
     rw [voidI_ne]
     ·exact q2
     ·intro hn
      rcases k.oQ id x hx with⟨r1,_⟩ | ⟨m,f,r1,r2,r3,_⟩
      ·omega
      ·have:(n:Int)=m:=by omega
       rw [this,r2] at q2
       cases q2
       exact h1 (q3.symm.trans r3)
   iR:=fun j=>by dsimp only; rw [voidI_some]; exact k.iR j
   iE:=fun n e h=>by
    dsimp only at h ⊢
    by_cases hn:(n:Int)=x.no
    ·rw [hn,voidI_same,← hn] at h
     obtain⟨f,hf,rfl⟩:=Option.map_eq_some_iff.1 h
     obtain⟨d,d1,d2,d3,d4,d5⟩:=k.iE n f hf
     exact⟨d,d1,d2,d3,d4,fun q=>by cases q⟩
    ·rw [voidI_ne hn] at h
     obtain⟨d,d1,d2,d3,d4,d5⟩:=k.iE n e h
     refine⟨d,d1,d2,d3,d4,fun q=>?_⟩
     obtain⟨y,y1,y2,y3⟩:=d5 q
     refine⟨y,O2 (fun q2=>?_) y1,y2,y3⟩
     rw [q2,hx] at y1; cases y1
     exact hn y2.symm
   dt:=k.dt
   rt:=k.rt
   oB:=fun j d h=>by
    obtain⟨y,y1,y2⟩:=k.oB j d h
    exact⟨y,O2 (fun q=>by dsimp only at h; rw [q,hl] at h; cases h) y1,y2⟩
   oE:=fun j y h=>by
    obtain⟨h1,h2⟩:=O' h
    rcases k.oE j y h2 with q | q
    ·exact .inl q
    ·exact .inr ⟨q,h1⟩
   oP:=fun j y h=>by
    obtain⟨h1,h2⟩:=O' h
    obtain⟨c,c1,c2⟩:=k.oP j y h2
    refine⟨c,?_,c2⟩
    dsimp only
    rw [bufAt_give hb bo g1 (by omega) g3,if_neg]
    ·exact c1
    ·intro q; exact h1 (k.sl j id y x h2 hx q.1)
   sl:=fun j j' y y' h h' q=>k.sl j j' y y' (O' h).2 (O' h').2 q
   own:=fun i c h q=>by
    dsimp only at h ⊢
    rw [get_give hb bo g1 (by omega) g3] at h
    split at h
    ·cases h; simp at q
    ·rename_i hi
     obtain⟨j,y,y1,y2⟩:=k.own i c h q
     refine⟨j,y,O2 (fun e=>?_) y1,y2⟩
     rw [e,hx] at y1; cases y1
     exact hi y2.symm
   B:=k.B }
end
end Go.Proofs.Vf
namespace Go.Proofs.Vf
open Go Go.Proofs Go.VC
section
variable {E:Int→Prop} {st:Dv}
theorem DvOk'.clean (k:DvOk' E st) (h : ∀ j,¬ E j):DvOk st:={ k with
 oE:=fun j y hj=>by
  rcases k.oE j y hj with q | q
  ·exact .inl q
  ·exact absurd q (h j) }
theorem cancel_ok (k:DvOk st) (id:Int):DvOk (dCancel st id).2:=by
 unfold dCancel stCancel stOut
 cases hl:(look st.B.L id).isSome with
 | false=>exact k
 | true=>
  have k1:DvOk' (fun j=>j=id) { st with B:={ st.B with L:=del id st.B.L,F:=st.B.F ++ [⟨id,2,3⟩] } }:=
   {k with
    oB:=fun j d h=>by
     dsimp only at h
     rw [look_del] at h
     split at h
     ·cases h
     ·exact k.oB j d h
    oE:=fun j y h=>by
     dsimp only
     rw [look_del]
     split
     ·right; assumption
     ·rcases k.oE j y h with q | q
      ·exact .inl q
      ·exact q.elim
    B:=by
     have:=stOut_ok k.B id 2 3
     unfold stOut at this
     rw [hl] at this
     exact this }
  have k2:=leave_ok k1 id (by dsimp only; rw [look_del,if_pos rfl])
  exact k2.clean fun j q=>q.2 q.1
theorem answer_B {st:Dv} (k:DvOk st) (id status:Int) (bad:Bool) (h:0≤status∧status≤255):DvOk' (fun j=>j=id) { st with B:=(stAnswer st.B id status bad).2 }∧look (stAnswer st.B id status bad).2.L id=none:=by
 unfold stAnswer
 rw [if_neg (by omega)]
 have : ∀ kd w,DvOk' (fun j=>j=id) { st with B:=(stOut st.B id kd w).2 }∧look (stOut st.B id kd w).2.L id=none:=fun kd w=>by
  have hB:=stOut_ok k.B id kd w
  unfold stOut at *
  cases hl:(look st.B.L id).isSome with
  | false=>
   rw [hl] at hB
   refine⟨{ k with oE:=fun j y h=>?_ },?_⟩
   ·rcases k.oE j y h with q | q
    ·exact .inl q
    ·exact q.elim
   ·cases hz:look st.B.L id with
    | none=>simpa using hz
    | some d=>rw [hz] at hl; cases hl
  | true=>
   rw [hl] at hB
   refine⟨{ k with oB:=fun j d h=>?_,oE:=fun j y h=>?_,B:=hB },?_⟩
   ·dsimp only at h
    rw [if_pos rfl,look_del] at h
    split at h
    ·cases h
    ·exact k.oB j d h
   ·dsimp only
    rw [if_pos rfl,look_del]
    split
    ·right; assumption
    ·rcases k.oE j y h with q | q
     ·exact .inl q
     ·exact q.elim
   ·rw [if_pos rfl,look_del,if_pos rfl]
 split
 ·exact this 2 2
 ·exact this 1 status
theorem void_reap (k:DvOk st) {d:Dsc} {e:Ent} (hd:st.RL[st.reaped]? = some d) (hdn:d.done=true) (he:st.I (st.reaped:Nat)=some e) (hv:e.void=true) :
  DvOk { st with reaped:=st.reaped+1,I:=updF st.I (st.reaped:Nat) none }:=by
 have hrt:=k.dt _ _ hd hdn
 have I' : ∀ {j f},updF st.I (st.reaped:Nat) none j=some f→j≠(st.reaped:Nat)∧st.I j=some f:=fun {j f} h=>by
  unfold updF at h; split at h
  ·cases h
  ·exact⟨by assumption,h⟩
 exact
 {k with
  oQ:=fun j y h=>by
   rcases k.oQ j y h with q | ⟨n,f,q1,q2,q3,q4,q5⟩
   ·exact .inl q
   ·refine .inr ⟨n,f,q1,?_,q3,q4,q5⟩
    dsimp only
    rw [updF_ne]
    ·exact q2
    ·intro hn
     rw [hn,he] at q2; cases q2
     rw [hv] at q4; cases q4
  iR:=fun j=>by
   dsimp only
   by_cases hj:j=(st.reaped:Nat)
   ·rw [hj,updF_same]
    simp only [Option.isSome_none,Bool.false_eq_true,false_iff]
    rintro⟨n,h1,h2,h3⟩
    omega
   ·rw [updF_ne _ _ hj,k.iR j]
    constructor
    ·rintro⟨n,h1,h2,h3⟩; exact⟨n,h1,by omega,h3⟩
    ·rintro⟨n,h1,h2,h3⟩; exact⟨n,h1,by omega,h3⟩
  iE:=fun n f h=>k.iE n f (I' h).2
  rt:=⟨by dsimp only; omega,k.rt.2⟩ }
theorem dLeave_reap (st:Dv) (id:Int) (r:Nat):dLeave { st with reaped:=r } id = { dLeave st id with reaped:=r }:=by
 unfold dLeave
 cases h:st.O id <;> rfl
def RLok (st:Dv):Prop:=∀ (n:Nat) (d:Dsc),st.RL[n]? = some d→0≤d.st∧d.st≤255
theorem reap_ok (k:DvOk st) (hr:RLok st):DvOk (dReap st).2:=by
 unfold dReap
 cases hd:st.RL[st.reaped]? with
 | none=>exact k
 | some d=>
  dsimp only
  cases hdn:d.done with
  | false=>exact k
  | true=>
   rw [if_neg (by simp)]
   dsimp only
   have hl:=(List.getElem?_eq_some_iff.1 hd).1
   obtain⟨e,he⟩:=Option.isSome_iff_exists.1 ((k.iR (st.reaped:Nat)).2 ⟨_,rfl,Nat.le_refl _,hl⟩)
   rw [he]
   dsimp only
   cases hv:e.void with
   | true=>exact void_reap k hd hdn he hv
   | false=>
    rw [if_neg (by simp)]
    obtain⟨k1,hn⟩:=answer_B k e.id d.st e.bad (hr _ _ hd)
    have k2:=leave_ok k1 e.id hn
    obtain⟨d2,g1,g2,g3,g4,g5⟩:=k.iE _ e he
    obtain⟨x,x1,x2,x3⟩:=g5 hv
    have eL:dLeave { st with reaped:=st.reaped+1,B:=(stAnswer st.B e.id d.st e.bad).2 } e.id = { dLeave { st with B:=(stAnswer st.B e.id d.st e.bad).2 } e.id with reaped:=st.reaped+1 }:=dLeave_reap { st with B:=(stAnswer st.B e.id d.st e.bad).2 } e.id (st.reaped+1)
    rw [eL]
    dsimp only
    obtain⟨s2,hs2⟩ : ∃ s2,s2=dLeave { st with B:=(stAnswer st.B e.id d.st e.bad).2 } e.id:=⟨_,rfl⟩
    have f:=dLeave_fields { st with B:=(stAnswer st.B e.id d.st e.bad).2 } e.id
    rw [← hs2] at f k2 ⊢
    have k3:DvOk s2:=k2.clean fun j q=>q.2 q.1
    have hI2:s2.I (st.reaped:Nat)=some (voidE e):=by
     rw [hs2]; unfold dLeave
     dsimp only; rw [x1]; dsimp only; rw [x2,voidI_same,he]; rfl
    have hr2:s2.reaped=st.reaped:=f.2.2.2.1
    have:=void_reap k3 (d:=d) (e:=voidE e) (by rw [f.2.1,hr2]; exact hd) hdn (by rw [hr2]; exact hI2) rfl
    rw [hr2] at this
    exact this
theorem dFinish_cases (st:Dv) (no status:Int) (bad:Bool):(∃ c,c≠0∧dFinish st no status bad=(c,st)) ∨
  ∃ d,(0≤status∧status≤255)∧(st.reaped:Int)≤no∧no<st.taken∧st.RL[no.toNat]? = some d∧d.done=false ∧
   dFinish st no status bad=(0,{ st with RL:=st.RL.set no.toNat { d with dev:=false,done:=true,st:=status },I:=updF st.I no ((st.I no).map fun e=>{ e with done:=true,bad:=bad }) }):=by
 have hb : ∀ c,c≠0→rFinish st.RL st.taken st.reaped no status=(c,st.RL)→dFinish st no status bad=(c,st):=fun c hc h=>by
  unfold dFinish; rw [h,if_pos hc]
 by_cases h1:status<0∨255<status
 ·exact .inl ⟨1,by decide,hb 1 (by decide) (by unfold rFinish; rw [if_pos h1])⟩
 by_cases h2:no<st.reaped∨st.taken≤no
 ·exact .inl ⟨12,by decide,hb 12 (by decide) (by unfold rFinish; rw [if_neg h1,if_pos h2])⟩
 cases hd:st.RL[no.toNat]? with
 | none=>exact .inl ⟨12,by decide,hb 12 (by decide) (by unfold rFinish; rw [if_neg h1,if_neg h2,hd])⟩
 | some d=>
  cases hdn:d.done with
  | true=>exact .inl ⟨12,by decide,hb 12 (by decide) (by unfold rFinish; rw [if_neg h1,if_neg h2,hd]; dsimp only; rw [if_pos hdn])⟩
  | false=>
   refine .inr ⟨d,by omega,by omega,by omega,rfl,hdn,?_⟩
   have e:rFinish st.RL st.taken st.reaped no status=(0,st.RL.set no.toNat { d with dev:=false,done:=true,st:=status }):=by
    unfold rFinish; rw [if_neg h1,if_neg h2,hd]; dsimp only; rw [if_neg (by rw [hdn]; decide)]
   unfold dFinish; rw [e,if_neg (by simp)]
theorem finish_ok (k:DvOk st) (no status:Int) (bad:Bool):DvOk (dFinish st no status bad).2:=by
 rcases dFinish_cases st no status bad with⟨c,_,e⟩ | ⟨d,h1,h2,h3,hd,hdn,e⟩
 ·rw [e]; exact k
 ·rw [e]
  dsimp only
  have hlt:=(List.getElem?_eq_some_iff.1 hd).1
  have hno:((no.toNat:Nat):Int)=no:=by omega
  obtain⟨e,he⟩:=Option.isSome_iff_exists.1 ((k.iR no).2 ⟨no.toNat,by omega,by omega,hlt⟩)
  rw [he]
  have hI' : ∀ {j:Int} {f:Ent},updF st.I no (Option.map (fun e=>{ e with done:=true,bad:=bad }) (some e)) j=some f→(j=no∧f = { e with done:=true,bad:=bad })∨(j≠no∧st.I j=some f):=fun {j f} h=>by
   unfold updF at h; split at h
   ·left; cases h; exact⟨by assumption,rfl⟩
   ·right; exact⟨by assumption,h⟩
  exact
  {k with
   oQ:=fun j y h=>by
    rcases k.oQ j y h with q | ⟨n,f,q1,q2,q3,q4,q5⟩
    ·exact .inl q
    ·by_cases hn:(n:Int)=no
     ·refine .inr ⟨n,{ e with done:=true,bad:=bad },q1,by dsimp only; rw [hn,updF_same]; rfl,?_,?_,q5⟩
      ·rw [hn,he] at q2; cases q2; exact q3
      ·rw [hn,he] at q2; cases q2; exact q4
     ·exact .inr ⟨n,f,q1,by dsimp only; rw [updF_ne _ _ hn]; exact q2,q3,q4,q5⟩
   iR:=fun j=>by
    dsimp only
    rw [List.length_set,← k.iR j]
    unfold updF; split
    ·rename_i q; rw [q,he]; rfl
    ·rfl
   iE:=fun n f h=>by
    dsimp only at h ⊢
    rcases hI' h with⟨h1,rfl⟩ | ⟨h1,h2⟩
    ·have:no.toNat=n:=by omega
     rw [this] at hlt hd ⊢
     rw [← h1] at he
     obtain⟨d2,g1,g2,g3,g4,g5⟩:=k.iE n e he
     rw [hd] at g1; cases g1
     exact⟨_,List.getElem?_set_self hlt,g2,rfl,g4,g5⟩
    ·rw [List.getElem?_set_ne (by omega)]
     exact k.iE n f h2
   dt:=fun n d' h h2=>by
    dsimp only at h ⊢
    by_cases hn:no.toNat=n
    ·omega
    ·rw [List.getElem?_set_ne hn] at h
     exact k.dt n d' h h2
   rt:=by dsimp only; rw [List.length_set]; exact k.rt }
theorem finish_RL (h:RLok st) (no status:Int) (bad:Bool):RLok (dFinish st no status bad).2:=by
 rcases dFinish_cases st no status bad with⟨c,_,e⟩ | ⟨d,h1,h2,h3,hd,hdn,e⟩
 ·rw [e]; exact h
 ·rw [e]
  intro n d' h'
  dsimp only at h'
  have hlt:=(List.getElem?_eq_some_iff.1 hd).1
  by_cases hn:no.toNat=n
  ·subst hn
   rw [List.getElem?_set_self hlt] at h'
   cases h'
   exact h1
  ·rw [List.getElem?_set_ne hn] at h'
   exact h n d' h'
theorem write_ok (k:DvOk st) (no at_:Int) (bs:List Int):DvOk (dWrite st no at_ bs).2:=by
 unfold dWrite
 cases he:st.I no with
 | none=>exact k
 | some e=>
  dsimp only
  split
  ·exact k
  rename_i hst
  cases ha:st.O e.id with
  | none=>exact k
  | some a=>
   dsimp only
   split
   ·exact k
   rename_i hb
   dsimp only
   obtain⟨b,b1,b2,b3,b4,b5⟩:=k.oP _ _ ha
   unfold pWrite
   rw [b1]
   dsimp only
   split
   ·exact k
   split
   ·exact k
   split
   ·exact k
   rename_i c1 c2 c3
   dsimp only
   obtain⟨q1,q2,q3,q4,q5⟩:=bufAt_some b1
   have hs:=fun s g=>bufAt_set (b':={ b with b:=splice b.b (a.r.pc.fr+at_).toNat bs }) q3 rfl q4 q4 s g
   have hlen:(splice b.b (a.r.pc.fr+at_).toNat bs).length=b.b.length:=splice_length (by omega)
   exact
   {k with
    oP:=fun j y h=>by
     obtain⟨c,c1,c2,c3,c4,c5⟩:=k.oP j y h
     dsimp only
     rw [hs]
     split
     ·rename_i hq
      have hy:bufAt st.P y.r.pc.slot y.r.pc.gen=some b:=by
       rw [hq.1,hq.2,q5]
       have:((a.r.pc.slot.toNat:Nat):Int)=a.r.pc.slot:=by omega
       rw [this]; exact b1
      rw [hy] at c1; cases c1
      exact⟨_,rfl,c2,c3,c4,by dsimp only; rw [hlen]; exact c5⟩
     ·exact⟨c,c1,c2,c3,c4,c5⟩
    own:=fun i c h q=>by
     dsimp only at h ⊢
     by_cases hi:a.r.pc.slot.toNat=i
     ·have hlt:=(List.getElem?_eq_some_iff.1 q3).1
      rw [← hi,List.getElem?_set_self hlt] at h
      cases h
      exact⟨_,a,ha,by omega⟩
     ·rw [List.getElem?_set_ne hi] at h
      exact k.own i c h q }
end
end Go.Proofs.Vf
namespace Go.Proofs.Vf
open Go Go.Proofs Go.VC
section
variable {E:Int→Prop} {st:Dv}
theorem take_ok (k:DvOk st):DvOk (dTake st).2:=by
 unfold dTake
 cases hd:st.RL[st.taken]? with
 | none=>exact k
 | some d=>
  dsimp only
  have hlt:=(List.getElem?_eq_some_iff.1 hd).1
  have hrt:=k.rt
  obtain⟨e,he⟩:=Option.isSome_iff_exists.1 ((k.iR (st.taken:Nat)).2 ⟨_,rfl,hrt.1,hlt⟩)
  obtain⟨d2,g1,g2,g3,g4,g5⟩:=k.iE _ e he
  rw [hd] at g1; cases g1
  rw [he]
  dsimp only
  have hI' : ∀ {j:Int} {f:Ent},updF st.I (st.taken:Nat) (some { e with taken:=true }) j=some f→(j=(st.taken:Nat)∧f = { e with taken:=true })∨(j≠(st.taken:Nat)∧st.I j=some f):=fun {j f} h=>by
   unfold updF at h; split at h
   ·left; cases h; exact⟨by assumption,rfl⟩
   ·right; exact⟨by assumption,h⟩
  have iR' : ∀ j,(updF st.I (st.taken:Nat) (some { e with taken:=true }) j).isSome=true↔∃ n:Nat,j=n∧st.reaped≤n∧n<st.RL.length:=fun j=>by
   rw [← k.iR j]
   unfold updF; split
   ·rename_i q; rw [q,he]; rfl
   ·rfl
  have dt' : ∀ n d,st.RL[n]? = some d→d.done=true→n<st.taken+1:=fun n d h1 h2=>by have:=k.dt n d h1 h2; omega
  split
  ·rename_i hv
   exact
   {k with
    oQ:=fun j y h=>by
     rcases k.oQ j y h with q | ⟨n,f,q1,q2,q3,q4,q5⟩
     ·exact .inl q
     ·have hn:n≠st.taken:=fun q=>by
       rw [q,he] at q2; cases q2; rw [hv] at q4; cases q4
      refine .inr ⟨n,f,q1,by dsimp only; rw [updF_ne _ _ (by omega)]; exact q2,q3,q4,?_⟩
      rw [q5]; dsimp only
      by_cases h3:n<st.taken
      ·rw [if_pos h3,if_pos (by omega)]
      ·rw [if_neg h3,if_neg (by omega)]
    iR:=iR'
    iE:=fun n f h=>by
     dsimp only at h ⊢
     rcases hI' h with⟨h1,rfl⟩ | ⟨h1,h2⟩
     ·have:n=st.taken:=by omega
      subst this
      exact⟨d,hd,g2,g3,by simp,g5⟩
     ·obtain⟨d3,p1,p2,p3,p4,p5⟩:=k.iE n f h2
      refine⟨d3,p1,p2,p3,?_,p5⟩
      rw [p4]; exact decide_eq_decide.2 (by omega)
    dt:=dt'
    rt:=by dsimp only; omega }
  ·rename_i hv
   have hv:e.void=false:=by cases h:e.void with
    | true=>exact absurd h hv
    | false=>rfl
   obtain⟨x,x1,x2,x3,x4⟩:=g5 hv
   have xo:x.owner=2:=by
    rcases k.oQ _ x x1 with q | ⟨n,f,q1,q2,q3,q4,q5⟩
    ·exact q.2.1
    ·rw [q5,if_neg (by omega)]
   obtain⟨b,b1,b2,b3⟩:=k.oP _ _ x1
   have b1':=b1
   rw [x1]
   have O' : ∀ {j y},updF st.O e.id (Option.map (fun a=>{ a with owner:=3 }) (some x)) j=some y→(j=e.id∧y = { x with owner:=3 })∨(j≠e.id∧st.O j=some y):=fun {j y} h=>by
    unfold updF at h; split at h
    ·left; cases h; exact⟨by assumption,rfl⟩
    ·right; exact⟨by assumption,h⟩
   have O2 : ∀ {j y},st.O j=some y→∃ y',updF st.O e.id (Option.map (fun a=>{ a with owner:=3 }) (some x)) j=some y'∧y'.r=y.r∧y'.no=y.no:=fun {j y} h=>by
    by_cases q:j=e.id
    ·rw [q] at h ⊢; rw [updF_same]
     rw [x1] at h; cases h
     exact⟨_,rfl,rfl,rfl⟩
    ·rw [updF_ne _ _ q]; exact⟨y,h,rfl,rfl⟩
   rw [x3,x4]
   exact
   {k with
    qO:=fun w hw=>by
     obtain⟨y,y1,y2,y3⟩:=k.qO w hw
     obtain⟨y',z1,z2,z3⟩:=O2 y1
     exact⟨y',z1,by rw [z3]; exact y2,by rw [z2]; exact y3⟩
    oid:=fun j y h=>by
     rcases O' h with⟨q1,rfl⟩ | ⟨q1,q2⟩
     ·rw [q1]; exact k.oid _ x x1
     ·exact k.oid j y q2
    oQ:=fun j y h=>by
     rcases O' h with⟨q1,rfl⟩ | ⟨q1,q2⟩
     ·refine .inr ⟨st.taken,{ e with taken:=true },x2,updF_same _ _ _,q1.symm,hv,?_⟩
      dsimp only; rw [if_pos (by omega)]
     ·rcases k.oQ j y q2 with q | ⟨n,f,q1,q2,q3,q4,q5⟩
      ·exact .inl q
      ·have hn:n≠st.taken:=fun q=>by
        rw [q,he] at q2; cases q2; exact absurd q3.symm (by assumption)
       refine .inr ⟨n,f,q1,by dsimp only; rw [updF_ne _ _ (by omega)]; exact q2,q3,q4,?_⟩
       rw [q5]; dsimp only
       by_cases h3:n<st.taken
       ·rw [if_pos h3,if_pos (by omega)]
       ·rw [if_neg h3,if_neg (by omega)]
    iR:=iR'
    iE:=fun n f h=>by
     dsimp only at h ⊢
     rcases hI' h with⟨h1,rfl⟩ | ⟨h1,h2⟩
     ·have:n=st.taken:=by omega
      subst this
      refine⟨d,hd,g2,g3,by simp,fun _=>⟨_,updF_same _ _ _,x2,x3,x4⟩⟩
     ·obtain⟨d3,p1,p2,p3,p4,p5⟩:=k.iE n f h2
      refine⟨d3,p1,p2,p3,?_,fun q=>?_⟩
      ·rw [p4]; exact decide_eq_decide.2 (by omega)
      ·obtain⟨y,y1,y2,y3,y4⟩:=p5 q
       obtain⟨y',z1,z2,z3⟩:=O2 y1
       exact⟨y',z1,by rw [z3]; exact y2,by rw [z2]; exact y3,by rw [z2]; exact y4⟩
    dt:=dt'
    rt:=by dsimp only; omega
    oB:=fun j d h=>by
     obtain⟨y,y1,y2⟩:=k.oB j d h
     obtain⟨y',z1,z2,z3⟩:=O2 y1
     exact⟨y',z1,by rw [z2]; exact y2⟩
    oE:=fun j y h=>by
     rcases O' h with⟨q1,rfl⟩ | ⟨q1,q2⟩
     ·rw [q1]; exact k.oE _ x x1
     ·exact k.oE j y q2
    oP:=fun j y h=>by
     dsimp only
     rw [bufAt_give b1 (b2.trans xo) (by omega) (by omega) (by omega)]
     rcases O' h with⟨q1,rfl⟩ | ⟨q1,q2⟩
     ·rw [if_pos ⟨rfl,rfl⟩]
      exact⟨_,rfl,rfl,b3⟩
     ·rw [if_neg]
      ·exact k.oP j y q2
      ·intro q; exact q1 (k.sl _ _ _ _ q2 x1 q.1)
    sl:=fun j j' y y' h h' q=>by
     have g : ∀ {j y},updF st.O e.id (Option.map (fun a=>{ a with owner:=3 }) (some x)) j=some y→∃ z,st.O j=some z∧z.r=y.r:=fun {j y} h=>by
      rcases O' h with⟨q1,rfl⟩ | ⟨q1,q2⟩
      ·rw [q1]; exact⟨x,x1,rfl⟩
      ·exact⟨y,q2,rfl⟩
     obtain⟨z,z1,z2⟩:=g h
     obtain⟨z',z1',z2'⟩:=g h'
     exact k.sl j j' z z' z1 z1' (by rw [z2,z2']; exact q)
    own:=fun i c h q=>by
     dsimp only at h ⊢
     rw [get_give b1 (b2.trans xo) (by omega) (by omega) (by omega)] at h
     split at h
     ·rename_i hi
      obtain⟨y',z1,z2,z3⟩:=O2 x1
      exact⟨_,y',z1,by rw [z2,hi]⟩
     ·obtain⟨j,y,y1,y2⟩:=k.own i c h q
      obtain⟨y',z1,z2,z3⟩:=O2 y1
      exact⟨j,y',z1,by rw [z2]; exact y2⟩ }
theorem start1_ok (k:DvOk st) {id:Int} {s':Dv} (h:dStart1 st=some (id,s')):DvOk s':=by
 unfold dStart1 at h
 split at h
 ·cases h
 rename_i hq0
 have hq0:(qNext st.Q st.hd st.dn).2.2=0:=by omega
 split at h
 ·cases h
 rename_i a ha
 simp only at h
 split at h
 ·cases h
 rename_i hr
 simp only [Option.some.injEq,Prod.mk.injEq] at h
 obtain⟨_,rfl⟩:=h
 have hN:=qNext_mem k.trk hq0
 obtain⟨N,eN⟩ : ∃ N,N=(qNext st.Q st.hd st.dn).1:=⟨_,rfl⟩
 rw [← eN] at ha hr hN ⊢
 obtain⟨x,x1,x2,x3⟩:=k.qO N hN
 rw [ha] at x1; cases x1
 have eT:(qTake st.Q st.hd st.dn).2.1=(qDrop st.Q N.id).2:=by unfold qTake; rw [if_neg (by omega),← eN]
 rw [eT]
 obtain⟨D,eD⟩ : ∃ D:Dsc,D = { op:=a.r.op,req:=N.id,slot:=a.r.pc.slot,gen:=a.r.pc.gen,fr:=a.r.pc.fr,len:=a.r.pc.len,dev:=true,done:=false,st:=0 }:=⟨_,rfl⟩
 have eR:rPut st.size st.RL st.reaped ⟨a.r.op,N.id,a.r.pc.slot,a.r.pc.gen,a.r.pc.fr,a.r.pc.len,false,false,0⟩=(((st.RL.length:Int),(0:Int)),st.RL ++ [D]):=by
  unfold rPut at hr ⊢
  dsimp only at hr ⊢
  split
  ·rename_i q; rw [if_pos q] at hr; exact absurd (by decide:(1:Int)≠0) hr
  ·rename_i q
   rw [if_neg q] at hr
   split
   ·rename_i q; rw [if_pos q] at hr; exact absurd (by decide:(4:Int)≠0) hr
   ·rw [eD]
 rw [eR]
 dsimp only
 have hrt:=k.rt
 have ho:a.owner=2:=by
  rcases k.oQ _ a ha with q | ⟨n,f,q1,q2,q3,q4,q5⟩
  ·exact q.2.1
  ·omega
 have aid:=k.oid _ a ha
 have O' : ∀ {j y},updF st.O N.id (some { a with no:=(st.RL.length:Int) }) j=some y→(j=N.id∧y = { a with no:=(st.RL.length:Int) })∨(j≠N.id∧st.O j=some y):=fun {j y} h=>by
  unfold updF at h; split at h
  ·left; cases h; exact⟨by assumption,rfl⟩
  ·right; exact⟨by assumption,h⟩
 have O2 : ∀ {j y},st.O j=some y→∃ y',updF st.O N.id (some { a with no:=(st.RL.length:Int) }) j=some y'∧y'.r=y.r∧(j≠N.id→y'=y):=fun {j y} h=>by
  by_cases q:j=N.id
  ·rw [q] at h ⊢; rw [updF_same]
   rw [ha] at h; cases h
   exact⟨_,rfl,rfl,fun q=>absurd rfl q⟩
  ·rw [updF_ne _ _ q]; exact⟨y,h,rfl,fun _=>rfl⟩
 have inone:st.I (st.RL.length:Nat)=none:=by
  cases hh:st.I (st.RL.length:Nat) with
  | none=>rfl
  | some f=>
   obtain⟨n,h1,h2,h3⟩:=(k.iR (st.RL.length:Nat)).1 (by rw [hh]; rfl)
   omega
 exact
 {srt:=List.Pairwise.sublist (qDrop_sub _ _) k.srt
  qnd:=List.Nodup.sublist ((qDrop_sub _ _).map _) k.qnd
  trk:=fun w hw=>k.trk w ((qDrop_sub _ _).subset hw)
  qO:=fun w hw=>by
   obtain⟨h1,h2⟩:=(qDrop_mem k.qnd w).1 hw
   obtain⟨y,y1,y2,y3⟩:=k.qO w h1
   exact⟨y,by dsimp only; rw [updF_ne _ _ h2]; exact y1,y2,y3⟩
  oid:=fun j y h=>by
   rcases O' h with⟨q1,rfl⟩ | ⟨q1,q2⟩
   ·rw [q1]; exact aid
   ·exact k.oid j y q2
  oQ:=fun j y h=>by
   rcases O' h with⟨q1,rfl⟩ | ⟨q1,q2⟩
   ·refine .inr ⟨st.RL.length,⟨N.id,false,false,false,false⟩,rfl,updF_same _ _ _,q1.symm,rfl,?_⟩
    dsimp only; rw [if_neg (by omega)]; exact ho
   ·rcases k.oQ j y q2 with⟨r1,r2,r3⟩ | ⟨n,f,r1,r2,r3⟩
    ·refine .inl ⟨r1,r2,(qDrop_mem k.qnd _).2 ⟨r3,?_⟩⟩
     have:(wantOf y.r).id=y.r.id:=rfl
     rw [this,k.oid j y q2]; exact q1
    ·refine .inr ⟨n,f,r1,?_,r3⟩
     dsimp only
     rw [updF_ne]
     ·exact r2
     ·intro q; rw [q,inone] at r2; cases r2
  iR:=fun j=>by
   dsimp only
   rw [List.length_append,List.length_singleton]
   by_cases hj:j=(st.RL.length:Nat)
   ·rw [hj,updF_same]
    simp only [Option.isSome_some,true_iff]
    exact⟨_,rfl,by omega,by omega⟩
   ·rw [updF_ne _ _ hj,k.iR j]
    constructor
    ·rintro⟨n,h1,h2,h3⟩; exact⟨n,h1,h2,by omega⟩
    ·rintro⟨n,h1,h2,h3⟩; exact⟨n,h1,h2,by omega⟩
  iE:=fun n f h=>by
   dsimp only at h ⊢
   by_cases hn:n=st.RL.length
   ·subst hn
    rw [updF_same] at h; cases h
    refine⟨D,by rw [List.getElem?_append_right (Nat.le_refl _),Nat.sub_self]; rfl,by rw [eD],by rw [eD],?_,fun _=>⟨_,updF_same _ _ _,rfl,by rw [eD],by rw [eD]⟩⟩
    exact (decide_eq_false (by omega)).symm
   ·rw [updF_ne _ _ (by omega)] at h
    obtain⟨d3,p1,p2,p3,p4,p5⟩:=k.iE n f h
    have hlt:=(List.getElem?_eq_some_iff.1 p1).1
    refine⟨d3,by rw [List.getElem?_append_left hlt]; exact p1,p2,p3,p4,fun q=>?_⟩
    obtain⟨y,y1,y2,y3⟩:=p5 q
    refine⟨y,?_,y2,y3⟩
    rw [updF_ne]
    ·exact y1
    ·intro q; rw [q,ha] at y1; cases y1; omega
  dt:=fun n d h h2=>by
   dsimp only at h ⊢
   by_cases hlt:n<st.RL.length
   ·rw [List.getElem?_append_left hlt] at h; exact k.dt n d h h2
   ·rw [List.getElem?_append_right (by omega)] at h
    have:d∈[D]:=List.mem_of_getElem? h
    simp only [List.mem_singleton] at this
    rw [this,eD] at h2; cases h2
  rt:=by dsimp only; rw [List.length_append]; omega
  oB:=fun j d h=>by
   obtain⟨y,y1,y2⟩:=k.oB j d h
   obtain⟨y',z1,z2,z3⟩:=O2 y1
   exact⟨y',z1,by rw [z2]; exact y2⟩
  oE:=fun j y h=>by
   rcases O' h with⟨q1,rfl⟩ | ⟨q1,q2⟩
   ·rw [q1]; exact k.oE _ a ha
   ·exact k.oE j y q2
  oP:=fun j y h=>by
   rcases O' h with⟨q1,rfl⟩ | ⟨q1,q2⟩
   ·exact k.oP _ a ha
   ·exact k.oP j y q2
  sl:=fun j j' y y' h h' q=>by
   have g : ∀ {j y},updF st.O N.id (some { a with no:=(st.RL.length:Int) }) j=some y→∃ z,st.O j=some z∧z.r=y.r:=fun {j y} h=>by
    rcases O' h with⟨q1,rfl⟩ | ⟨q1,q2⟩
    ·rw [q1]; exact⟨a,ha,rfl⟩
    ·exact⟨y,q2,rfl⟩
   obtain⟨z,z1,z2⟩:=g h
   obtain⟨z',z1',z2'⟩:=g h'
   exact k.sl j j' z z' z1 z1' (by rw [z2,z2']; exact q)
  own:=fun i c h q=>by
   obtain⟨j,y,y1,y2⟩:=k.own i c h q
   obtain⟨y',z1,z2,z3⟩:=O2 y1
   exact⟨j,y',z1,by rw [z2]; exact y2⟩
  B:=k.B }
theorem start1_RL (k:RLok st) {id:Int} {s':Dv} (h:dStart1 st=some (id,s')):RLok s':=by
 unfold dStart1 at h
 split at h
 ·cases h
 split at h
 ·cases h
 rename_i a ha
 simp only at h
 split at h
 ·cases h
 rename_i hr
 simp only [Option.some.injEq,Prod.mk.injEq] at h
 obtain⟨_,rfl⟩:=h
 intro n d hd
 unfold rPut at hd
 dsimp only at hd
 split at hd
 ·exact k n d hd
 split at hd
 ·exact k n d hd
 dsimp only at hd
 by_cases hlt:n<st.RL.length
 ·rw [List.getElem?_append_left hlt] at hd; exact k n d hd
 ·rw [List.getElem?_append_right (by omega)] at hd
  have:=List.mem_of_getElem? hd
  simp only [List.mem_singleton] at this
  rw [this]; dsimp only; omega
theorem startN_ok : ∀ (n:Nat) {st:Dv},DvOk st→RLok st→DvOk (dStartN n st).2∧RLok (dStartN n st).2
 | 0,st,k,r=>⟨k,r⟩
 | n+1,st,k,r=>by
  unfold dStartN
  cases h:dStart1 st with
  | none=>exact⟨k,r⟩
  | some p=>exact startN_ok n (start1_ok k h) (start1_RL r h)
theorem start_ok (k:DvOk st) (r:RLok st):DvOk (dStart st).2∧RLok (dStart st).2:=startN_ok 65 k r
end
end Go.Proofs.Vf
namespace Go.Proofs.Vf
open Go Go.Proofs Go.VC
section
variable {E:Int→Prop} {st:Dv}
theorem goStep_ok (k:DvOk' E st) (f:Fate):DvOk' (fun j=>E j∧j≠f.id) (goStep st f):=by
 unfold goStep
 cases hl:look st.B.L f.id with
 | some d=>
  show DvOk' (fun j=>E j∧j≠f.id) st
  exact { k with
   oE:=fun j y h=>by
    by_cases q:j=f.id
    ·rw [q,hl]; exact .inl rfl
    ·rcases k.oE j y h with r | r
     ·exact .inl r
     ·exact .inr ⟨r,q⟩ }
 | none=>exact leave_ok k f.id hl
theorem foldl_ok : ∀ (l:List Fate) {E:Int→Prop} {st:Dv},DvOk' E st→DvOk' (fun j=>E j∧∀ f∈l,j≠f.id) (l.foldl goStep st)
 | [],E,st,k=>by
  have:(fun j=>E j∧∀ f∈([]:List Fate),j≠f.id)=E:=by funext j; simp
  rw [this]; exact k
 | f :: l,E,st,k=>by
  have:=foldl_ok l (goStep_ok k f)
  have e:(fun j=>E j∧∀ g∈f :: l,j≠g.id)=(fun j=>(E j∧j≠f.id)∧∀ g∈l,j≠g.id):=by
   funext j; simp only [List.mem_cons,forall_eq_or_imp,and_assoc]
  rw [e]; exact this
theorem go_ok (k:DvOk st) {now:Int} (h0:0≤now):DvOk (dGo st now).2:=by
 unfold dGo
 have hB:=stGo_ok k.B h0
 obtain⟨r,hr⟩ : ∃ r,r=stGo st.B now:=⟨_,rfl⟩
 rw [← hr] at hB ⊢
 dsimp only
 unfold stGo at hr
 split at hr
 ·subst hr; exact k
 split at hr
 ·subst hr; exact k
 subst hr
 dsimp only at hB ⊢
 have hl : ∀ j d,look (st.B.L.filter fun x=>!dueBy st.B.cost now x) j=some d→look st.B.L j=some d:=fun j d h=>by
  have hn:((st.B.L.filter fun x=>!dueBy st.B.cost now x).map (·.id)).Nodup:=List.Nodup.sublist (List.filter_sublist.map _) k.B.nd
  rw [look_some hn] at h
  rw [look_some k.B.nd]
  exact (List.mem_filter.1 h).1
 have k1:DvOk' (fun j=>∃ d,look st.B.L j=some d∧dueBy st.B.cost now ⟨j,d⟩=true) { st with B:={ st.B with now:=now,L:=st.B.L.filter (fun x=>!dueBy st.B.cost now x),F:=[] } }:=
  {k with
   oB:=fun j d h=>k.oB j d (hl j d h)
   oE:=fun j y h=>by
    rcases k.oE j y h with q | q
    ·obtain⟨d,hd⟩:=Option.isSome_iff_exists.1 q
     have hn:((st.B.L.filter fun x=>!dueBy st.B.cost now x).map (·.id)).Nodup:=List.Nodup.sublist (List.filter_sublist.map _) k.B.nd
     cases hc:dueBy st.B.cost now ⟨j,d⟩ with
     | true=>exact .inr ⟨d,hd,hc⟩
     | false=>
      left
      dsimp only
      have:look (st.B.L.filter fun x=>!dueBy st.B.cost now x) j=some d:=by
       rw [look_some hn]
       exact List.mem_filter.2 ⟨(look_some k.B.nd).1 hd,by rw [hc]; rfl⟩
      rw [this]; rfl
    ·exact q.elim
   B:=hB }
 refine (foldl_ok _ k1).clean ?_
 rintro j ⟨⟨d,h1,h2⟩,h3⟩
 refine h3 (byTime ⟨j,d⟩) ?_ rfl
 refine List.mem_append_right _ (List.mem_map_of_mem (List.mem_filter.2 ⟨(look_some k.B.nd).1 h1,h2⟩))
theorem stOpen_bad {s:St} {id dead:Int} (h:(stOpen s id dead).1≠0):(stOpen s id dead).2=s:=by
 unfold stOpen at *
 split
 ·rfl
 split
 ·rfl
 split
 ·rfl
 split
 ·rfl
 split
 ·rfl
 ·rename_i h1 h2 h3 h4 h5
  rw [if_neg h1,if_neg h2,if_neg h3,if_neg h4,if_neg h5] at h
  exact absurd rfl h
theorem stOpen_good {s:St} {id dead:Int} (h:(stOpen s id dead).1=0):look s.L id=none∧(stOpen s id dead).2 = { s with L:=ins ⟨id,dead⟩ s.L }:=by
 unfold stOpen at *
 split at h
 ·cases h
 split at h
 ·cases h
 split at h
 ·cases h
 split at h
 ·cases h
 split at h
 ·cases h
 ·rename_i h1 h2 h3 h4 h5
  refine⟨?_,by rw [if_neg h1,if_neg h2,if_neg h3,if_neg h4,if_neg h5]⟩
  cases hq:look s.L id with
  | none=>rfl
  | some d=>rw [hq] at h3; simp at h3
theorem dSubmit_cases (k:DvOk st) (r:Rq):(∃ c,c≠0∧dSubmit st r=(c,st)) ∨
  ∃ b,mayW (wantOf r)=true∧bufAt st.P r.pc.slot r.pc.gen=some b∧b.owner=1∧0≤r.pc.fr∧1≤r.pc.len∧r.pc.fr+r.pc.len≤b.b.length∧0≤r.op∧r.op≤15∧r.pc.fr≤65535∧inRing st r.id=false∧st.O r.id=none∧st.Q.length<64∧look st.B.L r.id=none∧(stOpen st.B r.id r.dead).1=0 ∧
   dSubmit st r=(0,{ st with B:={ st.B with L:=ins ⟨r.id,r.dead⟩ st.B.L },Q:=insW (wantOf r) st.Q,P:=(pGive st.P r.pc.slot r.pc.gen 1 2).2,O:=updF st.O r.id (some ⟨r,-1,2⟩) }):=by
 unfold dSubmit
 split
 ·exact .inl ⟨1,by decide,rfl⟩
 rename_i hok
 split
 ·exact .inl ⟨8,by decide,rfl⟩
 rename_i how
 split
 ·exact .inl ⟨7,by decide,rfl⟩
 rename_i hri
 split
 ·exact .inl ⟨4,by decide,rfl⟩
 rename_i hfu
 split
 ·rename_i hop
  refine .inl ⟨_,hop,?_⟩
  rw [stOpen_bad hop]
 rename_i hop
 have hop:(stOpen st.B r.id r.dead).1=0:=by omega
 obtain⟨g1,g2⟩:=stOpen_good hop
 have hO:st.O r.id=none:=by
  cases h:st.O r.id with
  | none=>rfl
  | some x=>
   rcases k.oE _ x h with q | q
   ·rw [g1] at q; cases q
   ·exact q.elim
 have hQ:st.Q.length<64:=by
  by_cases q:64≤st.Q.length
  ·exact absurd ⟨q,hO⟩ hfu
  ·omega
 unfold argOk at hok
 simp only [Bool.and_eq_false_iff,not_or,Bool.not_eq_false',Bool.not_eq_false,decide_eq_true_eq] at hok
 obtain⟨⟨⟨⟨a1,a2⟩,a3⟩,a4⟩,a5⟩:=hok
 unfold mayP at a1
 cases hb:bufAt st.P r.pc.slot r.pc.gen with
 | none=>rw [hb] at a1; cases a1
 | some b=>
  rw [hb] at a1
  dsimp only at a1
  rw [decide_eq_true_eq] at a1
  have hown:b.owner=1:=by
   unfold pOwner at how
   rw [hb] at how
   dsimp only at how; omega
  have hadd:(qAdd st.Q (wantOf r)).2=insW (wantOf r) st.Q:=by
   unfold qAdd
   rw [if_neg (by rw [a5]; decide),if_neg,if_neg (by omega)]
   intro q
   rw [List.findIdx?_isSome,List.any_eq_true] at q
   obtain⟨w,hw,he⟩:=q
   obtain⟨x,x1,_⟩:=k.qO w hw
   rw [decide_eq_true_eq] at he
   rw [he] at x1
   have:(wantOf r).id=r.id:=rfl
   rw [this,hO] at x1; cases x1
  have hr:inRing st r.id=false:=by
   cases h:inRing st r.id with
   | false=>rfl
   | true=>exact absurd h hri
  refine .inr ⟨b,a5,rfl,hown,by omega,by omega,by omega,by omega,by omega,by omega,hr,hO,hQ,g1,hop,?_⟩
  rw [hadd,g2]
theorem submit_ok (k:DvOk st) (r:Rq):DvOk (dSubmit st r).2:=by
 rcases dSubmit_cases k r with⟨c,_,e⟩ | ⟨b,a5,hb,hown,f1,f2,f3,p1,p2,p3,hr,hO,hQ,hl,hop,e⟩
 ·rw [e]; exact k
 rw [e]
 dsimp only
 have hno : ∀ w∈st.Q,w.id≠r.id:=fun w hw q=>by
  obtain⟨x,x1,_⟩:=k.qO w hw
  rw [q,hO] at x1; cases x1
 have hnl : ∀ y∈st.B.L,y.id≠r.id:=look_none.1 hl
 have hn2 : ∀ y∈st.B.L,y.id≠(⟨r.id,r.dead⟩:One).id:=hnl
 have O' : ∀ {j y},updF st.O r.id (some ⟨r,-1,2⟩) j=some y→(j=r.id∧y=⟨r,-1,2⟩)∨(j≠r.id∧st.O j=some y):=fun {j y} h=>by
  unfold updF at h; split at h
  ·left; cases h; exact⟨by assumption,rfl⟩
  ·right; exact⟨by assumption,h⟩
 have O2 : ∀ {j y},st.O j=some y→updF st.O r.id (some ⟨r,-1,2⟩) j=some y:=fun {j y} h=>by
  rw [updF_ne]
  ·exact h
  ·intro q; rw [q,hO] at h; cases h
 have diff : ∀ {j y},st.O j=some y→y.r.pc.slot≠r.pc.slot:=fun {j y} h q=>by
  obtain⟨c,c1,c2,c3⟩:=k.oP j y h
  obtain⟨u1,u2,u3,u4,u5⟩:=bufAt_some c1
  obtain⟨v1,v2,v3,v4,v5⟩:=bufAt_some hb
  rw [q,v3] at u3
  cases u3
  have:=k.owner h
  omega
 have hB:=stOpen_ok k.B r.id r.dead
 rw [(stOpen_good hop).2] at hB
 exact
 {k with
  srt:=insW_srt k.srt hno
  qnd:=insW_nodup k.qnd hno
  trk:=fun w hw=>by
   rcases insW_mem.1 hw with rfl | q
   ·unfold mayW at a5
    simp only [Bool.and_eq_true,decide_eq_true_eq] at a5
    exact a5.1.2
   ·exact k.trk w q
  qO:=fun w hw=>by
   rcases insW_mem.1 hw with rfl | q
   ·exact⟨_,updF_same _ _ _,rfl,rfl⟩
   ·obtain⟨x,x1,x2⟩:=k.qO w q
    exact⟨x,O2 x1,x2⟩
  oid:=fun j y h=>by
   rcases O' h with⟨q1,rfl⟩ | ⟨q1,q2⟩
   ·exact q1.symm
   ·exact k.oid j y q2
  oQ:=fun j y h=>by
   rcases O' h with⟨q1,rfl⟩ | ⟨q1,q2⟩
   ·exact .inl ⟨rfl,rfl,insW_mem.2 (.inl rfl)⟩
   ·rcases k.oQ j y q2 with⟨r1,r2,r3⟩ | q
    ·exact .inl ⟨r1,r2,insW_mem.2 (.inr r3)⟩
    ·exact .inr q
  iE:=fun n f h=>by
   obtain⟨d,g1,g2,g3,g4,g5⟩:=k.iE n f h
   refine⟨d,g1,g2,g3,g4,fun q=>?_⟩
   obtain⟨y,y1,y2⟩:=g5 q
   exact⟨y,O2 y1,y2⟩
  oB:=fun j d h=>by
   dsimp only at h
   rw [look_ins k.B.nd hn2] at h
   split at h
   ·rename_i q
    cases h
    exact⟨⟨r,-1,2⟩,by rw [q]; exact updF_same _ _ _,rfl⟩
   ·obtain⟨y,y1,y2⟩:=k.oB j d h
    exact⟨y,O2 y1,y2⟩
  oE:=fun j y h=>by
   left
   dsimp only
   rw [look_ins k.B.nd hn2]
   rcases O' h with⟨q1,rfl⟩ | ⟨q1,q2⟩
   ·rw [if_pos q1]; rfl
   ·rw [if_neg q1]
    rcases k.oE j y q2 with q | q
    ·exact q
    ·exact q.elim
  oP:=fun j y h=>by
   dsimp only
   rw [bufAt_give hb hown (by omega) (by omega) (by omega)]
   rcases O' h with⟨q1,rfl⟩ | ⟨q1,q2⟩
   ·rw [if_pos ⟨rfl,rfl⟩]
    exact⟨_,rfl,rfl,f1,f2,f3⟩
   ·rw [if_neg (fun q=>diff q2 q.1)]
    exact k.oP j y q2
  sl:=fun j j' y y' h h' q=>by
   rcases O' h with⟨q1,rfl⟩ | ⟨q1,q2⟩ <;> rcases O' h' with⟨r1,rfl⟩ | ⟨r1,r2⟩
   ·rw [q1,r1]
   ·exact absurd q.symm (diff r2)
   ·exact absurd q (diff q2)
   ·exact k.sl j j' y y' q2 r2 q
  own:=fun i c h q=>by
   dsimp only at h ⊢
   rw [get_give hb hown (by omega) (by omega) (by omega)] at h
   split at h
   ·rename_i hi
    exact⟨r.id,⟨r,-1,2⟩,updF_same _ _ _,hi.symm⟩
   ·obtain⟨j,y,y1,y2⟩:=k.own i c h q
    exact⟨j,y,O2 y1,y2⟩
  B:=hB }
theorem new_ok {L:List Buf} (hL : ∀ b∈L,b.owner≠2∧b.owner≠3) {size:Nat} {cost:Int} (hc:1≤cost∧cost≤1000):DvOk (dNew L size cost):=
 {srt:=List.Pairwise.nil
  qnd:=List.nodup_nil
  trk:=fun w hw=>by cases hw
  qO:=fun w hw=>by cases hw
  oid:=fun _ _ h=>by cases h
  oQ:=fun _ _ h=>by cases h
  iR:=fun j=>by
   simp only [dNew,Option.isSome_none,Bool.false_eq_true,List.length_nil,false_iff]
   rintro⟨n,_,_,h⟩; omega
  iE:=fun _ _ h=>by cases h
  dt:=fun n d h=>by simp [dNew] at h
  rt:=⟨Nat.le_refl _,Nat.le_refl _⟩
  oB:=fun _ _ h=>by simp [dNew,look] at h
  oE:=fun _ _ h=>by cases h
  oP:=fun _ _ h=>by cases h
  sl:=fun _ _ _ _ h=>by cases h
  own:=fun i b h q=>by
   have:=hL b (List.mem_of_getElem? h)
   omega
  B:=⟨hc,⟨by simp [dNew],by simp [dNew]⟩,List.Pairwise.nil,List.nodup_nil,fun x hx=>(by cases hx),by simp [dNew]⟩ }
end
section
variable {st:Dv}
theorem rlok_of {s:Dv} (h:RLok st) (e:s.RL=st.RL):RLok s:=by unfold RLok; rw [e]; exact h
theorem submit_RLe (st:Dv) (r:Rq):(dSubmit st r).2.RL=st.RL:=by
 unfold dSubmit
 repeat (first | rfl | split)
theorem take_RLe (st:Dv):(dTake st).2.RL=st.RL:=by
 unfold dTake
 cases st.RL[st.taken]? with
 | none=>rfl
 | some d=>
  dsimp only
  cases st.I (st.taken:Nat) with
  | none=>rfl
  | some e=>dsimp only; split <;> rfl
theorem write_RLe (st:Dv) (no at_:Int) (bs:List Int):(dWrite st no at_ bs).2.RL=st.RL:=by
 unfold dWrite
 cases st.I no with
 | none=>rfl
 | some e=>
  dsimp only
  split
  ·rfl
  cases st.O e.id with
  | none=>rfl
  | some a=>dsimp only; split <;> rfl
theorem reap_RLe (st:Dv):(dReap st).2.RL=st.RL:=by
 unfold dReap
 cases st.RL[st.reaped]? with
 | none=>rfl
 | some d=>
  dsimp only
  split
  ·rfl
  dsimp only
  cases st.I (st.reaped:Nat) with
  | none=>rfl
  | some e=>
   dsimp only
   split
   ·rfl
   ·exact (dLeave_fields _ _).2.1
theorem cancel_RLe (st:Dv) (id:Int):(dCancel st id).2.RL=st.RL:=by
 unfold dCancel
 split
 ·exact (dLeave_fields _ _).2.1
 ·rfl
theorem foldl_RL : ∀ (l:List Fate) (s:Dv),(l.foldl goStep s).RL=s.RL
 | [],s=>rfl
 | f :: l,s=>by
  rw [List.foldl_cons,foldl_RL l]
  unfold goStep; split
  ·rfl
  ·exact (dLeave_fields _ _).2.1
theorem go_RLe (st:Dv) (t:Int):(dGo st t).2.RL=st.RL:=by
 unfold dGo
 rw [foldl_RL]
end
end Go.Proofs.Vf
namespace Go.Proofs.Vf
open Go Go.Proofs Go.VC
def Kp (T:Nat→Prop) (h h':Heap):Prop:=h.size≤h'.size∧∀ y,T y→h'[y]? = h[y]?
def Nw (T:Nat→Prop) (h h':Heap):Nat→Prop:=fun y=>T y∨(h.size≤y∧y<h'.size)
theorem Kp.trans {T T':Nat→Prop} {h1 h2 h3:Heap} (a:Kp T h1 h2) (b:Kp T' h2 h3) (hs : ∀ y,T y→T' y):Kp T h1 h3:=⟨Nat.le_trans a.1 b.1,fun y hy=>by rw [b.2 y (hs y hy),a.2 y hy]⟩
theorem Kp.get {T:Nat→Prop} {h h':Heap} (a:Kp T h h') {y:Nat} {o:Obj} (ho:h[y]? = some o) (hy:T y):h'[y]? = some o:=by rw [a.2 y hy]; exact ho
theorem Kp.sl {T:Nat→Prop} {h h':Heap} (k:Kp T h h') {e sz:Nat} {a:Option Addr} {n c:Nat} {vs:List Value} (s:Sl h e sz a n c vs) (hs : ∀ y,blkOf a y→T y):Sl h' e sz a n c vs:=s.keep fun y _ hb=>k.2 y (hs y hb)
theorem Kp.sub {T T':Nat→Prop} {h h':Heap} (a:Kp T' h h') (hs : ∀ y,T y→T' y):Kp T h h':=⟨a.1,fun y hy=>a.2 y (hs y hy)⟩
theorem Kp.ext {h0 h1 h2:Heap} {T:Nat→Prop} (x:Ext h0 h1) (k:Kp T h1 h2) (hT : ∀ y,y<h0.size→T y):Ext h0 h2:=⟨Nat.le_trans x.1 k.1,fun y hy=>by rw [k.2 y (hT y hy),x.2 y hy]⟩
structure Lw (db:Nat) (x:DX) (T:Nat→Prop) (h:Heap) (st:Dv):Prop where
 dev : ∃ col,DevP col h db x st∧∀ y,T y→y<h.size∧col y=0
 ok:DvOk st
 rl:RLok st
def Bd (n:Nat) (st:Dv):Prop:=st.B.F.length≤n∧st.RL.length≤65 * n
theorem Bd.mono {n m:Nat} {st:Dv} (b:Bd n st) (h:n≤m):Bd m st:=⟨Nat.le_trans b.1 h,Nat.le_trans b.2 (Nat.mul_le_mul_left _ h)⟩
section
variable {db:Nat} {x:DX} {T:Nat→Prop} {h h':Heap} {st st':Dv} {n:Nat}
theorem Lw.lt (L:Lw db x T h st) {y:Nat} (hy:T y):y<h.size:=by obtain⟨col,_,q⟩:=L.dev; exact (q y hy).1
theorem Lw.ext (L:Lw db x T h st) (e:Ext h h'):Lw db x (Nw T h h') h' st∧Kp T h h':=by
 obtain⟨col,D,q⟩:=L.dev
 obtain⟨S,D',Z⟩:=D.ext e
 refine⟨⟨⟨_,D',fun y hy=>?_⟩,L.ok,L.rl⟩,⟨e.1,fun y hy=>e.2 y (L.lt hy)⟩⟩
 rcases hy with hy | hy
 ·have:=q y hy
  exact⟨by have:=e.1; omega,by unfold recol; rw [if_pos this.1]; exact this.2⟩
 ·exact⟨hy.2,Z y hy.1⟩
theorem Lw.step (L:Lw db x T h st) (k:DvOk st') (r:RLok st') (H : ∀ {col:Nat→Nat},DevP col h db x st→∃ col',Stp col h col' h'∧DevP col' h' db x st'):Lw db x T h' st'∧Kp T h h':=by
 obtain⟨col,D,q⟩:=L.dev
 obtain⟨col',S,D'⟩:=H D
 refine⟨⟨⟨col',D',fun y hy=>?_⟩,k,r⟩,⟨S.1,fun y hy=>(S.2.1 y (q y hy).1 (.inl (q y hy).2)).1⟩⟩
 obtain⟨q1,q2⟩:=q y hy
 exact⟨Nat.lt_of_lt_of_le q1 S.1,by rw [(S.2.1 y q1 (.inl q2)).2]; exact q2⟩
theorem Lw.tmp (L:Lw db x T h st) {t:Nat} (ht:T t) (h2 : ∀ y,y≠t→h'[y]? = h[y]?) (hz:h'.size=h.size):Lw db x T h' st:=by
 obtain⟨col,D,q⟩:=L.dev
 exact⟨⟨col,D.tmp (q t ht).2 h2 hz,fun y hy=>by rw [hz]; exact q y hy⟩,L.ok,L.rl⟩
theorem Lw.sub {T':Nat→Prop} (L:Lw db x T h st) (hs : ∀ y,T' y→T y):Lw db x T' h st:=by
 obtain⟨col,D,q⟩:=L.dev
 exact⟨⟨col,D,fun y hy=>q y (hs y hy)⟩,L.ok,L.rl⟩
theorem inr_iff (k:DvOk st) (j:Int):(∃ i e,st.I i=some e∧e.id=j)↔inRing st j=true:=by
 unfold inRing
 rw [List.any_eq_true]
 constructor
 ·rintro⟨i,e,h1,h2⟩
  obtain⟨n,rfl,h3,h4⟩:=(k.iR i).1 (by rw [h1]; rfl)
  obtain⟨d,d1,d2,_⟩:=k.iE n e h1
  refine⟨d,List.mem_of_getElem? (i:=n - st.reaped) ?_,by rw [decide_eq_true_eq,← d2]; exact h2⟩
  rw [List.getElem?_drop]
  have:st.reaped+(n - st.reaped)=n:=by omega
  rw [this]; exact d1
 ·rintro⟨d,hd,he⟩
  rw [decide_eq_true_eq] at he
  obtain⟨i,hi,rfl⟩:=List.getElem_of_mem hd
  have hlen:st.reaped+i<st.RL.length:=by rw [List.length_drop] at hi; omega
  obtain⟨e,h1⟩:=Option.isSome_iff_exists.1 ((k.iR ((st.reaped+i:Nat):Int)).2 ⟨_,rfl,by omega,hlen⟩)
  obtain⟨d',d1,d2,_⟩:=k.iE _ e h1
  refine⟨_,e,h1,?_⟩
  rw [d2,← he]
  rw [List.getElem_drop]
  rw [List.getElem?_eq_getElem hlen] at d1
  cases d1; rfl
theorem lsubmit (L:Lw db x T h st) (r:Rq) (hd0:0≤r.dead) :
  CallsH PR Gie #[.pointer (some ⟨db,0,none⟩),.agg (rqV r).toArray] h (fun v h'=>v = .int .i64 (dSubmit st r).1∧Lw db x T h' (dSubmit st r).2∧Kp T h h'):=by
 obtain⟨col,D,q⟩:=L.dev
 refine (dsubmit_spec D r hd0 L.ok.srt (fun j=>inr_iff L.ok j)).mono ?_
 rintro _ h' ⟨rfl,col',S,D'⟩
 refine⟨rfl,⟨⟨col',D',fun y hy=>?_⟩,submit_ok L.ok r,rlok_of L.rl (submit_RLe st r)⟩,S.1,fun y hy=>(S.2.1 y (q y hy).1 (.inl (q y hy).2)).1⟩
 obtain⟨q1,q2⟩:=q y hy
 exact⟨Nat.lt_of_lt_of_le q1 S.1,by rw [(S.2.1 y q1 (.inl q2)).2]; exact q2⟩
theorem stp_T {col col':Nat→Nat} (S:Stp col h col' h') (q : ∀ y,T y→y<h.size∧col y=0):(∀ y,T y→y<h'.size∧col' y=0)∧Kp T h h':=
 ⟨fun y hy=>⟨Nat.lt_of_lt_of_le (q y hy).1 S.1,by rw [(S.2.1 y (q y hy).1 (.inl (q y hy).2)).2]; exact (q y hy).2⟩,S.1,fun y hy=>(S.2.1 y (q y hy).1 (.inl (q y hy).2)).1⟩
theorem lstart (L:Lw db x T h st) (b:Bd n st) (hn:n≤10000) :
  CallsH PR Gid #[.pointer (some ⟨db,0,none⟩)] h
   (fun v h'=>∃ a c,v = .slice a (dStart st).1.length c∧Sl h' ty_int 1 a (dStart st).1.length c ((dStart st).1.map (Value.int .i64))∧Lw db x (fun y=>T y∨blkOf a y) h' (dStart st).2∧Kp T h h'∧∀ y,blkOf a y→h.size≤y):=by
 obtain⟨col,D,q⟩:=L.dev
 refine (dstart_spec DvOk L.ok (fun s k hs=>?_) (fun s id s' k hs=>start1_ok k hs) D (by have:=b.2; omega)).mono ?_
 ·obtain⟨y,y1,_⟩:=k.qO _ (qNext_mem k.trk hs)
  rw [y1]; rfl
 ·rintro _ h' ⟨a,c,rfl,s,col',S,D',z⟩
  obtain⟨t1,t2⟩:=stp_T S q
  have ko:=start_ok L.ok L.rl
  refine⟨a,c,rfl,s,⟨⟨col',D',fun y hy=>?_⟩,ko.1,ko.2⟩,t2,fun y hy=>(z y hy).2⟩
  rcases hy with hy | hy
  ·exact t1 y hy
  ·obtain⟨cur,hc⟩:=s.blk_ty hy
   exact⟨lt_of_get hc,(z y hy).1⟩
theorem ltake (L:Lw db x T h st) (b:Bd n st) (hn:n≤10000) :
  CallsH PR Gif #[.pointer (some ⟨db,0,none⟩)] h
   (fun v h'=>v = .tuple #[.int .i64 (dTake st).1.1,.agg (dscV (dTake st).1.2.1).toArray,.int .i64 (dTake st).1.2.2]∧Lw db x T h' (dTake st).2∧Kp T h h'):=by
 obtain⟨col,D,q⟩:=L.dev
 refine (dtake_spec D (by have:=b.2; omega) (fun hl=>?_)).mono ?_
 ·obtain⟨e,he⟩:=Option.isSome_iff_exists.1 ((L.ok.iR (st.taken:Nat)).2 ⟨_,rfl,L.ok.rt.1,hl⟩)
  refine⟨e,he,fun hv=>?_⟩
  obtain⟨d,_,_,_,_,d5⟩:=L.ok.iE _ e he
  obtain⟨y,y1,_⟩:=d5 hv
  rw [y1]; rfl
 ·rintro _ h' ⟨rfl,col',S,D'⟩
  obtain⟨t1,t2⟩:=stp_T S q
  exact⟨rfl,⟨⟨col',D',t1⟩,take_ok L.ok,rlok_of L.rl (take_RLe st)⟩,t2⟩
theorem lwrite (L:Lw db x T h st) (no at_:Int) {a:Option Addr} {m c:Nat} {bs:List Int} (hm:m=bs.length) (hbs:firstH h 1 m (.slice a m c)=some (bs.map u8)) (ha:at_<9223372036854775808) :
  CallsH PR Gig #[.pointer (some ⟨db,0,none⟩),.int .i64 no,.int .i64 at_,.slice a m c] h (fun v h'=>v = .int .i64 (dWrite st no at_ bs).1∧Lw db x T h' (dWrite st no at_ bs).2∧Kp T h h'):=by
 obtain⟨col,D,q⟩:=L.dev
 refine (dwrite_spec D no at_ hm hbs (fun e he hv=>?_) ha).mono ?_
 ·obtain⟨i,rfl,h3,h4⟩:=(L.ok.iR no).1 (by rw [he]; rfl)
  obtain⟨d,_,_,_,_,d5⟩:=L.ok.iE _ e he
  obtain⟨y,y1,_⟩:=d5 hv
  obtain⟨bb,b1,b2,b3,b4,b5⟩:=L.ok.oP _ y y1
  obtain⟨u1,u2,u3,u4,u5⟩:=bufAt_some b1
  obtain⟨_,_,_,_,R⟩:=D.P
  have:=R.sz bb (List.mem_of_getElem? u3)
  exact⟨y,y1,by omega,by omega,by omega,by omega⟩
 ·rintro _ h' ⟨rfl,col',S,D'⟩
  obtain⟨t1,t2⟩:=stp_T S q
  exact⟨rfl,⟨⟨col',D',t1⟩,write_ok L.ok no at_ bs,rlok_of L.rl (write_RLe st no at_ bs)⟩,t2⟩
theorem lfinish (L:Lw db x T h st) (no status:Int) (bad:Bool) :
  CallsH PR Gia #[.pointer (some ⟨db,0,none⟩),.int .i64 no,.int .i64 status,.bool bad] h (fun v h'=>v = .int .i64 (dFinish st no status bad).1∧Lw db x T h' (dFinish st no status bad).2∧Kp T h h'):=by
 obtain⟨col,D,q⟩:=L.dev
 refine (finish_spec D no status bad (fun h0=>?_)).mono ?_
 ·unfold rFinish at h0
  split at h0
  ·cases h0
  split at h0
  ·cases h0
  cases hd:st.RL[no.toNat]? with
  | none=>rw [hd] at h0; cases h0
  | some d=>
   have:=(List.getElem?_eq_some_iff.1 hd).1
   exact (L.ok.iR no).2 ⟨no.toNat,by omega,by omega,this⟩
 ·rintro _ h' ⟨rfl,col',S,D'⟩
  obtain⟨t1,t2⟩:=stp_T S q
  exact⟨rfl,⟨⟨col',D',t1⟩,finish_ok L.ok no status bad,finish_RL L.rl no status bad⟩,t2⟩
theorem lreap (L:Lw db x T h st) (b:Bd n st) (hn:n≤10000) :
  CallsH PR Gic #[.pointer (some ⟨db,0,none⟩)] h
   (fun v h'=>v = .tuple #[.int .i64 (dReap st).1.1,.int .i64 (dReap st).1.2]∧Lw db x T h' (dReap st).2∧Kp T h h'):=by
 obtain⟨col,D,q⟩:=L.dev
 refine (dreap_spec D (by have:=b.2; omega) (by have:=b.1; omega) (fun d h1 h2=>L.ok.dt _ d h1 h2) (fun hl=>(L.ok.iR _).2 ⟨_,rfl,Nat.le_refl _,hl⟩)).mono ?_
 rintro _ h' ⟨rfl,col',S,D'⟩
 obtain⟨t1,t2⟩:=stp_T S q
 exact⟨rfl,⟨⟨col',D',t1⟩,reap_ok L.ok L.rl,rlok_of L.rl (reap_RLe st)⟩,t2⟩
theorem lcancel (L:Lw db x T h st) (b:Bd n st) (hn:n≤10000) (id:Int) :
  CallsH PR Gi8 #[.pointer (some ⟨db,0,none⟩),.int .i64 id] h (fun v h'=>v = .int .i64 (dCancel st id).1∧Lw db x T h' (dCancel st id).2∧Kp T h h'):=by
 obtain⟨col,D,q⟩:=L.dev
 refine (dcancel_spec D (by have:=b.1; omega) id).mono ?_
 rintro _ h' ⟨rfl,col',S,D'⟩
 obtain⟨t1,t2⟩:=stp_T S q
 exact⟨rfl,⟨⟨col',D',t1⟩,cancel_ok L.ok id,rlok_of L.rl (cancel_RLe st id)⟩,t2⟩
theorem stGo_len (k:StOk D0 st.B) (b:Bd n st) (t:Int):(stGo st.B t).2.1.length≤n+64:=by
 unfold stGo
 split
 ·simp
 split
 ·simp
 ·dsimp only
  rw [List.length_append,List.length_map]
  have:=List.length_filter_le (dueBy st.B.cost t) st.B.L
  have:=k.len
  have:=b.1
  omega
theorem lgo (L:Lw db x T h st) (b:Bd n st) (hn:n≤10000) {t:Int} (h0:0≤t) :
  CallsH PR Gib #[.pointer (some ⟨db,0,none⟩),.int .u64 t] h
   (fun v h'=>∃ a c,v = .tuple #[.slice a (dGo st t).1.2.length c,.int .i64 (dGo st t).1.1]∧Sl h' ty_api_Fate 3 a (dGo st t).1.2.length c (flat (dGo st t).1.2)∧Lw db x (fun y=>T y∨blkOf a y) h' (dGo st t).2∧Kp T h h'):=by
 obtain⟨col,D,q⟩:=L.dev
 refine (dgo_spec D (by have:=b.1; omega) (by have:=stGo_len L.ok.B b t; omega) h0).mono ?_
 rintro _ h' ⟨a,c,rfl,s,col',S,D',z⟩
 obtain⟨t1,t2⟩:=stp_T S q
 refine⟨a,c,rfl,s,⟨⟨col',D',fun y hy=>?_⟩,go_ok L.ok h0,rlok_of L.rl (go_RLe st t)⟩,t2⟩
 rcases hy with hy | hy
 ·exact t1 y hy
 ·obtain⟨cur,hc⟩:=s.blk_ty hy
  exact⟨lt_of_get hc,z y hy⟩
theorem lcounts (L:Lw db x T h st) :
  CallsH PR Gi9 #[.pointer (some ⟨db,0,none⟩)] h (fun v h'=>v = .tuple #[.int .i64 (st.Q.length:Nat),.int .i64 ((st.RL.length - st.reaped:Nat):Int)]∧Ext h h'):=by
 obtain⟨col,D,q⟩:=L.dev
 exact dcounts_spec D L.ok.iR
theorem lowner (L:Lw db x T h st) (s g:Int) :
  CallsH PR Glv #[.pointer (some ⟨x.pb,0,none⟩),.agg #[.int .i64 s,.int .u64 g]] h
   (fun v h'=>v = .tuple #[.int .i64 (pOwner st.P s g).1,.int .i64 (pOwner st.P s g).2.1,.int .i64 (pOwner st.P s g).2.2]∧Ext h h'):=by
 obtain⟨col,D,q⟩:=L.dev
 exact owner_spec D.P s g
theorem lsize (L:Lw db x T h st) (s g:Int) :
  CallsH PR Glz #[.pointer (some ⟨x.pb,0,none⟩),.agg #[.int .i64 s,.int .u64 g]] h
   (fun v h'=>v = .tuple #[.int .i64 (pSize st.P s g).1,.int .i64 (pSize st.P s g).2]∧Ext h h'):=by
 obtain⟨col,D,q⟩:=L.dev
 exact size_spec D.P s g
theorem lread (L:Lw db x T h st) (s g o m:Int) (ho : -4611686018427387904≤o∧o<4611686018427387904) :
  CallsH PR Glx #[.pointer (some ⟨x.pb,0,none⟩),.agg #[.int .i64 s,.int .u64 g],.int .i64 o,.int .i64 m] h
   (fun v h'=>∃ a c,v = .tuple #[.slice a (pRead st.P s g o m).2.length c,.int .i64 (pRead st.P s g o m).1]∧Ext h h'∧Sl h' ty_uint8 1 a (pRead st.P s g o m).2.length c ((pRead st.P s g o m).2.map u8)∧∀ y,blkOf a y→h.size≤y):=by
 obtain⟨col,D,q⟩:=L.dev
 exact read_spec D.P s g o m ho
theorem lnew {h0:Heap} {OwnP:Nat→Prop} {pb:Nat} {L:List Buf} (P:PoolS OwnP h pb L) (x0:Ext h0 h) (hO : ∀ y,OwnP y→h0.size≤y) (hL : ∀ b∈L,b.owner≠2∧b.owner≠3) {n cost:Int} (hn:1≤n∧n≤64) (hc:1≤cost∧cost≤1000) :
  CallsH PR Gij #[.pointer (some ⟨pb,0,none⟩),.int .i64 n,.int .u64 cost] h
   (fun v h'=>∃ db x,v = .tuple #[.pointer (some ⟨db,0,none⟩),.int .i64 0]∧Ext h h'∧x.pb=pb∧Lw db x (fun y=>y<h0.size) h' (dNew L n.toNat cost)):=by
 refine (dnew_spec P x0 hO hn hc).mono ?_
 rintro _ h' ⟨db,x,col,rfl,e,D,hp,z,_⟩
 exact⟨db,x,rfl,e,hp,⟨⟨col,D,fun y hy=>⟨by have:=x0.1; have:=e.1; omega,z y hy⟩⟩,new_ok hL hc,fun n d hd=>by simp [dNew] at hd⟩⟩
theorem gotL_own : ∀ b∈gotL,b.owner≠2∧b.owner≠3:=by decide
end
end Go.Proofs.Vf
