/- Contracts of functions of the program over the heap, and laws that follow from them. Conditions: as stated at each. -/
import Derived.Test.YtcldahgjomfbpaaGreatFRing
import Derived.Test.YtcldahgjomfbpaaGreatV3
import Derived.Test.YtcldahgjomfbpaaGreatO
import Derived.Test.YtcldahgjomfbpaaGreatFPieces
import Derived.Test.YtcldahgjomfbpaaGreatL
import Derived.Test.YtcldahgjomfbpaaGreatFDev
namespace Go.Proofs.Vf
open Go Go.Proofs Go.VC
structure Dsc where
 op:Int
 req:Int
 slot:Int
 gen:Int
 fr:Int
 len:Int
 dev:Bool
 done:Bool
 st:Int
def d0:Dsc:=⟨0,0,0,0,0,0,false,false,0⟩
def dscV (d:Dsc):List Value:=[.int .i64 d.op,.int .i64 d.req,.int .i64 d.slot,.int .u64 d.gen,.int .i64 d.fr,.int .i64 d.len,.bool d.dev,.bool d.done,.int .i64 d.st]
theorem dscV_one (d:Dsc) : ∀ v∈dscV d,v.oneCell'=true:=by
 intro v hv; simp [dscV] at hv; rcases hv with rfl | rfl | rfl | rfl | rfl | rfl | rfl | rfl | rfl <;> rfl
def dscI (d:Dsc):Value:=.iface 63 (.agg (dscV d).toArray)
def inD (n m:Int):Bool:=decide (0≤n) && decide (n≤m)
def mayD (d:Dsc):Bool:=inD d.op 15 && inD d.req 65535 && inD d.slot 65535 && decide (d.gen≤4294967295) && inD d.fr 65535 && inD d.len 65536 && inD d.st 255 && (d.done || decide (d.st=0))
theorem in_spec (n m:Int) (h:Heap):CallsH PR Ghs #[.int .i64 n,.int .i64 m] h (fun v h'=>v = .bool (inD n m)∧h'=h):=by
 apply Gaf
 unfold Gae
 exact⟨rfl,rfl⟩
theorem dmay_spec (d:Dsc) (h:Heap):CallsH PR Ghr #[.agg (dscV d).toArray] h (fun v h'=>v = .bool (mayD d)∧Ext h h'):=by
 apply Gad (p0_0:=d.op) (p0_1:=d.req) (p0_2:=d.slot) (p0_3:=d.gen) (p0_4:=d.fr) (p0_5:=d.len) (p0_6:=d.dev) (p0_7:=d.done) (p0_8:=d.st)
 unfold Gac
 intro h1 e1
 obtain⟨a1,a2,a3⟩:=push_get e1
 have no : ∀ {b:Bool} {J:Bool→Heap→Prop} {hz:Heap} (q:b=false) {B:Bool},(b=true→∀ x,x=B→J x hz)→True:=fun _ _ _=>trivial
 refine⟨d.op,cell_lst a1 rfl,(in_spec _ _ _).mono ?_⟩
 rintro _ h1 ⟨rfl,rfl⟩
 refine⟨_,rfl,d.req,fun _=>cell_lst a1 rfl,fun x hh=>hh=h1∧(inD d.op 15=true→x=inD d.req 65535),?_,fun hq=>(in_spec _ _ _).mono ?_,fun hq=>⟨true,rfl,fun q=>by rw [q] at hq; cases hq⟩⟩
 case refine_2=>
  rintro _ hz ⟨rfl,rfl⟩; exact⟨_,rfl,rfl,fun _=>rfl⟩
 rintro x hh ⟨rfl,hx⟩
 refine⟨d.slot,fun _=>cell_lst a1 rfl,fun y hz=>hz=hh∧((inD d.op 15 && x)=true→y=inD d.slot 65535),?_,fun hq=>(in_spec _ _ _).mono ?_,fun hq=>⟨true,rfl,fun q=>by rw [q] at hq; cases hq⟩⟩
 case refine_2=>
  rintro _ hz ⟨rfl,rfl⟩; exact⟨_,rfl,rfl,fun _=>rfl⟩
 rintro y hz ⟨rfl,hy⟩
 refine⟨d.gen,fun _=>cell_lst a1 rfl,d.fr,fun _=>cell_lst a1 rfl,fun z hw=>hw=hz∧((((inD d.op 15 && x) && y) && decide (d.gen≤4294967295))=true→z=inD d.fr 65535),?_,fun hq=>(in_spec _ _ _).mono ?_,fun hq=>⟨true,rfl,fun q=>by rw [q] at hq; cases hq⟩⟩
 case refine_2=>
  rintro _ hz ⟨rfl,rfl⟩; exact⟨_,rfl,rfl,fun _=>rfl⟩
 rintro z hw ⟨rfl,hzz⟩
 refine⟨d.len,fun _=>cell_lst a1 rfl,fun u hv=>hv=hw∧(((((inD d.op 15 && x) && y) && decide (d.gen≤4294967295)) && z)=true→u=inD d.len 65536),?_,fun hq=>(in_spec _ _ _).mono ?_,fun hq=>⟨true,rfl,fun q=>by rw [q] at hq; cases hq⟩⟩
 case refine_2=>
  rintro _ hz ⟨rfl,rfl⟩; exact⟨_,rfl,rfl,fun _=>rfl⟩
 rintro u hv ⟨rfl,hu⟩
 refine⟨d.st,fun _=>cell_lst a1 rfl,fun t ht=>ht=hv∧((((((inD d.op 15 && x) && y) && decide (d.gen≤4294967295)) && z) && u)=true→t=inD d.st 255),?_,fun hq=>(in_spec _ _ _).mono ?_,fun hq=>⟨true,rfl,fun q=>by rw [q] at hq; cases hq⟩⟩
 case refine_2=>
  rintro _ hz ⟨rfl,rfl⟩; exact⟨_,rfl,rfl,fun _=>rfl⟩
 rintro t ht ⟨rfl,hst⟩
 refine⟨d.done,fun _=>cell_lst a1 rfl,d.st,fun _=>cell_lst a1 rfl,congrArg Value.bool ?_,a2⟩
 unfold mayD
 cases g1:inD d.op 15 with
 | false=>simp
 | true=>
  have:=hx g1; subst this
  rw [g1] at hy hzz hu hst
  cases g2:inD d.req 65535 with
  | false=>simp
  | true=>
   rw [g2] at hy hzz hu hst
   have:=hy rfl; subst this
   cases g3:inD d.slot 65535 with
   | false=>simp
   | true=>
    rw [g3] at hzz hu hst
    cases g4:decide (d.gen≤4294967295) with
    | false=>simp
    | true=>
     rw [g4] at hzz hu hst
     have:=hzz rfl; subst this
     cases g5:inD d.fr 65535 with
     | false=>simp
     | true=>
      rw [g5] at hu hst
      have:=hu rfl; subst this
      cases g6:inD d.len 65536 with
      | false=>simp
      | true=>
       rw [g6] at hst
       have:=hst rfl; subst this
       rfl
theorem win_eq {a b lo n:Nat} (h0:lo≤a∧lo≤b) (ha:a<lo+n) (hb:b<lo+n) (e:a % n=b % n):a=b:=by
 rcases Nat.le_total a b with h | h
 ·have h1:=Nat.sub_mod_eq_zero_of_mod_eq e.symm
  rw [Nat.mod_eq_of_lt (by omega)] at h1
  omega
 ·have h1:=Nat.sub_mod_eq_zero_of_mod_eq e
  rw [Nat.mod_eq_of_lt (by omega)] at h1
  omega
structure RP (Own:Nat→Prop) (h:Heap) (rb:Nat) (size:Nat) (RL:List Dsc) (taken reaped:Nat) (pl:Nat) (P:List Value):Prop where
 blk:h[rb]? = some (.cells (List.toArray [.slice (some ⟨pl,0,none⟩) size size,.int .i64 RL.length,.int .i64 taken,.int .i64 reaped]) ty_ring_Ring (0,0))
 pb:h[pl]? = some (.cells (List.toArray P) ty_interface (0,0))
 plen:P.length=size
 full : ∀ no d,reaped≤no→RL[no]? = some d→P[no % size]? = some (dscI d)
 free : ∀ i,i<size→(∀ no,reaped≤no→no<RL.length→no % size≠i)→P[i]? = some .nilIface
 sz:1≤size∧size≤64
 ord:reaped≤taken∧taken≤RL.length∧RL.length≤reaped+size
 own:Own rb∧Own pl
 bnd : ∀ y,Own y→y<h.size
def RS (Own:Nat→Prop) (h:Heap) (rb:Nat) (size:Nat) (RL:List Dsc) (taken reaped:Nat):Prop:=∃ pl P,RP Own h rb size RL taken reaped pl P
section
variable {Own:Nat→Prop} {h h':Heap} {rb size taken reaped:Nat} {RL:List Dsc} {pl:Nat} {P:List Value}
theorem RP.keep (R:RP Own h rb size RL taken reaped pl P) (hz:h.size≤h'.size) (hk : ∀ y,y<h.size→Own y→h'[y]? = h[y]?):RP Own h' rb size RL taken reaped pl P:=
 {R with
  blk:=by rw [hk _ (lt_of_get R.blk) R.own.1]; exact R.blk
  pb:=by rw [hk _ (lt_of_get R.pb) R.own.2]; exact R.pb
  bnd:=fun y hy=>Nat.lt_of_lt_of_le (R.bnd y hy) hz }
theorem RP.ext (R:RP Own h rb size RL taken reaped pl P) (e:Ext h h'):RP Own h' rb size RL taken reaped pl P:=R.keep e.1 fun y hy _=>e.2 y hy
theorem RS.keep (R:RS Own h rb size RL taken reaped) (hz:h.size≤h'.size) (hk : ∀ y,y<h.size→Own y→h'[y]? = h[y]?):RS Own h' rb size RL taken reaped:=by
 obtain⟨a,b,R⟩:=R; exact⟨a,b,R.keep hz hk⟩
theorem RS.ext (R:RS Own h rb size RL taken reaped) (e:Ext h h'):RS Own h' rb size RL taken reaped:=R.keep e.1 fun y hy _=>e.2 y hy
theorem RS.bnd (R:RS Own h rb size RL taken reaped) : ∀ y,Own y→y<h.size:=by obtain⟨_,_,R⟩:=R; exact R.bnd
theorem RP.growS (R:RP Own h' rb size RL taken reaped pl P) (hz:h.size≤h'.size) (hb : ∀ y,Own y→y<h.size):RS (Grow Own h h') h' rb size RL taken reaped:=
 ⟨pl,P,{ R with
  own:=⟨.inl R.own.1,.inl R.own.2⟩
  bnd:=fun y hy=>by
   rcases hy with q | q
   ·have:=hb y q; omega
   ·exact q.2 }⟩
theorem RP.ne (R:RP Own h rb size RL taken reaped pl P):rb≠pl:=ne_of_ty R.blk R.pb (by decide)
theorem rplace_spec (R:RP Own h rb size RL taken reaped pl P) (no:Nat) :
  CallsH PR Gmb #[.pointer (some ⟨rb,0,none⟩),.int .i64 no] h (fun v h'=>v = .int .i64 ((no % size:Nat):Int)∧h'=h):=by
 have:=R.sz
 apply Ged
 unfold Gec
 refine⟨rb,0,rfl,_,_,_,cell_lst R.blk rfl,by omega,?_,rfl⟩
 congr 1
theorem rnew_spec (h:Heap) (n:Int) (hn:1≤n∧n≤64):CallsH PR Gm5 #[.int .i64 n] h
  (fun v h'=>∃ rb,v = .tuple #[.pointer (some ⟨rb,0,none⟩),.int .i64 0]∧Ext h h'∧RS (fun y=>h.size≤y∧y<h'.size) h' rb n.toNat [] 0 0):=by
 apply Ge1
 unfold Ge0
 refine⟨fun q=>(by simp at q; omega),fun _=>⟨n.toNat,by omega,⟨by omega,by omega,by omega⟩,fun h3 e3 h8 e8=>?_⟩⟩
 rw [show ((Value.nilIface).cells) = #[.nilIface] from rfl] at e3
 obtain⟨a1,a2,a3⟩:=push_get e3
 obtain⟨b1,b2,b3⟩:=push_get e8
 have hm : ∀ (v:Value) (n:Nat),madeCells #[v] n=(List.replicate n v).toArray:=fun v n=>by
  apply Array.ext_getElem?
  intro i
  unfold madeCells
  simp only [Array.getElem?_map,Array.getElem?_range,List.getElem?_toArray,List.getElem?_replicate]
  by_cases hi:i<n
  ·simp [hi,Nat.mod_one]
  ·simp [hi]
 rw [hm] at a1
 refine⟨h3.size,rfl,a2.trans b2,h.size,List.replicate (n.toNat * 1) .nilIface,?_⟩
 exact { blk:=b1,pb:=b2.get a1,plen:=(by simp),full:=fun no d _ hd=>(by simp at hd),free:=fun i hi _=>(by simp [hi]),sz:=(by omega),ord:=(by simp),own:=⟨⟨by omega,by omega⟩,⟨by omega,by omega⟩⟩,bnd:=fun y hy=>hy.2 }
def rPut (size:Nat) (RL:List Dsc) (reaped:Nat) (d:Dsc):(Int × Int) × List Dsc:=
 let d':={ d with dev:=true,done:=false,st:=0 }
 if mayD d'=false then ((0,1),RL) else if RL.length - reaped=size then ((0,4),RL) else ((RL.length,0),RL ++ [d'])
theorem rput_spec (RR:RS Own h rb size RL taken reaped) (hb:RL.length<1000000) (d:Dsc) :
  CallsH PR Gm8 #[.pointer (some ⟨rb,0,none⟩),.agg (dscV d).toArray] h
   (fun v h'=>v = .tuple #[.int .i64 (rPut size RL reaped d).1.1,.int .i64 (rPut size RL reaped d).1.2]∧Ch Own h h'∧RS (Grow Own h h') h' rb size (rPut size RL reaped d).2 taken reaped):=by
 have bnd:=RR.bnd
 obtain⟨pl,P,R⟩:=RR
 have hsz:=R.sz
 have hord:=R.ord
 apply Ge7 (p1_0:=d.op) (p1_1:=d.req) (p1_2:=d.slot) (p1_3:=d.gen) (p1_4:=d.fr) (p1_5:=d.len) (p1_6:=d.dev) (p1_7:=d.done) (p1_8:=d.st)
 unfold Ge6
 intro h1 e1
 obtain⟨a1,a2,a3⟩:=push_get e1
 obtain⟨h4,s1,s2,s3,s4⟩:=st_ex (o:=6) [.bool true] a1 (by simp) (by simp [Value.oneCell'])
 obtain⟨h6,t1,t2,t3,t4⟩:=st_ex (o:=7) [.bool false] s2 (by simp [spl]) (by simp [Value.oneCell'])
 obtain⟨h8,u1,u2,u3,u4⟩:=st_ex (o:=8) [.int .i64 0] t2 (by simp [spl]) (by simp [Value.oneCell'])
 obtain⟨D,hD⟩ : ∃ D:Dsc,D = { d with dev:=true,done:=false,st:=0 }:=⟨_,rfl⟩
 have k8:h8[h.size]? = some (.cells (List.toArray (dscV D)) 63 (0,0)):=by rw [u2,hD]; rfl
 have x8:Ext h h8:=⟨by omega,fun y hy=>by rw [u3 y (by omega),t3 y (by omega),s3 y (by omega),a2.2 y hy]⟩
 have hPut:rPut size RL reaped d=if mayD D=false then ((0,1),RL) else if RL.length - reaped=size then ((0,4),RL) else ((((RL.length:Nat):Int),0),RL ++ [D]):=by rw [hD]; rfl
 refine⟨h4,s1,h6,t1,h8,u1,_,_,_,_,_,_,_,_,_,ld_lst k8 9 0 (by simp [dscV]),(dmay_spec D h8).mono ?_⟩
 rintro _ h11 ⟨rfl,x11⟩
 have xx:=x8.trans x11
 have R11:=R.ext xx
 have k11:=x11.get k8
 have same : ∀ {p c:Int},rPut size RL reaped d=((p,c),RL)→Value.tuple #[.int .i64 p,.int .i64 c] = .tuple #[.int .i64 (rPut size RL reaped d).1.1,.int .i64 (rPut size RL reaped d).1.2]∧Ch Own h h11∧RS (Grow Own h h11) h11 rb size (rPut size RL reaped d).2 taken reaped:=fun e=>by
  rw [e]; exact⟨rfl,xx.ch,R11.growS xx.1 bnd⟩
 refine⟨_,rfl,fun hm=>same (by rw [hPut,if_pos hm]),fun hm=>⟨rb,0,rfl,_,cell_lst R11.blk rfl,_,cell_lst R11.blk rfl,⟨by omega,by omega⟩,_,_,_,cell_lst R11.blk rfl,fun hf=>same (by rw [hPut,if_neg (by rw [hm]; decide),if_pos (by omega)]),fun hf=>?_⟩⟩
 have e:rPut size RL reaped d=((((RL.length:Nat):Int),0),RL ++ [D]):=by rw [hPut,if_neg (by rw [hm]; decide),if_neg (by omega)]
 refine⟨_,cell_lst R11.blk rfl,_,_,_,cell_lst R11.blk rfl,_,_,_,_,_,_,_,_,_,ld_lst k11 9 0 (by simp [dscV]),(rplace_spec R11 RL.length).mono ?_⟩
 rintro _ h31 ⟨rfl,rfl⟩
 have hmod:RL.length % size<size:=Nat.mod_lt _ (by omega)
 obtain⟨h41,v1,v2,v3,v4⟩:=st_ex (o:=0+((RL.length % size:Nat):Int).toNat * 1) [dscI D] R11.pb (by rw [R11.plen]; simp; omega) (by simp [dscI,Value.oneCell'])
 have b41:=(v3 rb R11.ne).trans R11.blk
 obtain⟨h46,w1,w2,w3,w4⟩:=st_ex (o:=0+1) [.int .i64 ((RL.length:Int)+1)] b41 (by simp) (by simp [Value.oneCell'])
 refine⟨_,rfl,cell_lst R11.blk rfl,ld_lst k11 9 0 (by simp [dscV]),pl,0,rfl,⟨by omega,by omega⟩,h41,v1,_,cell_lst b41 rfl,⟨by omega,by omega⟩,h46,w1,?_⟩
 have hz:=xx.1
 have eo:0+((RL.length % size:Nat):Int).toNat * 1=RL.length % size:=by omega
 rw [eo,spl_one (by rw [R11.plen]; exact hmod)] at v2
 rw [e]
 refine⟨rfl,⟨by omega,fun y hy hn=>by rw [w3 y (fun q=>hn (q ▸ R.own.1)),v3 y (fun q=>hn (q ▸ R.own.2)),xx.2 y hy]⟩,RP.growS (pl:=pl) (P:=P.set (RL.length % size) (dscI D)) ?_ (by omega) bnd⟩
 exact
 {blk:=by rw [w2]; simp [spl]
  pb:=by rw [w3 pl R11.ne.symm]; exact v2
  plen:=by rw [List.length_set]; exact R11.plen
  full:=fun no d' hlo hd=>by
   rw [List.getElem?_append] at hd
   by_cases hlt:no<RL.length
   ·rw [if_pos hlt] at hd
    rw [List.getElem?_set,if_neg (fun q=>by
     have:=win_eq (lo:=reaped) (n:=size) ⟨by omega,hlo⟩ (by omega) (by omega) q
     omega)]
    exact R11.full no d' hlo hd
   ·rw [if_neg hlt] at hd
    have h0:no - RL.length=0:=by have:=(List.getElem?_eq_some_iff.1 hd).1; simp at this; omega
    rw [h0] at hd
    simp at hd
    subst hd
    have:no=RL.length:=by omega
    subst this
    rw [List.getElem?_set,if_pos rfl,if_pos (by rw [R11.plen]; exact hmod)]
  free:=fun i hi hno=>by
   have h1:=hno RL.length (by omega) (by simp)
   rw [List.getElem?_set,if_neg h1]
   exact R11.free i hi fun no a b=>hno no a (by simp; omega)
  sz:=hsz
  ord:=⟨hord.1,by simp; omega,by simp; omega⟩
  own:=R.own
  bnd:=fun y hy=>by have:=bnd y hy; omega }
end
end Go.Proofs.Vf
namespace Go.Proofs.Vf
open Go Go.Proofs Go.VC
section
variable {Own:Nat→Prop} {h h':Heap} {rb size taken reaped:Nat} {RL:List Dsc} {pl:Nat} {P:List Value}
theorem rcounts_spec (RR:RS Own h rb size RL taken reaped):CallsH PR Gm6 #[.pointer (some ⟨rb,0,none⟩)] h
  (fun v h'=>v = .tuple #[.int .i64 RL.length,.int .i64 taken,.int .i64 reaped]∧h'=h):=by
 obtain⟨pl,P,R⟩:=RR
 apply Ge3
 unfold Ge2
 exact⟨rb,0,rfl,_,cell_lst R.blk rfl,_,cell_lst R.blk rfl,_,cell_lst R.blk rfl,rfl,rfl⟩
def rTake (RL:List Dsc) (taken:Nat):(Int × Dsc × Int) × Nat:=match RL[taken]? with
 | none=>((0,d0,5),taken)
 | some d=>(((taken:Nat),d,0),taken+1)
theorem rtake_spec (RR:RS Own h rb size RL taken reaped) (hb:RL.length<1000000) :
  CallsH PR Gma #[.pointer (some ⟨rb,0,none⟩)] h
   (fun v h'=>v = .tuple #[.int .i64 (rTake RL taken).1.1,.agg (dscV (rTake RL taken).1.2.1).toArray,.int .i64 (rTake RL taken).1.2.2]∧Ch Own h h'∧RS (Grow Own h h') h' rb size RL (rTake RL taken).2 reaped):=by
 have bnd:=RR.bnd
 obtain⟨pl,P,R⟩:=RR
 have hsz:=R.sz
 have hord:=R.ord
 have hrb:=lt_of_get R.blk
 have hpl:=lt_of_get R.pb
 apply Geb
 unfold Gea
 intro h1 e1
 obtain⟨a1,a2,a3⟩:=push_get e1
 have R1:=R.ext a2
 refine⟨rb,0,rfl,_,cell_lst R1.blk rfl,_,cell_lst R1.blk rfl,fun heq=>?_,fun hne=>?_⟩
 ·have hn:RL[taken]? = none:=List.getElem?_eq_none (by omega)
  have e:rTake RL taken=((0,d0,5),taken):=by unfold rTake; rw [hn]
  obtain⟨h12,s1,s2,s3,s4⟩:=st_ex (o:=0) (dscV d0) a1 (by simp [dscV]) (dscV_one d0)
  have x12:Ext h h12:=⟨by omega,fun y hy=>by rw [s3 y (by omega),a2.2 y hy]⟩
  rw [e]
  exact⟨h12,s1,_,_,_,_,_,_,_,_,_,ld_lst s2 9 0 (by simp [spl,dscV]),rfl,x12.ch,(R.ext x12).growS x12.1 bnd⟩
 ·obtain⟨d,hd⟩ : ∃ d,RL[taken]? = some d:=⟨_,List.getElem?_eq_getElem (by omega)⟩
  have e:rTake RL taken=((((taken:Nat):Int),d,0),taken+1):=by unfold rTake; rw [hd]
  obtain⟨h21,t1,t2,t3,t4⟩:=st_ex (o:=0+2) [.int .i64 ((taken:Int)+1)] R1.blk (by simp) (by simp [Value.oneCell'])
  have P21:=(t3 pl R.ne.symm).trans R1.pb
  have R21:RP Own h21 rb size RL (taken+1) reaped pl P:=
   {R1 with
    blk:=by rw [t2]; rfl
    pb:=P21
    ord:=⟨by omega,by omega,hord.2.2⟩
    bnd:=fun y hy=>by have:=bnd y hy; omega }
  have hf:=R.full taken d hord.1 hd
  refine⟨_,cell_lst R1.blk rfl,_,cell_lst R1.blk rfl,⟨by omega,by omega⟩,h21,t1,_,_,_,cell_lst R21.blk rfl,(rplace_spec R21 taken).mono ?_⟩
  rintro _ h24 ⟨rfl,rfl⟩
  have hmod:taken % size<size:=Nat.mod_lt _ (by omega)
  have a21:h24[h.size]? = some (.cells (List.toArray (dscV d0)) 63 (0,0)):=by rw [t3 _ (by omega)]; exact a1
  obtain⟨h37,u1,u2,u3,u4⟩:=st_ex (o:=0) (dscV d) a21 (by simp [dscV]) (dscV_one d)
  have eo:0+((taken % size:Nat):Int).toNat * 1=taken % size:=by omega
  refine⟨_,rfl,cell_lst R21.blk rfl,pl,0,rfl,⟨by omega,by omega⟩,dscI d,cell_lst R21.pb (by rw [eo]; exact hf),_,_,_,_,_,_,_,_,_,rfl,h37,u1,_,_,_,_,_,_,_,_,_,ld_lst u2 9 0 (by simp [spl,dscV]),?_⟩
  rw [e]
  refine⟨rfl,⟨by omega,fun y hy hn=>by rw [u3 y (by omega),t3 y (fun q=>hn (q ▸ R.own.1)),a2.2 y hy]⟩,RP.growS (pl:=pl) (P:=P) ?_ (by omega) bnd⟩
  exact R21.keep (by omega) fun y hy ho=>u3 y (by have:=bnd y ho; omega)
def rFinish (RL:List Dsc) (taken reaped:Nat) (no st:Int):Int × List Dsc:=
 if st<0∨255<st then (1,RL) else if no<reaped∨taken≤no then (12,RL) else match RL[no.toNat]? with
  | none=>(12,RL)
  | some d=>if d.done then (12,RL) else (0,RL.set no.toNat { d with dev:=false,done:=true,st:=st })
theorem rfinish_spec (RR:RS Own h rb size RL taken reaped) (no st:Int) :
  CallsH PR Gm7 #[.pointer (some ⟨rb,0,none⟩),.int .i64 no,.int .i64 st] h
   (fun v h'=>v = .int .i64 (rFinish RL taken reaped no st).1∧Ch Own h h'∧RS (Grow Own h h') h' rb size (rFinish RL taken reaped no st).2 taken reaped):=by
 have bnd:=RR.bnd
 obtain⟨pl,P,R⟩:=RR
 have hsz:=R.sz
 have hord:=R.ord
 have hrb:=lt_of_get R.blk
 have hpl:=lt_of_get R.pb
 have same : ∀ {c:Int} {hz:Heap},Ext h hz→rFinish RL taken reaped no st=(c,RL)→Value.int .i64 c = .int .i64 (rFinish RL taken reaped no st).1∧Ch Own h hz∧RS (Grow Own h hz) hz rb size (rFinish RL taken reaped no st).2 taken reaped:=fun x e=>by
  rw [e]; exact⟨rfl,x.ch,(R.ext x).growS x.1 bnd⟩
 apply Ge5
 unfold Ge4
 refine⟨fun hs=>?_,fun hs=>⟨rb,0,rfl,_,cell_lst R.blk rfl,_,fun _=>cell_lst R.blk rfl,fun hn=>?_,fun hn=>?_⟩⟩
 ·simp only [Bool.or_eq_true,decide_eq_true_eq] at hs
  exact same (Ext.refl _) (by unfold rFinish; rw [if_pos hs])
 ·simp only [Bool.or_eq_false_iff,Bool.or_eq_true,decide_eq_true_eq,decide_eq_false_iff_not] at hs hn
  exact same (Ext.refl _) (by unfold rFinish; rw [if_neg (by omega),if_pos hn])
 ·simp only [Bool.or_eq_false_iff,decide_eq_false_iff_not] at hs hn
  obtain⟨k,rfl⟩:=Int.eq_ofNat_of_zero_le (show 0≤no by omega)
  obtain⟨d,hd⟩ : ∃ d,RL[k]? = some d:=⟨_,List.getElem?_eq_getElem (by omega)⟩
  have hF:rFinish RL taken reaped k st=if d.done then (12,RL) else (0,RL.set k { d with dev:=false,done:=true,st:=st }):=by
   unfold rFinish; rw [if_neg (by omega),if_neg (by omega)]
   simp only [Int.toNat_natCast,hd]
  have hf:=R.full k d (by omega) hd
  have hmod:k % size<size:=Nat.mod_lt _ (by omega)
  have eo:0+((k % size:Nat):Int).toNat * 1=k % size:=by omega
  refine⟨fun q hh=>∃ t,q=some ⟨t,0,none⟩∧h.size≤t∧Ext h hh∧hh[t]? = some (.cells (List.toArray (dscV d)) 63 (0,0)),?_,?_⟩
  ·rintro q hh ⟨t,rfl,ht,xx,kt⟩
   have Rh:=R.ext xx
   refine⟨t,0,rfl,d.done,cell_lst kt rfl,fun hdn=>same xx (by rw [hF,if_pos hdn]),fun hdn=>?_⟩
   obtain⟨h22,s1,s2,s3,s4⟩:=st_ex (o:=0+6) [.bool false] kt (by simp [dscV]) (by simp [Value.oneCell'])
   obtain⟨h24,t1,t2,t3,t4⟩:=st_ex (o:=0+7) [.bool true] s2 (by simp [dscV,spl]) (by simp [Value.oneCell'])
   obtain⟨h26,u1,u2,u3,u4⟩:=st_ex (o:=0+8) [.int .i64 st] t2 (by simp [dscV,spl]) (by simp [Value.oneCell'])
   obtain⟨D,hD⟩ : ∃ D:Dsc,D = { d with dev:=false,done:=true,st:=st }:=⟨_,rfl⟩
   have k26:h26[t]? = some (.cells (List.toArray (dscV D)) 63 (0,0)):=by rw [u2,hD]; rfl
   have hz:=xx.1
   have x26:Ext h h26:=⟨by omega,fun y hy=>by rw [u3 y (by omega),t3 y (by omega),s3 y (by omega),xx.2 y hy]⟩
   have R26:=R.ext x26
   refine⟨h22,s1,h24,t1,h26,u1,_,_,_,cell_lst R26.blk rfl,_,_,_,_,_,_,_,_,_,ld_lst k26 9 0 (by simp [dscV]),(rplace_spec R26 k).mono ?_⟩
   rintro _ h31 ⟨rfl,rfl⟩
   obtain⟨h41,v1,v2,v3,v4⟩:=st_ex (o:=0+((k % size:Nat):Int).toNat * 1) [dscI D] R26.pb (by rw [R26.plen]; simp; omega) (by simp [dscI,Value.oneCell'])
   have e:rFinish RL taken reaped k st=(0,RL.set k D):=by rw [hF,if_neg (by rw [hdn]; decide),hD]
   refine⟨_,rfl,cell_lst R26.blk rfl,ld_lst k26 9 0 (by simp [dscV]),pl,0,rfl,⟨by omega,by omega⟩,h41,v1,?_⟩
   rw [eo,spl_one (by rw [R26.plen]; exact hmod)] at v2
   rw [e]
   refine⟨rfl,⟨by omega,fun y hy hn'=>by rw [v3 y (fun q=>hn' (q ▸ R.own.2)),x26.2 y hy]⟩,RP.growS (pl:=pl) (P:=P.set (k % size) (dscI D)) ?_ (by omega) bnd⟩
   exact
   {blk:=by rw [v3 rb R.ne,List.length_set]; exact R26.blk
    pb:=v2
    plen:=by rw [List.length_set]; exact R.plen
    full:=fun m d' hlo hd'=>by
     rw [List.getElem?_set] at hd'
     by_cases hkm:k=m
     ·subst hkm
      rw [if_pos rfl,if_pos (List.getElem?_eq_some_iff.1 hd).1] at hd'
      cases hd'
      rw [List.getElem?_set,if_pos rfl,if_pos (by rw [R.plen]; exact hmod)]
     ·rw [if_neg hkm] at hd'
      have hm:=(List.getElem?_eq_some_iff.1 hd').1
      rw [List.getElem?_set,if_neg (fun q=>hkm (win_eq (lo:=reaped) (n:=size) ⟨by omega,hlo⟩ (by omega) (by omega) q))]
      exact R.full m d' hlo hd'
    free:=fun i hi hno=>by
     have:=hno k (by omega) (by rw [List.length_set]; omega)
     rw [List.getElem?_set,if_neg this]
     exact R.free i hi fun m a b=>hno m a (by rw [List.length_set]; exact b)
    sz:=hsz
    ord:=by rw [List.length_set]; exact hord
    own:=R.own
    bnd:=fun y hy=>by have:=bnd y hy; omega }
  ·refine⟨_,_,_,cell_lst R.blk rfl,(rplace_spec R k).mono ?_,fun h62 e62=>?_⟩
   ·rintro _ h44 ⟨rfl,rfl⟩
    refine⟨_,rfl,cell_lst R.blk rfl,pl,0,rfl,⟨by omega,by omega⟩,dscI d,cell_lst R.pb (by rw [eo]; exact hf),_,_,_,_,_,_,_,_,_,rfl,fun h56 e56=>?_⟩
    obtain⟨b1,b2,b3⟩:=push_get e56
    have R56:=R.ext b2
    obtain⟨h61,w1,w2,w3,w4⟩:=st_ex (o:=0) (dscV d) b1 (by simp [dscV]) (dscV_one d)
    exact⟨cell_lst R56.blk rfl,cell_lst R56.pb (by rw [eo]; exact hf),h61,w1,_,rfl,Nat.le_refl _,⟨by omega,fun y hy=>by rw [w3 y (by omega),b2.2 y hy]⟩,w2⟩
   ·obtain⟨b1,b2,b3⟩:=push_get e62
    have R62:=R.ext b2
    refine⟨cell_lst R62.blk rfl,(rplace_spec R62 k).mono ?_⟩
    rintro _ h65 ⟨rfl,rfl⟩
    obtain⟨h78,w1,w2,w3,w4⟩:=st_ex (o:=0) (dscV d) b1 (by simp [dscV]) (dscV_one d)
    exact⟨_,rfl,cell_lst R62.blk rfl,pl,0,rfl,⟨by omega,by omega⟩,dscI d,cell_lst R62.pb (by rw [eo]; exact hf),_,_,_,_,_,_,_,_,_,rfl,h78,w1,_,rfl,Nat.le_refl _,⟨by omega,fun y hy=>by rw [w3 y (by omega),b2.2 y hy]⟩,w2⟩
def rReap (RL:List Dsc) (reaped:Nat):(Dsc × Int) × Nat:=match RL[reaped]? with
 | none=>((d0,5),reaped)
 | some d=>if d.done then ((d,0),reaped+1) else ((d0,10),reaped)
theorem rreap_spec (RR:RS Own h rb size RL taken reaped) (hb:RL.length<1000000) (hdt : ∀ d,RL[reaped]? = some d→d.done=true→reaped<taken) :
  CallsH PR Gm9 #[.pointer (some ⟨rb,0,none⟩)] h
   (fun v h'=>v = .tuple #[.agg (dscV (rReap RL reaped).1.1).toArray,.int .i64 (rReap RL reaped).1.2]∧Ch Own h h'∧RS (Grow Own h h') h' rb size RL taken (rReap RL reaped).2):=by
 have bnd:=RR.bnd
 obtain⟨pl,P,R⟩:=RR
 have hsz:=R.sz
 have hord:=R.ord
 have hrb:=lt_of_get R.blk
 have hpl:=lt_of_get R.pb
 apply Ge9
 unfold Ge8
 intro h1 e1
 obtain⟨a1,a2,a3⟩:=push_get e1
 have R1:=R.ext a2
 have hmod:reaped % size<size:=Nat.mod_lt _ (by omega)
 have eo:0+((reaped % size:Nat):Int).toNat * 1=reaped % size:=by omega
 have bad : ∀ {hz:Heap} {c:Int},Ext h1 hz→rReap RL reaped=((d0,c),reaped)→∃ h9,stCells h.size hz 0 (dscV d0)=some h9∧∃ (a b c1 d e f:Int) (g i:Bool) (j:Int),ldCells h9 h.size 0 9=some [.int .i64 a,.int .i64 b,.int .i64 c1,.int .u64 d,.int .i64 e,.int .i64 f,.bool g,.bool i,.int .i64 j] ∧
   Value.tuple #[.agg #[.int .i64 a,.int .i64 b,.int .i64 c1,.int .u64 d,.int .i64 e,.int .i64 f,.bool g,.bool i,.int .i64 j],.int .i64 c] = .tuple #[.agg (dscV (rReap RL reaped).1.1).toArray,.int .i64 (rReap RL reaped).1.2]∧Ch Own h h9∧RS (Grow Own h h9) h9 rb size RL taken (rReap RL reaped).2:=by
  intro hz c xx e
  obtain⟨h9,s1,s2,s3,s4⟩:=st_ex (o:=0) (dscV d0) (xx.get a1) (by simp [dscV]) (dscV_one d0)
  have hzz:=xx.1
  have x9:Ext h h9:=⟨by omega,fun y hy=>by rw [s3 y (by omega),xx.2 y (by omega),a2.2 y hy]⟩
  rw [e]
  exact⟨h9,s1,_,_,_,_,_,_,_,_,_,ld_lst s2 9 0 (by simp [spl,dscV]),rfl,x9.ch,(R.ext x9).growS x9.1 bnd⟩
 obtain⟨v0,d,ok,hv0,hta,hcase⟩ : ∃ v0 d ok,P[reaped % size]? = some v0∧taH 63 (.agg (dscV d0).toArray) v0 (.agg (dscV d).toArray) ok∧((ok=false∧RL[reaped]? = none)∨(ok=true∧RL[reaped]? = some d)):=by
  by_cases hlt:reaped<RL.length
  ·obtain⟨d,hd⟩ : ∃ d,RL[reaped]? = some d:=⟨_,List.getElem?_eq_getElem hlt⟩
   exact⟨dscI d,d,true,R.full reaped d (Nat.le_refl _) hd,.inl ⟨rfl,rfl⟩,.inr ⟨rfl,hd⟩⟩
  ·exact⟨.nilIface,d0,false,R.free _ hmod (fun no ha hb'=>by omega),.inr ⟨.inl rfl,rfl,rfl⟩,.inl ⟨rfl,List.getElem?_eq_none (by omega)⟩⟩
 refine⟨fun q o hh=>o=ok∧Ext h1 hh∧∃ t,q=some ⟨t,0,none⟩∧h1.size≤t∧hh[t]? = some (.cells (List.toArray (dscV d)) 63 (0,0)),?_,?_⟩
 ·rintro q o hh ⟨rfl,xx,t,rfl,ht,kt⟩
  refine⟨fun hof=>?_,fun hot=>?_⟩
  ·rcases hcase with⟨_,hn⟩ | ⟨q,_⟩
   ·exact bad xx (by unfold rReap; rw [hn])
   ·rw [hof] at q; cases q
  ·rcases hcase with⟨q,_⟩ | ⟨_,hd⟩
   ·rw [hot] at q; cases q
   have Rh:=R1.ext xx
   have hz:=xx.1
   refine⟨t,0,rfl,d.done,cell_lst kt rfl,fun hdn=>bad xx (by unfold rReap; rw [hd]; simp only; rw [if_neg (by rw [hdn]; decide)]),fun hdn=>?_⟩
   have e:rReap RL reaped=((d,0),reaped+1):=by unfold rReap; rw [hd]; simp only; rw [if_pos hdn]
   have hlt:=(List.getElem?_eq_some_iff.1 hd).1
   refine⟨rb,0,rfl,_,_,_,cell_lst Rh.blk rfl,_,cell_lst Rh.blk rfl,(rplace_spec Rh reaped).mono ?_⟩
   rintro _ h28 ⟨rfl,rfl⟩
   obtain⟨h37,v1,v2,v3,v4⟩:=st_ex (o:=0+((reaped % size:Nat):Int).toNat * 1) [.nilIface] Rh.pb (by rw [R.plen]; simp; omega) (by simp [Value.oneCell'])
   have b37:=(v3 rb R.ne).trans Rh.blk
   obtain⟨h42,w1,w2,w3,w4⟩:=st_ex (o:=0+3) [.int .i64 ((reaped:Int)+1)] b37 (by simp) (by simp [Value.oneCell'])
   have k42:h42[t]? = some (.cells (List.toArray (dscV d)) 63 (0,0)):=by rw [w3 t (by omega),v3 t (by omega)]; exact kt
   have a42:h42[h.size]? = some (.cells (List.toArray (dscV d0)) 63 (0,0)):=by rw [w3 _ (by omega),v3 _ (by omega)]; exact xx.get a1
   obtain⟨h46,y1,y2,y3,y4⟩:=st_ex (o:=0) (dscV d) a42 (by simp [dscV]) (dscV_one d)
   refine⟨_,rfl,cell_lst Rh.blk rfl,pl,0,rfl,⟨by omega,by omega⟩,h37,v1,_,cell_lst b37 rfl,⟨by omega,by omega⟩,h42,w1,_,_,_,_,_,_,_,_,_,ld_lst k42 9 0 (by simp [dscV]),h46,y1,_,_,_,_,_,_,_,_,_,ld_lst y2 9 0 (by simp [spl,dscV]),?_⟩
   rw [eo,spl_one (by rw [R.plen]; exact hmod)] at v2
   rw [e]
   refine⟨rfl,⟨by omega,fun y hy hn=>by rw [y3 y (by omega),w3 y (fun q=>hn (q ▸ R.own.1)),v3 y (fun q=>hn (q ▸ R.own.2)),xx.2 y (by omega),a2.2 y hy]⟩,RP.growS (pl:=pl) (P:=P.set (reaped % size) .nilIface) ?_ (by omega) bnd⟩
   exact
   {blk:=by rw [y3 rb (by omega),w2]; rfl
    pb:=by rw [y3 pl (by omega),w3 pl R.ne.symm]; exact v2
    plen:=by rw [List.length_set]; exact R.plen
    full:=fun m d' hlo hd'=>by
     have hm:=(List.getElem?_eq_some_iff.1 hd').1
     rw [List.getElem?_set,if_neg (fun q=>by
      have:=win_eq (lo:=reaped) (n:=size) ⟨Nat.le_refl _,by omega⟩ (by omega) (by omega) q
      omega)]
     exact R.full m d' (by omega) hd'
    free:=fun i hi hno=>by
     rw [List.getElem?_set]
     by_cases hri:reaped % size=i
     ·rw [if_pos hri,if_pos (by rw [R.plen]; exact hmod)]
     ·rw [if_neg hri]
      refine R.free i hi fun m a b=>?_
      by_cases hmr:m=reaped
      ·rw [hmr]; exact hri
      ·exact hno m (by omega) b
    sz:=hsz
    ord:=⟨by have:=hdt d hd hdn; omega,hord.2.1,by omega⟩
    own:=R.own
    bnd:=fun y hy=>by have:=bnd y hy; omega }
 ·refine⟨rb,0,rfl,_,_,_,cell_lst R1.blk rfl,_,cell_lst R1.blk rfl,(rplace_spec R1 reaped).mono ?_,fun h75 e75=>?_⟩
  ·rintro _ h56 ⟨rfl,rfl⟩
   refine⟨_,rfl,cell_lst R1.blk rfl,pl,0,rfl,⟨by omega,by omega⟩,v0,cell_lst R1.pb (by rw [eo]; exact hv0),_,_,_,_,_,_,_,_,_,ok,hta,fun h69 e69=>?_⟩
   obtain⟨b1,b2,b3⟩:=push_get e69
   have R69:=R1.ext b2
   obtain⟨h74,w1,w2,w3,w4⟩:=st_ex (o:=0) (dscV d) b1 (by simp [dscV]) (dscV_one d)
   exact⟨cell_lst R69.blk rfl,cell_lst R69.pb (by rw [eo]; exact hv0),h74,w1,rfl,⟨by omega,fun y hy=>by rw [w3 y (by omega),b2.2 y hy]⟩,_,rfl,Nat.le_refl _,w2⟩
  ·obtain⟨b1,b2,b3⟩:=push_get e75
   have R75:=R1.ext b2
   refine⟨cell_lst R75.blk rfl,cell_lst R75.blk rfl,(rplace_spec R75 reaped).mono ?_⟩
   rintro _ h79 ⟨rfl,rfl⟩
   obtain⟨h93,w1,w2,w3,w4⟩:=st_ex (o:=0) (dscV d) b1 (by simp [dscV]) (dscV_one d)
   exact⟨_,rfl,cell_lst R75.blk rfl,pl,0,rfl,⟨by omega,by omega⟩,v0,cell_lst R75.pb (by rw [eo]; exact hv0),_,_,_,_,_,_,_,_,_,ok,hta,h93,w1,rfl,⟨by omega,fun y hy=>by rw [w3 y (by omega),b2.2 y hy]⟩,_,rfl,Nat.le_refl _,w2⟩
end
end Go.Proofs.Vf
namespace Go.Proofs.Vf
open Go Go.Proofs Go.VC
structure Pc where
 slot:Int
 gen:Int
 fr:Int
 len:Int
def pcV (p:Pc):List Value:=[.int .i64 p.slot,.int .u64 p.gen,.int .i64 p.fr,.int .i64 p.len]
def mayP (L:List Buf) (p:Pc):Bool:=match bufAt L p.slot p.gen with
 | none=>false
 | some x=>decide (0≤p.fr∧1≤p.len∧p.len≤x.b.length∧p.fr≤x.b.length - p.len)
section
variable {Own:Nat→Prop} {h:Heap} {pb:Nat} {L:List Buf}
theorem pmay_spec (RS:PoolS Own h pb L) (p:Pc):CallsH PR Gln #[.pointer (some ⟨pb,0,none⟩),.agg (pcV p).toArray] h (fun v h'=>v = .bool (mayP L p)∧Ext h h'):=by
 apply Gd3 (p1_0:=p.slot) (p1_1:=p.gen) (p1_2:=p.fr) (p1_3:=p.len)
 unfold Gd2
 intro h1 e1
 obtain⟨a1,a2,a3⟩:=push_get e1
 refine⟨_,_,ld_lst a1 2 0 (by simp),(size_spec (RS.ext a2) p.slot p.gen).mono ?_⟩
 rintro _ h5 ⟨rfl,x5⟩
 have a5:=x5.get a1
 have cf:cellH h5 h.size 2=some (.int .i64 p.fr):=cell_lst a5 rfl
 have cl:cellH h5 h.size 3=some (.int .i64 p.len):=cell_lst a5 rfl
 have hsz : ∀ x,bufAt L p.slot p.gen=some x→x.b.length≤65536:=fun x hx=>by
  obtain⟨_,_,_,_,R⟩:=RS
  exact R.sz x (List.mem_of_getElem? (bufAt_some hx).2.2.1)
 refine⟨_,_,rfl,_,fun _=>cf,_,fun _=>cl,_,fun _=>cl,_,fun _=>cf,_,fun _=>cl,congrArg Value.bool ?_,a2.trans x5⟩
 unfold mayP pSize
 cases hb:bufAt L p.slot p.gen with
 | none=>rfl
 | some x=>
  have:=hsz x hb
  simp only
  by_cases hc:0≤p.fr∧1≤p.len∧p.len≤x.b.length
  ·have hw:IntKind.i64.wrap ((x.b.length:Int) - p.len)=(x.b.length:Int) - p.len:=wrap_i64 (by omega)
   rw [hw]
   obtain⟨q1,q2,q3⟩:=hc
   simp [q1,q2,q3]
  ·have:decide (0≤p.fr∧1≤p.len∧p.len≤x.b.length∧p.fr≤x.b.length - p.len)=false:=by
    rw [decide_eq_false_iff_not]; rintro⟨q1,q2,q3,_⟩; exact hc ⟨q1,q2,q3⟩
   rw [this]
   by_cases q1:0≤p.fr
   ·by_cases q2:1≤p.len
    ·have q3 : ¬ p.len≤x.b.length:=fun q=>hc ⟨q1,q2,q⟩
     simp [q3]
    ·simp [q2]
   ·simp [q1]
theorem contains0 {h:Heap} (b o c:Nat) (f:Value):CallsH PR Gn1 #[.slice (some ⟨b,o,none⟩) 0 c,f] h (fun v h'=>v = .bool false∧h'=h):=by
 apply Gel
 unfold Gek
 have:CallsH PR Gn3 #[.slice (some ⟨b,o,none⟩) 0 c,f] h (fun v h'=>v = .int .i64 (-1)∧h'=h):=by
  apply Gep
  unfold Geo
  refine⟨fun i hh=>i=0∧hh=h,fun _ _=>0,⟨rfl,rfl⟩,?_⟩
  rintro i hh ⟨rfl,rfl⟩
  exact⟨fun q=>absurd q (by simp),fun _=>⟨rfl,rfl⟩⟩
 refine this.mono ?_
 rintro _ h1 ⟨rfl,rfl⟩
 exact⟨_,rfl,rfl,rfl⟩
theorem pieces1_spec (RS:PoolS Own h pb L) (p:Pc) {vb:Nat} (hv:h[vb]? = some (.cells (List.toArray (pcV p)) ty_api_Piece (0,0))) :
  CallsH PR Gll #[.pointer (some ⟨pb,0,none⟩),.slice (some ⟨vb,0,none⟩) 1 1] h (fun v h'=>v = .bool (mayP L p)∧Ext h h'):=by
 apply Gd1
 unfold Gcy
 refine⟨fun i hh=>Ext h hh∧(i=0∨(i=1∧mayP L p=true)),fun i _=>(1 - i).toNat,⟨Ext.refl _,.inl rfl⟩,?_⟩
 rintro i hh ⟨xx,hi⟩
 rcases hi with rfl | ⟨rfl,hm⟩
 ·refine⟨fun _=>⟨vb,0,rfl,⟨by omega,by omega⟩,_,_,_,_,ld_lst (xx.get hv) 4 0 (by simp [pcV]),fun h13 e13=>?_⟩,fun q=>absurd (by omega) q⟩
  obtain⟨h16,s1,s2,s3,s4⟩:=st_tmp (zs:=[_,_,_,_]) e13 [.int .i64 p.slot,.int .u64 p.gen,.int .i64 p.fr,.int .i64 p.len] rfl (by simp [Value.oneCell'])
  have x16:=xx.trans s3
  refine⟨h16,s1,_,_,_,_,ld_lst s2 4 0 (by simp),(pmay_spec (RS.ext x16) p).mono ?_⟩
  rintro _ h19 ⟨rfl,x19⟩
  refine⟨_,rfl,0,fun _=>rfl,fun _=>⟨by omega,by omega,by omega⟩,fun q hz=>Ext h hz∧q=false,?_,fun hq=>?_,fun _=>⟨false,x16.trans x19,rfl⟩⟩
  ·rintro q hz ⟨xz,rfl⟩
   refine⟨fun hc=>?_,fun hc=>⟨⟨by omega,by omega⟩,⟨xz,.inr ⟨rfl,by simpa using hc⟩⟩,by dsimp only; omega⟩⟩
   have:mayP L p=false:=by simpa using hc
   rw [this]; exact⟨rfl,xz⟩
  ·rw [cutA_zero]
   refine (contains0 _ _ _ _).mono ?_
   rintro _ h25 ⟨rfl,rfl⟩
   exact⟨false,rfl,x16.trans x19,rfl⟩
 ·refine⟨fun q=>absurd q (by simp),fun _=>⟨?_,xx⟩⟩
  rw [hm]; rfl
end
end Go.Proofs.Vf
namespace Go.VC
open Classical in
noncomputable def recolP (col:Nat→Nat) (h:Heap) (k:Nat) (Own':Nat→Prop) (y:Nat):Nat:=if Own' y then k else if y<h.size∧col y≠k then col y else 0
theorem Cl_recolP {col:Nat→Nat} {k:Nat} {h h':Heap} {Own':Nat→Prop} (hk:k≠0) (hb : ∀ y,Own' y→y<h'.size):Cl (recolP col h k Own') k h'=Own':=by
 funext y
 apply propext
 unfold Cl recolP
 constructor
 ·rintro⟨h1,h2⟩
  by_cases q:Own' y
  ·exact q
  ·rw [if_neg q] at h2
   split at h2
   ·rename_i r; exact absurd h2 r.2
   ·exact absurd h2.symm hk
 ·intro q
  exact⟨hb y q,by rw [if_pos q]⟩
theorem Cl_recolP_ne {col:Nat→Nat} {k j:Nat} {h h':Heap} {Own':Nat→Prop} (hz:h.size≤h'.size) (hj:j≠k) (hj0:j≠0) (hs : ∀ y,Own' y→Cl col k h y∨h.size≤y):Cl (recolP col h k Own') j h'=Cl col j h:=by
 funext y
 apply propext
 unfold Cl recolP
 by_cases q:Own' y
 ·rw [if_pos q]
  constructor
  ·rintro⟨_,h2⟩; exact absurd h2.symm hj
  ·rintro⟨h1,h2⟩
   rcases hs y q with r | r
   ·exact absurd (h2.symm.trans r.2) hj
   ·omega
 ·rw [if_neg q]
  constructor
  ·rintro⟨h1,h2⟩
   split at h2
   ·rename_i r; exact⟨r.1,h2⟩
   ·exact absurd h2.symm hj0
  ·rintro⟨h1,h2⟩
   refine⟨by omega,?_⟩
   rw [if_pos ⟨h1,by rw [h2]; exact hj⟩]; exact h2
def Stp (col:Nat→Nat) (h:Heap) (col':Nat→Nat) (h':Heap):Prop:=
 h.size≤h'.size∧(∀ y,y<h.size→(col y=0∨7<col y)→h'[y]? = h[y]?∧col' y=col y)∧(∀ y,y<h.size→col y≤7→col' y≤7)∧∀ y,h.size≤y→col' y≤7
theorem Stp.trans {c1 c2 c3:Nat→Nat} {h1 h2 h3:Heap} (a:Stp c1 h1 c2 h2) (b:Stp c2 h2 c3 h3):Stp c1 h1 c3 h3:=by
 obtain⟨a1,a2,a3,a4⟩:=a
 obtain⟨b1,b2,b3,b4⟩:=b
 refine⟨by omega,fun y hy hc=>?_,fun y hy hc=>b3 y (by omega) (a3 y hy hc),fun y hy=>?_⟩
 ·obtain⟨q1,q2⟩:=a2 y hy hc
  obtain⟨r1,r2⟩:=b2 y (by omega) (by rw [q2]; exact hc)
  exact⟨r1.trans q1,r2.trans q2⟩
 ·by_cases hy2:y<h2.size
  ·exact b3 y hy2 (a4 y hy)
  ·exact b4 y (by omega)
theorem Stp.refl (c:Nat→Nat) (h:Heap) (hn : ∀ y,h.size≤y→c y≤7):Stp c h c h:=⟨Nat.le_refl _,fun _ _ _=>⟨rfl,rfl⟩,fun _ _ q=>q,hn⟩
theorem Stp.get {c c':Nat→Nat} {h h':Heap} (s:Stp c h c' h') {y:Nat} {o:Obj} (ho:h[y]? = some o) (hc:c y=0):h'[y]? = some o∧c' y=0:=by
 obtain⟨q1,q2⟩:=s.2.1 y (lt_of_get ho) (.inl hc)
 exact⟨q1.trans ho,q2.trans hc⟩
theorem stp_recolP {col:Nat→Nat} {h h':Heap} {k:Nat} {Own':Nat→Prop} (hk:1≤k∧k≤7) (ch:Ch (Cl col k h) h h') (hs : ∀ y,Own' y→Cl col k h y∨h.size≤y):Stp col h (recolP col h k Own') h':=by
 refine⟨ch.1,fun y hy hc=>?_,fun y hy hc=>?_,fun y hy=>?_⟩
 ·have hne:col y≠k:=by omega
  refine⟨ch.2 y hy fun q=>hne q.2,?_⟩
  unfold recolP
  rw [if_neg (fun q=>by
   rcases hs y q with r | r
   ·exact hne r.2
   ·omega),if_pos ⟨hy,hne⟩]
 ·unfold recolP
  split
  ·omega
  ·split
   ·exact hc
   ·omega
 ·unfold recolP
  split
  ·omega
  ·rw [if_neg (by omega)]; omega
theorem stp_ext {col:Nat→Nat} {h h':Heap} (e:Ext h h'):Stp col h (recol col h 0) h':=
 ⟨e.1,fun y hy _=>⟨e.2 y hy,by unfold recol; rw [if_pos hy]⟩,fun y hy hc=>by unfold recol; rw [if_pos hy]; exact hc,fun y hy=>by unfold recol; rw [if_neg (by omega)]; omega⟩
end Go.VC
namespace Go.Proofs.Vf
open Go Go.Proofs Go.VC
structure Rq where
 id:Int
 op:Int
 dead:Int
 track:Int
 pc:Pc
def rqV (r:Rq):List Value:=[.int .i64 r.id,.int .i64 r.op,.int .u64 r.dead,.int .i64 r.track,.int .i64 r.pc.slot,.int .u64 r.pc.gen,.int .i64 r.pc.fr,.int .i64 r.pc.len]
def wantOf (r:Rq):Wnt:=⟨r.id,r.dead,r.track⟩
structure Opn where
 r:Rq
 no:Int
 owner:Int
def opnV (x:Opn):List Value:=[.int .i64 x.r.id,.int .i64 x.r.op,.int .u64 x.r.dead,.int .i64 x.r.track,.int .i64 x.r.pc.slot,.int .u64 x.r.pc.gen,.int .i64 x.r.pc.fr,.int .i64 x.r.pc.len,.int .i64 x.no,.int .i64 x.owner]
structure Ent where
 id:Int
 void:Bool
 taken:Bool
 done:Bool
 bad:Bool
def eV (e:Ent):List Value:=[.int .i64 e.id,.bool e.void,.bool e.taken,.bool e.done,.bool e.bad]
structure Dv where
 P:List Buf
 Q:List Wnt
 hd:Int
 dn:Bool
 size:Nat
 RL:List Dsc
 taken:Nat
 reaped:Nat
 B:St
 O:Int→Option Opn
 I:Int→Option Ent
structure DX where
 pb:Nat
 qb:Nat
 rb:Nat
 bb:Nat
 mo:Nat
 mi:Nat
def devV (x:DX):List Value:=[.pointer (some ⟨x.pb,0,none⟩),.pointer (some ⟨x.qb,0,none⟩),.pointer (some ⟨x.rb,0,none⟩),.pointer (some ⟨x.bb,0,none⟩),.map (some x.mo),.map (some x.mi)]
structure DevP (col:Nat→Nat) (h:Heap) (db:Nat) (x:DX) (st:Dv):Prop where
 blk:h[db]? = some (.cells (List.toArray (devV x)) ty_ioq_Device (0,0))
 cdb:col db=5
 P:PoolS (Cl col 1 h) h x.pb st.P
 Q:QS (Cl col 2 h) h x.qb st.Q st.hd st.dn
 R:RS (Cl col 3 h) h x.rb st.size st.RL st.taken st.reaped
 B:BookS (Cl col 4 h) h x.bb st.B
 O:MS opnV ty_ioq_open (Cl col 6 h) h x.mo st.O
 I:MS eV ty_ioq_entry (Cl col 7 h) h x.mi st.I
section
variable {col:Nat→Nat} {h h':Heap} {db:Nat} {x:DX} {st:Dv}
theorem clno {j k:Nat} {y:Nat} (c:Cl col j h y) (hj:j≠k) : ¬ Cl col k h y:=fun q=>hj (c.2.symm.trans q.2)
theorem ch_keep {k j:Nat} (ch:Ch (Cl col k h) h h') (hj:j≠k) : ∀ y,y<h.size→Cl col j h y→h'[y]? = h[y]?:=fun y hy c=>ch.2 y hy (clno c hj)
theorem blk_keep (D:DevP col h db x st) {k:Nat} (hk:k≠5) (ch:Ch (Cl col k h) h h'):h'[db]? = some (.cells (List.toArray (devV x)) ty_ioq_Device (0,0)):=by
 rw [ch.2 db (lt_of_get D.blk) (fun q=>hk (q.2.symm.trans D.cdb))]; exact D.blk
theorem cdb_keep (D:DevP col h db x st) {k:Nat} (hk:k≠5) {Own':Nat→Prop} (hs : ∀ y,Own' y→Cl col k h y∨h.size≤y):recolP col h k Own' db=5:=by
 have hd:=lt_of_get D.blk
 unfold recolP
 rw [if_neg (fun q=>by
  rcases hs db q with r | r
  ·exact hk (r.2.symm.trans D.cdb)
  ·omega),if_pos ⟨hd,by rw [D.cdb]; exact fun q=>hk q.symm⟩]
 exact D.cdb
theorem grow_sub {k:Nat} : ∀ y,Grow (Cl col k h) h h' y→Cl col k h y∨h.size≤y:=fun y q=>by
 rcases q with q | q
 ·exact .inl q
 ·exact .inr q.1
theorem grow_lt {k:Nat} (hz:h.size≤h'.size) : ∀ y,Grow (Cl col k h) h h' y→y<h'.size:=fun y q=>by
 rcases q with q | q
 ·have:=q.1; omega
 ·exact q.2
theorem recolP_keep {k:Nat} {Own':Nat→Prop} (hs : ∀ y,Own' y→Cl col k h y∨h.size≤y) : ∀ y,y<h.size→col y≠k→recolP col h k Own' y=col y:=fun y hy hc=>by
 unfold recolP
 rw [if_neg (fun q=>by
  rcases hs y q with r | r
  ·exact hc r.2
  ·omega),if_pos ⟨hy,hc⟩]
theorem DevP.stepP (D:DevP col h db x st) {L':List Buf} (ch:Ch (Cl col 1 h) h h') (P':PoolS (Grow (Cl col 1 h) h h') h' x.pb L') : ∃ col',Stp col h col' h'∧DevP col' h' db x { st with P:=L' }∧∀ y,y<h.size→col y≠1→col' y=col y:=by
 refine⟨recolP col h 1 (Grow (Cl col 1 h) h h'),stp_recolP (by omega) ch grow_sub,?_,recolP_keep grow_sub⟩
 exact
 {blk:=blk_keep D (by omega) ch,cdb:=cdb_keep D (by omega) grow_sub
  P:=by rw [Cl_recolP (by omega) (grow_lt ch.1)]; exact P'
  Q:=by rw [Cl_recolP_ne ch.1 (by omega) (by omega) grow_sub]; exact D.Q.keep ch.1 (ch_keep ch (by omega))
  R:=by rw [Cl_recolP_ne ch.1 (by omega) (by omega) grow_sub]; exact D.R.keep ch.1 (ch_keep ch (by omega))
  B:=by rw [Cl_recolP_ne ch.1 (by omega) (by omega) grow_sub]; exact D.B.ch ch (fun y hy=>clno hy (by omega))
  O:=by rw [Cl_recolP_ne ch.1 (by omega) (by omega) grow_sub]; exact D.O.keep ch.1 (ch_keep ch (by omega))
  I:=by rw [Cl_recolP_ne ch.1 (by omega) (by omega) grow_sub]; exact D.I.keep ch.1 (ch_keep ch (by omega)) }
theorem DevP.stepQ (D:DevP col h db x st) {Q':List Wnt} {hd':Int} {dn':Bool} (ch:Ch (Cl col 2 h) h h') (R':QS (Grow (Cl col 2 h) h h') h' x.qb Q' hd' dn') : ∃ col',Stp col h col' h'∧DevP col' h' db x { st with Q:=Q',hd:=hd',dn:=dn' }∧∀ y,y<h.size→col y≠2→col' y=col y:=by
 refine⟨recolP col h 2 (Grow (Cl col 2 h) h h'),stp_recolP (by omega) ch grow_sub,?_,recolP_keep grow_sub⟩
 exact
 {blk:=blk_keep D (by omega) ch,cdb:=cdb_keep D (by omega) grow_sub
  P:=by rw [Cl_recolP_ne ch.1 (by omega) (by omega) grow_sub]; exact D.P.keep ch.1 (ch_keep ch (by omega))
  Q:=by rw [Cl_recolP (by omega) (grow_lt ch.1)]; exact R'
  R:=by rw [Cl_recolP_ne ch.1 (by omega) (by omega) grow_sub]; exact D.R.keep ch.1 (ch_keep ch (by omega))
  B:=by rw [Cl_recolP_ne ch.1 (by omega) (by omega) grow_sub]; exact D.B.ch ch (fun y hy=>clno hy (by omega))
  O:=by rw [Cl_recolP_ne ch.1 (by omega) (by omega) grow_sub]; exact D.O.keep ch.1 (ch_keep ch (by omega))
  I:=by rw [Cl_recolP_ne ch.1 (by omega) (by omega) grow_sub]; exact D.I.keep ch.1 (ch_keep ch (by omega)) }
theorem DevP.stepR (D:DevP col h db x st) {RL':List Dsc} {t' r':Nat} (ch:Ch (Cl col 3 h) h h') (R':RS (Grow (Cl col 3 h) h h') h' x.rb st.size RL' t' r') : ∃ col',Stp col h col' h'∧DevP col' h' db x { st with RL:=RL',taken:=t',reaped:=r' }∧∀ y,y<h.size→col y≠3→col' y=col y:=by
 refine⟨recolP col h 3 (Grow (Cl col 3 h) h h'),stp_recolP (by omega) ch grow_sub,?_,recolP_keep grow_sub⟩
 exact
 {blk:=blk_keep D (by omega) ch,cdb:=cdb_keep D (by omega) grow_sub
  P:=by rw [Cl_recolP_ne ch.1 (by omega) (by omega) grow_sub]; exact D.P.keep ch.1 (ch_keep ch (by omega))
  Q:=by rw [Cl_recolP_ne ch.1 (by omega) (by omega) grow_sub]; exact D.Q.keep ch.1 (ch_keep ch (by omega))
  R:=by rw [Cl_recolP (by omega) (grow_lt ch.1)]; exact R'
  B:=by rw [Cl_recolP_ne ch.1 (by omega) (by omega) grow_sub]; exact D.B.ch ch (fun y hy=>clno hy (by omega))
  O:=by rw [Cl_recolP_ne ch.1 (by omega) (by omega) grow_sub]; exact D.O.keep ch.1 (ch_keep ch (by omega))
  I:=by rw [Cl_recolP_ne ch.1 (by omega) (by omega) grow_sub]; exact D.I.keep ch.1 (ch_keep ch (by omega)) }
theorem DevP.stepB (D:DevP col h db x st) {B':St} {Own':Nat→Prop} (ch:Ch (Cl col 4 h) h h') (R':BookS Own' h' x.bb B') (hs : ∀ y,Own' y→Cl col 4 h y∨h.size≤y):Stp col h (recolP col h 4 Own') h'∧DevP (recolP col h 4 Own') h' db x { st with B:=B' }:=by
 refine⟨stp_recolP (by omega) ch hs,?_⟩
 exact
 {blk:=blk_keep D (by omega) ch,cdb:=cdb_keep D (by omega) hs
  P:=by rw [Cl_recolP_ne ch.1 (by omega) (by omega) hs]; exact D.P.keep ch.1 (ch_keep ch (by omega))
  Q:=by rw [Cl_recolP_ne ch.1 (by omega) (by omega) hs]; exact D.Q.keep ch.1 (ch_keep ch (by omega))
  R:=by rw [Cl_recolP_ne ch.1 (by omega) (by omega) hs]; exact D.R.keep ch.1 (ch_keep ch (by omega))
  B:=by rw [Cl_recolP (by omega) R'.bnd]; exact R'
  O:=by rw [Cl_recolP_ne ch.1 (by omega) (by omega) hs]; exact D.O.keep ch.1 (ch_keep ch (by omega))
  I:=by rw [Cl_recolP_ne ch.1 (by omega) (by omega) hs]; exact D.I.keep ch.1 (ch_keep ch (by omega)) }
theorem DevP.stepB' (D:DevP col h db x st) {B':St} (ch:Ch (Cl col 4 h) h h') (R':BookS (Grow (Cl col 4 h) h h') h' x.bb B') : ∃ col',Stp col h col' h'∧DevP col' h' db x { st with B:=B' }∧∀ y,y<h.size→col y≠4→col' y=col y:=⟨_,(D.stepB ch R' grow_sub).1,(D.stepB ch R' grow_sub).2,recolP_keep grow_sub⟩
theorem DevP.stepO (D:DevP col h db x st) {O':Int→Option Opn} (ch:Ch (Cl col 6 h) h h') (R':MS opnV ty_ioq_open (Grow (Cl col 6 h) h h') h' x.mo O') : ∃ col',Stp col h col' h'∧DevP col' h' db x { st with O:=O' }∧∀ y,y<h.size→col y≠6→col' y=col y:=by
 refine⟨recolP col h 6 (Grow (Cl col 6 h) h h'),stp_recolP (by omega) ch grow_sub,?_,recolP_keep grow_sub⟩
 exact
 {blk:=blk_keep D (by omega) ch,cdb:=cdb_keep D (by omega) grow_sub
  P:=by rw [Cl_recolP_ne ch.1 (by omega) (by omega) grow_sub]; exact D.P.keep ch.1 (ch_keep ch (by omega))
  Q:=by rw [Cl_recolP_ne ch.1 (by omega) (by omega) grow_sub]; exact D.Q.keep ch.1 (ch_keep ch (by omega))
  R:=by rw [Cl_recolP_ne ch.1 (by omega) (by omega) grow_sub]; exact D.R.keep ch.1 (ch_keep ch (by omega))
  B:=by rw [Cl_recolP_ne ch.1 (by omega) (by omega) grow_sub]; exact D.B.ch ch (fun y hy=>clno hy (by omega))
  O:=by rw [Cl_recolP (by omega) (grow_lt ch.1)]; exact R'
  I:=by rw [Cl_recolP_ne ch.1 (by omega) (by omega) grow_sub]; exact D.I.keep ch.1 (ch_keep ch (by omega)) }
theorem DevP.stepI (D:DevP col h db x st) {I':Int→Option Ent} (ch:Ch (Cl col 7 h) h h') (R':MS eV ty_ioq_entry (Grow (Cl col 7 h) h h') h' x.mi I') : ∃ col',Stp col h col' h'∧DevP col' h' db x { st with I:=I' }∧∀ y,y<h.size→col y≠7→col' y=col y:=by
 refine⟨recolP col h 7 (Grow (Cl col 7 h) h h'),stp_recolP (by omega) ch grow_sub,?_,recolP_keep grow_sub⟩
 exact
 {blk:=blk_keep D (by omega) ch,cdb:=cdb_keep D (by omega) grow_sub
  P:=by rw [Cl_recolP_ne ch.1 (by omega) (by omega) grow_sub]; exact D.P.keep ch.1 (ch_keep ch (by omega))
  Q:=by rw [Cl_recolP_ne ch.1 (by omega) (by omega) grow_sub]; exact D.Q.keep ch.1 (ch_keep ch (by omega))
  R:=by rw [Cl_recolP_ne ch.1 (by omega) (by omega) grow_sub]; exact D.R.keep ch.1 (ch_keep ch (by omega))
  B:=by rw [Cl_recolP_ne ch.1 (by omega) (by omega) grow_sub]; exact D.B.ch ch (fun y hy=>clno hy (by omega))
  O:=by rw [Cl_recolP_ne ch.1 (by omega) (by omega) grow_sub]; exact D.O.keep ch.1 (ch_keep ch (by omega))
  I:=by rw [Cl_recolP (by omega) (grow_lt ch.1)]; exact R' }
theorem Cl_ext {j:Nat} (hz:h.size≤h'.size) (hj:j≠0):Cl (recol col h 0) j h'=Cl col j h:=Cl_recol_ne hz hj
theorem DevP.ext (D:DevP col h db x st) (e:Ext h h'):Stp col h (recol col h 0) h'∧DevP (recol col h 0) h' db x st∧∀ y,h.size≤y→recol col h 0 y=0:=by
 refine⟨stp_ext e,?_,fun y hy=>by unfold recol; rw [if_neg (by omega)]⟩
 have hz:=e.1
 have kp : ∀ {j:Nat},∀ y,y<h.size→Cl col j h y→h'[y]? = h[y]?:=fun y hy _=>e.2 y hy
 exact
 {blk:=e.get D.blk,cdb:=by unfold recol; rw [if_pos (lt_of_get D.blk)]; exact D.cdb
  P:=by rw [Cl_ext hz (by omega)]; exact D.P.keep hz kp
  Q:=by rw [Cl_ext hz (by omega)]; exact D.Q.keep hz kp
  R:=by rw [Cl_ext hz (by omega)]; exact D.R.keep hz kp
  B:=by rw [Cl_ext hz (by omega)]; exact D.B.ext e
  O:=by rw [Cl_ext hz (by omega)]; exact D.O.keep hz kp
  I:=by rw [Cl_ext hz (by omega)]; exact D.I.keep hz kp }
theorem DevP.tmp (D:DevP col h db x st) {t:Nat} (ht:col t=0) (h2 : ∀ y,y≠t→h'[y]? = h[y]?) (hz:h'.size=h.size):DevP col h' db x st:=by
 have kp : ∀ {j:Nat},j≠0→∀ y,y<h.size→Cl col j h y→h'[y]? = h[y]?:=fun hj y hy c=>h2 y fun e=>hj (by rw [← c.2,e,ht])
 have hc : ∀ j,Cl col j h'=Cl col j h:=fun j=>by unfold Cl; rw [hz]
 exact
 {blk:=by rw [h2 db (fun e=>by rw [← e,D.cdb] at ht; cases ht)]; exact D.blk
  cdb:=D.cdb
  P:=by rw [hc]; exact D.P.keep (by omega) (kp (by omega))
  Q:=by rw [hc]; exact D.Q.keep (by omega) (kp (by omega))
  R:=by rw [hc]; exact D.R.keep (by omega) (kp (by omega))
  B:=by rw [hc]; exact D.B.ch (F:=fun y=>y=t) ⟨by omega,fun y _ hn=>h2 y hn⟩ (fun y hy e=>by rw [e] at hy; have:=hy.2; omega)
  O:=by rw [hc]; exact D.O.keep (by omega) (kp (by omega))
  I:=by rw [hc]; exact D.I.keep (by omega) (kp (by omega)) }
end
end Go.Proofs.Vf
namespace Go.Proofs.Vf
open Go Go.Proofs Go.VC
def voidE (e:Ent):Ent:={ e with void:=true }
def voidI (I:Int→Option Ent) (no:Int):Int→Option Ent:=match I no with
 | some e=>updF I no (some (voidE e))
 | none=>I
def dLeave (st:Dv) (id:Int):Dv:=match st.O id with
 | none=>st
 | some x=>{ st with P:=(pGive st.P x.r.pc.slot x.r.pc.gen x.owner 1).2,Q:=(qDrop st.Q id).2,I:=voidI st.I x.no,O:=updF st.O id none }
section
variable {col:Nat→Nat} {h h':Heap} {db:Nat} {x:DX} {st:Dv}
theorem DevP.cell (D:DevP col h db x st) {i:Nat} {v:Value} (hv:(devV x)[i]? = some v):cellH h db (0+i)=some v:=cell_lst D.blk (by rw [Nat.zero_add]; exact hv)
theorem DevP.cell0 (D:DevP col h db x st):cellH h db 0=some (.pointer (some ⟨x.pb,0,none⟩)):=cell_lst D.blk rfl
theorem other_blk {k j:Nat} (ch:Ch (Cl col k h) h h') {y:Nat} {o:Obj} (ho:h[y]? = some o) (hc:col y=j) (hj:j≠k):h'[y]? = some o:=by
 rw [ch.2 y (lt_of_get ho) (fun q=>hj (hc.symm.trans q.2))]; exact ho
theorem leave_spec (D:DevP col h db x st) (id:Int) :
  CallsH PR Gii #[.pointer (some ⟨db,0,none⟩),.int .i64 id] h (fun v h'=>v = .tuple #[]∧∃ col',Stp col h col' h'∧DevP col' h' db x (dLeave st id)):=by
 obtain⟨l,c,blk,R⟩:=D.O
 have hgot:=R.got id
 apply Gb1
 unfold Gb0
 refine⟨db,0,rfl,some x.mo,D.cell rfl,l,c,R.map,_,hgot.1,fun hs=>?_,fun hs=>?_⟩
 ·have hn:st.O id=none:=by
   rw [hgot.2] at hs
   cases h:st.O id with
   | none=>rfl
   | some a=>rw [h] at hs; cases hs
  have e:dLeave st id=st:=by unfold dLeave; rw [hn]
  rw [e]
  exact⟨rfl,recol col h 0,(D.ext (Ext.refl h)).1,(D.ext (Ext.refl h)).2.1⟩
 obtain⟨a,ha⟩ : ∃ a,st.O id=some a:=by
  rw [hgot.2] at hs
  cases h:st.O id with
  | none=>rw [h] at hs; cases hs
  | some a=>exact⟨a,rfl⟩
 have hat:=R.at_ id a ha
 have hcb:col (blk id)=6:=(R.own.2 id a ha).2
 have hcm:col x.mo=6:=R.own.1.2
 refine⟨some ⟨x.pb,0,none⟩,D.cell0,blk id,0,by rw [ha]; rfl,a.r.pc.slot,a.r.pc.gen,ld_lst hat 2 4 (by simp [opnV]),a.owner,cell_lst hat rfl,(give_spec D.P _ _ _ _).mono ?_⟩
 rintro _ h20 ⟨rfl,c20,P20⟩
 obtain⟨col1,S1,D1,K1⟩:=D.stepP c20 P20
 have at20:=other_blk c20 hat hcb (by omega)
 have mo20:=other_blk c20 R.map hcm (by omega)
 have hcb1:col1 (blk id)=6:=(K1 _ (lt_of_get hat) (by omega)).trans hcb
 have hcm1:col1 x.mo=6:=(K1 _ (lt_of_get R.map) (by omega)).trans hcm
 refine⟨_,rfl,some ⟨x.qb,0,none⟩,D1.cell rfl,(qdrop_spec D1.Q id).mono ?_⟩
 rintro _ h25 ⟨rfl,c25,Q25⟩
 obtain⟨col2,S2,D2,K2⟩:=D1.stepQ c25 Q25
 have at25:=other_blk c25 at20 hcb1 (by omega)
 have mo25:=other_blk c25 mo20 hcm1 (by omega)
 have hcm2:col2 x.mo=6:=(K2 _ (lt_of_get mo20) (by omega)).trans hcm1
 have S02:=S1.trans S2
 obtain⟨li,ci,bi,RI⟩:=D2.I
 have hgi:=RI.got a.no
 have fin : ∀ {h30:Heap} {col3:Nat→Nat} {st3:Dv},Stp col h col3 h30→DevP col3 h30 db x st3→st3.O=st.O→h30[x.mo]? = some (mobj (Value.int .i64) l c)→dLeave st id = { st3 with O:=updF st.O id none } →
   ∃ x31,cellH h30 db (0+4)=some (.map x31)∧∃ r33,x31=some r33∧∃ (l34:List (ME Int)) (n35:Nat),h30[r33]? = some (mobj (Value.int .i64) l34 n35)∧∀ h38,h38=h30.setIfInBounds r33 (mobj (Value.int .i64) (mdel l34 id) n35)→Value.tuple #[] = .tuple #[]∧∃ col',Stp col h col' h38∧DevP col' h38 db x (dLeave st id):=by
  intro h30 col3 st3 S3 D3 hO hm30 hst
  refine⟨some x.mo,D3.cell rfl,x.mo,rfl,l,c,hm30,fun h38 e38=>⟨rfl,?_⟩⟩
  obtain⟨t1,t2,t3⟩:=set_get e38 hm30
  obtain⟨l',c',blk',R3⟩:=D3.O
  have hmm:=R3.map
  rw [hm30] at hmm
  obtain⟨rfl,rfl⟩:=mobj_int_inj (Option.some.inj hmm)
  obtain⟨R4,ch4⟩:=R3.del id t1 t2 t3
  obtain⟨col4,S4,D4,-⟩:=D3.stepO (O':=updF st3.O id none) ch4 (R4.grow (h:=h30) (by omega) R3.bnd)
  rw [hst,← hO]
  exact⟨col4,S3.trans S4,D4⟩
 refine⟨_,rfl,fun h30=>∃ col3 st3,Stp col h col3 h30∧DevP col3 h30 db x st3∧st3.O=st.O∧h30[x.mo]? = some (mobj (Value.int .i64) l c)∧dLeave st id = { st3 with O:=updF st.O id none },?_,some x.mi,D2.cell rfl,a.no,cell_lst at25 rfl,li,ci,RI.map,_,hgi.1,fun his=>?_,fun his=>?_⟩
 ·rintro h30 ⟨col3,st3,q1,q2,q3,q4,q5⟩
  exact fin q1 q2 q3 q4 q5
 ·obtain⟨e,he⟩ : ∃ e,st.I a.no=some e:=by
   rw [hgi.2] at his
   cases h:st.I a.no with
   | none=>
    have his':(st.I a.no).isSome=true:=his
    rw [h] at his'; cases his'
   | some a=>exact⟨a,rfl⟩
  have hei:=RI.at_ a.no e he
  obtain⟨h53,s1,s2,s3,s4⟩:=st_ex (o:=0+1) [.bool true] hei (by simp [eV]) (by simp [Value.oneCell'])
  obtain⟨RI',chI⟩:=RI.set (x':=voidE e) he (by rw [s2]; rfl) s3 s4
  obtain⟨col3,S3,D3,-⟩:=D2.stepI chI (RI'.grow (h:=h25) (by omega) RI.bnd)
  refine⟨bi a.no,0,by show (Option.map (fun _=>(⟨bi a.no,0,none⟩:Addr)) (st.I a.no))=_; rw [he]; rfl,h53,s1,col3,_,S02.trans S3,D3,rfl,?_,?_⟩
  ·rw [s3 x.mo (fun q=>by
    have:=(RI.own.2 a.no e he).2
    rw [← q,hcm2] at this; cases this)]
   exact mo25
  ·unfold dLeave voidI; rw [ha]
   simp only [he]
 ·have he:st.I a.no=none:=by
   rw [hgi.2] at his
   cases h:st.I a.no with
   | none=>rfl
   | some a=>
    have his':(st.I _).isSome=false:=his
    rw [h] at his'; cases his'
  refine⟨col2,_,S02,D2,rfl,mo25,?_⟩
  unfold dLeave voidI; rw [ha]
  simp only [he]
def dFinish (st:Dv) (no status:Int) (bad:Bool):Int × Dv:=
 if (rFinish st.RL st.taken st.reaped no status).1≠0 then ((rFinish st.RL st.taken st.reaped no status).1,{ st with RL:=(rFinish st.RL st.taken st.reaped no status).2 })
 else (0,{ st with RL:=(rFinish st.RL st.taken st.reaped no status).2,I:=updF st.I no ((st.I no).map fun e=>{ e with done:=true,bad:=bad }) })
theorem finish_spec (D:DevP col h db x st) (no status:Int) (bad:Bool) (hI:(rFinish st.RL st.taken st.reaped no status).1=0→(st.I no).isSome=true) :
  CallsH PR Gia #[.pointer (some ⟨db,0,none⟩),.int .i64 no,.int .i64 status,.bool bad] h (fun v h'=>v = .int .i64 (dFinish st no status bad).1∧∃ col',Stp col h col' h'∧DevP col' h' db x (dFinish st no status bad).2):=by
 apply Gal
 unfold Gak
 refine⟨db,0,rfl,some ⟨x.rb,0,none⟩,D.cell rfl,(rfinish_spec D.R no status).mono ?_⟩
 rintro _ h6 ⟨rfl,c6,R6⟩
 obtain⟨col1,S1,D1,K1⟩:=D.stepR c6 R6
 refine⟨_,rfl,fun hne=>?_,fun h0=>?_⟩
 ·have e:dFinish st no status bad=((rFinish st.RL st.taken st.reaped no status).1,{ st with RL:=(rFinish st.RL st.taken st.reaped no status).2 }):=by unfold dFinish; rw [if_pos hne]
  rw [e]
  exact⟨rfl,col1,S1,D1⟩
 ·obtain⟨e,he⟩:=Option.isSome_iff_exists.1 (hI h0)
  have ed:dFinish st no status bad=(0,{ st with RL:=(rFinish st.RL st.taken st.reaped no status).2,I:=updF st.I no (some { e with done:=true,bad:=bad }) }):=by unfold dFinish; rw [if_neg (fun q=>q h0),he]; rfl
  obtain⟨li,ci,bi,RI⟩:=D1.I
  have hgi:=RI.got no
  have hei:=RI.at_ no e he
  have hb:(Option.map (fun _=>(⟨bi no,0,none⟩:Addr)) (st.I no))=some ⟨bi no,0,none⟩:=by rw [he]; rfl
  obtain⟨h28,s1,s2,s3,s4⟩:=st_ex (o:=0+3) [.bool true] hei (by simp [eV]) (by simp [Value.oneCell'])
  obtain⟨h33,t1,t2,t3,t4⟩:=st_ex (o:=0+4) [.bool bad] s2 (by simp [eV,spl]) (by simp [Value.oneCell'])
  obtain⟨RI',chI⟩:=RI.set (h':=h33) (x':={ e with done:=true,bad:=bad }) he (by rw [t2]; rfl) (fun y hy=>by rw [t3 y hy,s3 y hy]) (by omega)
  obtain⟨col3,S3,D3,-⟩:=D1.stepI chI (RI'.grow (h:=h6) (by omega) RI.bnd)
  rw [ed]
  exact⟨some x.mi,D1.cell rfl,li,ci,RI.map,_,hgi.1,some x.mi,D1.cell rfl,li,ci,RI.map,_,hgi.1,bi no,0,hb,h28,s1,bi no,0,hb,h33,t1,rfl,col3,S1.trans S3,D3⟩
def dCancel (st:Dv) (id:Int):Int × Dv:=
 if (stCancel st.B id).1=0 then (0,dLeave { st with B:=(stCancel st.B id).2 } id) else ((stCancel st.B id).1,{ st with B:=(stCancel st.B id).2 })
theorem dcancel_spec (D:DevP col h db x st) (hF:st.B.F.length<1000000) (id:Int) :
  CallsH PR Gi8 #[.pointer (some ⟨db,0,none⟩),.int .i64 id] h (fun v h'=>v = .int .i64 (dCancel st id).1∧∃ col',Stp col h col' h'∧DevP col' h' db x (dCancel st id).2):=by
 apply Gah
 unfold Gag
 refine⟨db,0,rfl,some ⟨x.bb,0,none⟩,D.cell rfl,(bcancel_spec D.B hF id).mono ?_⟩
 rintro _ h6 ⟨rfl,c6,B6⟩
 obtain⟨col1,S1,D1,-⟩:=D.stepB' c6 B6
 refine⟨_,rfl,fun h11=>∃ col',Stp col h col' h11∧DevP col' h11 db x (dCancel st id).2,?_,fun h0=>(leave_spec D1 id).mono ?_,fun hne=>⟨col1,S1,?_⟩⟩
 ·rintro h11 H
  refine⟨?_,H⟩
  unfold dCancel; split
  ·rename_i q; rw [q]
  ·rfl
 ·rintro _ h13 ⟨rfl,col2,S2,D2⟩
  refine⟨rfl,col2,S1.trans S2,?_⟩
  unfold dCancel; rw [if_pos h0]; exact D2
 ·unfold dCancel; rw [if_neg hne]; exact D1
def dWrite (st:Dv) (no at_:Int) (bs:List Int):Int × Dv:=match st.I no with
 | none=>(12,st)
 | some e=>if (!e.taken || e.done || e.void)=true then (12,st) else match st.O e.id with
  | none=>(12,st)
  | some a=>if at_<0∨a.r.pc.len<at_∨a.r.pc.len - at_<bs.length then (1,st) else
   ((pWrite st.P a.r.pc.slot a.r.pc.gen 3 (a.r.pc.fr+at_) bs).1,{ st with P:=(pWrite st.P a.r.pc.slot a.r.pc.gen 3 (a.r.pc.fr+at_) bs).2 })
theorem dwrite_spec (D:DevP col h db x st) (no at_:Int) {a:Option Addr} {n c:Nat} {bs:List Int} (hn:n=bs.length) (hbs:firstH h 1 n (.slice a n c)=some (bs.map u8))
  (hO : ∀ e,st.I no=some e→e.void=false→∃ y,st.O e.id=some y∧0≤y.r.pc.fr∧y.r.pc.fr≤1000000∧0≤y.r.pc.len∧y.r.pc.len≤1000000) (ha:at_<9223372036854775808) :
  CallsH PR Gig #[.pointer (some ⟨db,0,none⟩),.int .i64 no,.int .i64 at_,.slice a n c] h (fun v h'=>v = .int .i64 (dWrite st no at_ bs).1∧∃ col',Stp col h col' h'∧DevP col' h' db x (dWrite st no at_ bs).2):=by
 subst hn
 obtain⟨li,ci,bi,RI⟩:=D.I
 have hgi:=RI.got no
 have same : ∀ {c:Int} {hz:Heap},Ext h hz→dWrite st no at_ bs=(c,st)→Value.int .i64 c = .int .i64 (dWrite st no at_ bs).1∧∃ col',Stp col h col' hz∧DevP col' hz db x (dWrite st no at_ bs).2:=fun xz e=>by
  rw [e]; exact⟨rfl,recol col h 0,(D.ext xz).1,(D.ext xz).2.1⟩
 apply Gax
 unfold Gaw
 cases he:st.I no with
 | none=>
  have hs:(mlook li no).isSome=false:=by rw [hgi.2,he]; rfl
  have n1 : ∀ {p:Prop},(mlook li no).isSome=true→p:=fun q=>by rw [hs] at q; cases q
  have n2 : ∀ {p:Prop} {c:Bool},((!(mlook li no).isSome) || c)=false→p:=fun q=>by rw [hs] at q; simp at q
  have n3 : ∀ {p:Prop} {c d:Bool},(((!(mlook li no).isSome) || c) || d)=false→p:=fun q=>by rw [hs] at q; simp at q
  have n4 : ∀ {p:Prop} {c d e:Bool},((((!(mlook li no).isSome) || c) || d) || e)=false→p:=fun q=>by rw [hs] at q; simp at q
  exact⟨db,0,rfl,some x.mi,D.cell rfl,li,ci,RI.map,_,hgi.1,0,0,n1,false,n1,0,0,n2,false,n2,0,0,n3,false,n3,fun _=>same (Ext.refl _) (by unfold dWrite; rw [he]),n4⟩
 | some e=>
  have hs:(mlook li no).isSome=true:=by rw [hgi.2,he]; rfl
  have hei:=RI.at_ no e he
  have hx9:(Option.map (fun _=>(⟨bi no,0,none⟩:Addr)) (st.I no))=some ⟨bi no,0,none⟩:=by rw [he]; rfl
  have c2:cellH h (bi no) (0+2)=some (.bool e.taken):=cell_lst hei rfl
  have c3:cellH h (bi no) (0+3)=some (.bool e.done):=cell_lst hei rfl
  have c1:cellH h (bi no) (0+1)=some (.bool e.void):=cell_lst hei rfl
  refine⟨db,0,rfl,some x.mi,D.cell rfl,li,ci,RI.map,some ⟨bi no,0,none⟩,by rw [hgi.1,hx9],bi no,0,fun _=>rfl,e.taken,fun _=>c2,bi no,0,fun _=>rfl,e.done,fun _=>c3,bi no,0,fun _=>rfl,e.void,fun _=>c1,fun hq=>same (Ext.refl _) ?_,fun hq=>?_⟩
  ·rw [hs] at hq
   simp only [Bool.not_true,Bool.false_or] at hq
   unfold dWrite; rw [he]; simp only; rw [if_pos hq]
  ·rw [hs] at hq
   simp only [Bool.not_true,Bool.false_or] at hq
   have hvoid:e.void=false:=by cases hv:e.void with
    | false=>rfl
    | true=>rw [hv] at hq; simp at hq
   obtain⟨y,hy,f0,f1,l0,l1⟩:=hO e he hvoid
   obtain⟨lo,co,bo,RO⟩:=D.O
   have hgo:=RO.got e.id
   have hyo:=RO.at_ e.id y hy
   have hxo:(Option.map (fun _=>(⟨bo e.id,0,none⟩:Addr)) (st.O e.id))=some ⟨bo e.id,0,none⟩:=by rw [hy]; rfl
   have eW:dWrite st no at_ bs=if at_<0∨y.r.pc.len<at_∨y.r.pc.len - at_<bs.length then (1,st) else ((pWrite st.P y.r.pc.slot y.r.pc.gen 3 (y.r.pc.fr+at_) bs).1,{ st with P:=(pWrite st.P y.r.pc.slot y.r.pc.gen 3 (y.r.pc.fr+at_) bs).2 }):=by
    unfold dWrite; rw [he]; simp only; rw [if_neg (by rw [hq]; decide),hy]
   refine⟨some x.mo,D.cell rfl,bi no,0,rfl,e.id,cell_lst hei rfl,lo,co,RO.map,some ⟨bo e.id,0,none⟩,by rw [hgo.1,hxo],bo e.id,0,rfl,y.r.pc.slot,y.r.pc.gen,y.r.pc.fr,y.r.pc.len,ld_lst hyo 4 4 (by simp [opnV]),fun h43 e43=>?_⟩
   obtain⟨a1,a2,a3⟩:=push_get e43
   obtain⟨S1,D1,Z1⟩:=D.ext a2
   have hw43:h43[bo e.id]? = _:=a2.get hyo
   obtain⟨h53,s1,s2,s3,s4⟩:=st_ex (o:=0) [.int .i64 y.r.pc.slot,.int .u64 y.r.pc.gen,.int .i64 y.r.pc.fr,.int .i64 y.r.pc.len] a1 (by simp) (by simp [Value.oneCell'])
   have x53:Ext h h53:=⟨by omega,fun z hz=>by rw [s3 z (by omega),a2.2 z hz]⟩
   have cl:cellH h53 h.size 3=some (.int .i64 y.r.pc.len):=cell_lst s2 rfl
   refine⟨D1.cell rfl,cell_lst (a2.get hei) rfl,lo,co,a2.get RO.map,by rw [hgo.1,hxo],ld_lst hw43 4 4 (by simp [opnV]),h53,s1,y.r.pc.len,fun _=>cl,y.r.pc.len,fun _=>cl,fun hc=>same x53 ?_,fun hc=>?_⟩
   ·have hwr : ¬ (at_<0)→IntKind.i64.wrap (y.r.pc.len - at_)=y.r.pc.len - at_:=fun _=>wrap_i64 (by omega)
    rw [eW,if_pos]
    by_cases q:at_<0
    ·exact .inl q
    ·rw [hwr q] at hc
     simp only [Bool.or_eq_true,decide_eq_true_eq] at hc
     omega
   ·have q : ¬ at_<0:=by intro q; simp [q] at hc
    have hwr:IntKind.i64.wrap (y.r.pc.len - at_)=y.r.pc.len - at_:=wrap_i64 (by omega)
    rw [hwr] at hc
    simp only [Bool.or_eq_false_iff,decide_eq_false_iff_not] at hc
    obtain⟨S2,D2,Z2⟩:=D.ext x53
    have hbs':firstH h53 1 bs.length (.slice a bs.length c)=some (bs.map u8):=firstH_ext x53 hbs
    refine⟨some ⟨x.pb,0,none⟩,D2.cell0,y.r.pc.slot,y.r.pc.gen,ld_lst s2 2 0 (by simp [spl]),y.r.pc.fr,cell_lst s2 rfl,⟨by omega,by omega⟩,(write_spec D2.P _ _ _ _ rfl hbs' ⟨by omega,by omega⟩).mono ?_⟩
    rintro _ h71 ⟨rfl,c71,P71⟩
    obtain⟨col3,S3,D3,-⟩:=D2.stepP c71 P71
    rw [eW,if_neg (by omega)]
    exact⟨_,rfl,rfl,col3,S2.trans S3,D3⟩
end
end Go.Proofs.Vf
namespace Go.Proofs.Vf
open Go Go.Proofs Go.VC
section
variable {col:Nat→Nat} {h h':Heap} {db:Nat} {x:DX} {st:Dv}
theorem dcounts_spec (D:DevP col h db x st) (hk : ∀ k,(st.I k).isSome=true↔∃ n:Nat,k=n∧st.reaped≤n∧n<st.RL.length) :
  CallsH PR Gi9 #[.pointer (some ⟨db,0,none⟩)] h (fun v h'=>v = .tuple #[.int .i64 (st.Q.length:Nat),.int .i64 ((st.RL.length - st.reaped:Nat):Int)]∧Ext h h'):=by
 apply Gaj
 unfold Gai
 refine⟨db,0,rfl,some ⟨x.qb,0,none⟩,D.cell rfl,some x.mi,D.cell rfl,(all_spec D.Q).mono ?_⟩
 rintro _ h8 ⟨a,c,rfl,x8⟩
 obtain⟨S1,D1,-⟩:=D.ext x8
 obtain⟨li,ci,bi,RI⟩:=D1.I
 exact⟨_,_,_,rfl,D1.cell rfl,li,ci,RI.map,by rw [RI.length hk],x8⟩
def inRing (st:Dv) (id:Int):Bool:=(st.RL.drop st.reaped).any fun d=>decide (d.req=id)
theorem inring_spec (D:DevP col h db x st) (id:Int) (hI : ∀ j,(∃ k e,st.I k=some e∧e.id=j)↔inRing st j=true) :
  CallsH PR Gih #[.pointer (some ⟨db,0,none⟩),.int .i64 id] h (fun v h'=>v = .bool (inRing st id)∧Ext h h'):=by
 obtain⟨li,ci,bi,RI⟩:=D.I
 have ent : ∀ {hh:Heap},(∀ y,y<h.size→hh[y]? = h[y]?)→∀ m∈li,∃ e,st.I m.key=some e∧m.val = .pointer (some ⟨bi m.key,0,none⟩)∧cellH hh (bi m.key) 0=some (.int .i64 e.id):=fun {hh} hk m hm=>by
  have h1:=mem_mlook RI.ok hm
  rw [RI.look] at h1
  obtain⟨e,he,hv⟩:=Option.map_eq_some_iff.1 h1
  have hat:=RI.at_ m.key e he
  exact⟨e,he,hv.symm,cell_lst (by rw [hk _ (lt_of_get hat)]; exact hat) rfl⟩
 have iter_r : ∀ {hh:Heap} {sn:Array Nat},iterAt (Value.int .i64) hh h.size li ci sn→True:=fun _=>trivial
 apply Gaz
 unfold Gay
 refine⟨db,0,rfl,some x.mi,D.cell rfl,li,ci,RI.map,fun h8 H8=>?_⟩
 obtain⟨k8,z8,i8⟩:=H8
 refine⟨fun hh=>hh.size=h8.size∧(∀ y,y<h.size→hh[y]? = h[y]?)∧∃ sn,iterAt (Value.int .i64) hh h.size li ci sn∧∀ m∈li,m.born∈sn→∀ e,st.I m.key=some e→e.id≠id,fun hh=>unseen li hh h.size,⟨rfl,k8,#[],i8,fun m _ hm=>by simp at hm⟩,?_⟩
 rintro hh ⟨zz,kk,sn,it,hsn⟩
 refine⟨li,ci,sn,it,RI.ok.1,fun hall=>⟨?_,by omega,kk⟩,fun m hm hnb h19 H19=>?_⟩
 ·congr 1
  cases hr:inRing st id with
  | false=>rfl
  | true=>
   exfalso
   obtain⟨k,e,he,hid⟩:=(hI id).2 hr
   have hl:mlook li k=some (.pointer (some ⟨bi k,0,none⟩)):=by rw [RI.look,he]; rfl
   obtain⟨m,hm,rfl,_⟩:=mlook_mem hl
   exact hsn m hm (hall m hm) e he hid
 ·obtain⟨q1,q2,q3⟩:=H19
  have kk' : ∀ y,y<h.size→h19[y]? = h[y]?:=fun y hy=>by rw [q1 y (by omega)]; exact kk y hy
  obtain⟨e,he,hv,hc⟩:=ent kk' m hm
  refine⟨⟨q3,RI.ok.2.1⟩,_,hv,bi m.key,0,rfl,e.id,hc,fun heq=>⟨?_,by omega,kk'⟩,fun hne=>⟨⟨by omega,kk',sn.push m.born,q3,fun m' hm' hb e' he'=>?_⟩,unseen_lt it q3 hm hnb⟩⟩
  ·congr 1
   exact ((hI id).1 ⟨m.key,e,he,heq⟩).symm
  ·rcases Array.mem_push.1 hb with hb | hb
   ·exact hsn m' hm' hb e' he'
   ·have:m'=m:=ok_born_inj RI.ok hm' hm hb
    subst this
    rw [he] at he'; cases he'; exact hne
def dTake (st:Dv):(Int × Dsc × Int) × Dv:=match st.RL[st.taken]? with
 | none=>((0,d0,5),st)
 | some d=>(((st.taken:Nat),d,0),match st.I (st.taken:Nat) with
  | none=>{ st with taken:=st.taken+1 }
  | some e=>if e.void then { st with taken:=st.taken+1,I:=updF st.I (st.taken:Nat) (some { e with taken:=true }) } else
   {st with taken:=st.taken+1,I:=updF st.I (st.taken:Nat) (some { e with taken:=true }),O:=updF st.O e.id ((st.O e.id).map fun a=>{ a with owner:=3 }),P:=(pGive st.P d.slot d.gen 2 3).2 })
theorem dtake_spec (D:DevP col h db x st) (hb:st.RL.length<1000000) (hI:st.taken<st.RL.length→∃ e,st.I (st.taken:Nat)=some e∧(e.void=false→(st.O e.id).isSome=true)) :
  CallsH PR Gif #[.pointer (some ⟨db,0,none⟩)] h
   (fun v h'=>v = .tuple #[.int .i64 (dTake st).1.1,.agg (dscV (dTake st).1.2.1).toArray,.int .i64 (dTake st).1.2.2]∧∃ col',Stp col h col' h'∧DevP col' h' db x (dTake st).2):=by
 apply Gav
 unfold Gau
 intro h1 e1
 obtain⟨a1,a2,a3⟩:=push_get e1
 obtain⟨S1,D1,Z1⟩:=D.ext a2
 refine⟨db,0,rfl,some ⟨x.rb,0,none⟩,D1.cell rfl,(rtake_spec D1.R hb).mono ?_⟩
 rintro _ h8 ⟨rfl,c8,R8⟩
 obtain⟨col2,S2,D2,K2⟩:=D1.stepR c8 R8
 obtain⟨N,hN⟩ : ∃ N,N=rTake st.RL st.taken:=⟨_,rfl⟩
 rw [← hN] at D2 ⊢
 refine⟨N.1.1,N.1.2.1.op,N.1.2.1.req,N.1.2.1.slot,N.1.2.1.gen,N.1.2.1.fr,N.1.2.1.len,N.1.2.1.dev,N.1.2.1.done,N.1.2.1.st,N.1.2.2,rfl,fun h13 e13=>?_⟩
 obtain⟨h16,s1,s2,s3,s4⟩:=st_tmp (zs:=[_,_,_,_,_,_,_,_,_]) e13 (dscV N.1.2.1) rfl (dscV_one _)
 obtain⟨S3,D3,Z3⟩:=D2.ext s3
 have S13:=(S1.trans S2).trans S3
 obtain⟨k2,kc2⟩:=S2.get a1 (Z1 _ (Nat.le_refl _))
 obtain⟨k3,kc3⟩:=S3.get k2 kc2
 have hz1:=S1.1
 have hz2:=S2.1
 have hz3:=S3.1
 refine⟨h16,s1,fun hne=>?_,fun h0=>?_⟩
 ·have hn:st.RL[st.taken]? = none:=by
   cases hh:st.RL[st.taken]? with
   | none=>rfl
   | some d=>
    have:N.1.2.2=0:=by rw [hN]; unfold rTake; rw [hh]
    exact absurd this hne
  have eN:N=((0,d0,5),st.taken):=by rw [hN]; unfold rTake; rw [hn]
  have eT:dTake st=((0,d0,5),st):=by unfold dTake; rw [hn]
  obtain⟨h19,t1,t2,t3,t4⟩:=st_ex (o:=0) (dscV d0) k3 (by simp [dscV]) (dscV_one d0)
  have D4:=D3.tmp kc3 t3 t4
  rw [eN] at D4
  rw [eT,eN]
  refine⟨h19,t1,_,_,_,_,_,_,_,_,_,ld_lst t2 9 0 (by simp [spl,dscV]),rfl,recol col2 h8 0,?_,D4⟩
  exact⟨by have:=S13.1; omega,fun y hy hc=>by
   obtain⟨q1,q2⟩:=S13.2.1 y hy hc
   exact⟨by rw [t3 y (by omega)]; exact q1,q2⟩,S13.2.2.1,S13.2.2.2⟩
 ·have hlt:st.taken<st.RL.length:=by
   rcases Nat.lt_or_ge st.taken st.RL.length with q | q
   ·exact q
   ·exfalso
    have:N.1.2.2=5:=by rw [hN]; unfold rTake; rw [List.getElem?_eq_none q]
    rw [this] at h0; cases h0
  obtain⟨d,hd⟩ : ∃ d,st.RL[st.taken]? = some d:=⟨_,List.getElem?_eq_getElem hlt⟩
  have eN:N=((((st.taken:Nat):Int),d,0),st.taken+1):=by rw [hN]; unfold rTake; rw [hd]
  obtain⟨e,he,hOe⟩:=hI hlt
  rw [eN] at D3 s2 ⊢
  simp only at D3 s2 ⊢
  have heX:({ st with RL:=st.RL,taken:=st.taken+1,reaped:=st.reaped } : Dv).I (st.taken:Nat)=some e:=he
  obtain⟨li,ci,bi,RI⟩:=D3.I
  have hgi:=RI.got ((st.taken:Nat):Int)
  have hei:=RI.at_ _ e he
  have hx27:(Option.map (fun _=>(⟨bi (st.taken:Nat),0,none⟩:Addr)) (st.I (st.taken:Nat)))=some ⟨bi (st.taken:Nat),0,none⟩:=by rw [he]; rfl
  obtain⟨h33,t1,t2,t3,t4⟩:=st_ex (o:=0+2) [.bool true] hei (by simp [eV]) (by simp [Value.oneCell'])
  obtain⟨RI',chI⟩:=RI.set (x':={ e with taken:=true }) he (by rw [t2]; rfl) t3 t4
  obtain⟨col4,S4,D4,K4⟩:=D3.stepI chI (RI'.grow (h:=h16) (by omega) RI.bnd)
  have S14:=S13.trans S4
  obtain⟨k4,kc4⟩:=S4.get k3 kc3
  obtain⟨w4,wc4⟩:=S4.get s2 (Z3 _ (Nat.le_refl _))
  have cv:cellH h33 (bi (st.taken:Nat)) (0+1)=some (.bool e.void):=cell_lst t2 rfl
  have fin : ∀ {h36:Heap} {col5:Nat→Nat} {st5:Dv},Stp col h col5 h36→DevP col5 h36 db x st5→h36[h.size]? = some (.cells (List.toArray (dscV d0)) 63 (0,0))→col5 h.size=0→h36[h8.size]? = some (.cells (List.toArray (dscV d)) 63 (0,0))→dTake st=((((st.taken:Nat):Int),d,0),st5) →
    ∃ (p1 p2 p3 p4 p5 p6:Int) (p7 p8:Bool) (p9:Int),ldCells h36 h8.size 0 9=some [.int .i64 p1,.int .i64 p2,.int .i64 p3,.int .u64 p4,.int .i64 p5,.int .i64 p6,.bool p7,.bool p8,.int .i64 p9]∧∃ h40,stCells h.size h36 0 [.int .i64 p1,.int .i64 p2,.int .i64 p3,.int .u64 p4,.int .i64 p5,.int .i64 p6,.bool p7,.bool p8,.int .i64 p9]=some h40 ∧
     ∃ (q1 q2 q3 q4 q5 q6:Int) (q7 q8:Bool) (q9:Int),ldCells h40 h.size 0 9=some [.int .i64 q1,.int .i64 q2,.int .i64 q3,.int .u64 q4,.int .i64 q5,.int .i64 q6,.bool q7,.bool q8,.int .i64 q9] ∧
      Value.tuple #[.int .i64 ((st.taken:Nat):Int),.agg #[.int .i64 q1,.int .i64 q2,.int .i64 q3,.int .u64 q4,.int .i64 q5,.int .i64 q6,.bool q7,.bool q8,.int .i64 q9],.int .i64 0] = .tuple #[.int .i64 (dTake st).1.1,.agg (dscV (dTake st).1.2.1).toArray,.int .i64 (dTake st).1.2.2]∧∃ col',Stp col h col' h40∧DevP col' h40 db x (dTake st).2:=by
   intro h36 col5 st5 S5 D5 kk kc ww eT
   obtain⟨h40,u1,u2,u3,u4⟩:=st_ex (o:=0) (dscV d) kk (by simp [dscV]) (dscV_one d)
   rw [eT]
   refine⟨_,_,_,_,_,_,_,_,_,ld_lst ww 9 0 (by simp [dscV]),h40,u1,_,_,_,_,_,_,_,_,_,ld_lst u2 9 0 (by simp [spl,dscV]),rfl,col5,?_,D5.tmp kc u3 u4⟩
   exact⟨by have:=S5.1; omega,fun y hy hc=>by
    obtain⟨q1,q2⟩:=S5.2.1 y hy hc
    exact⟨by rw [u3 y (by omega)]; exact q1,q2⟩,S5.2.2.1,S5.2.2.2⟩
  refine⟨some x.mi,D3.cell rfl,li,ci,RI.map,some ⟨bi (st.taken:Nat),0,none⟩,by rw [hgi.1]; exact congrArg Value.pointer hx27,bi (st.taken:Nat),0,rfl,h33,t1,fun h36=>∃ col5 st5,Stp col h col5 h36∧DevP col5 h36 db x st5∧h36[h.size]? = some (.cells (List.toArray (dscV d0)) 63 (0,0))∧col5 h.size=0∧h36[h8.size]? = some (.cells (List.toArray (dscV d)) 63 (0,0))∧dTake st=((((st.taken:Nat):Int),d,0),st5),?_,e.void,cv,fun hv=>?_,fun hv=>?_⟩
  ·rintro h36 ⟨col5,st5,q1,q2,q3,q4,q5,q6⟩
   exact fin q1 q2 q3 q4 q5 q6
  ·obtain⟨a,ha⟩:=Option.isSome_iff_exists.1 (hOe hv)
   obtain⟨lo,co,bo,RO⟩:=D4.O
   have hgo:=RO.got e.id
   have hao:=RO.at_ e.id a ha
   have hx52:(Option.map (fun _=>(⟨bo e.id,0,none⟩:Addr)) (st.O e.id))=some ⟨bo e.id,0,none⟩:=by rw [ha]; rfl
   obtain⟨h58,u1,u2,u3,u4⟩:=st_ex (o:=0+9) [.int .i64 3] hao (by simp [opnV]) (by simp [Value.oneCell'])
   obtain⟨RO',chO⟩:=RO.set (x':={ a with owner:=3 }) ha (by rw [u2]; rfl) u3 u4
   obtain⟨col5,S5,D5,K5⟩:=D4.stepO chO (RO'.grow (h:=h33) (by omega) RO.bnd)
   obtain⟨k5,kc5⟩:=S5.get k4 kc4
   obtain⟨w5,wc5⟩:=S5.get w4 wc4
   refine⟨some x.mo,D4.cell rfl,e.id,cell_lst t2 rfl,lo,co,RO.map,some ⟨bo e.id,0,none⟩,by rw [hgo.1]; exact congrArg Value.pointer hx52,bo e.id,0,rfl,h58,u1,some ⟨x.pb,0,none⟩,D5.cell0,d.slot,d.gen,ld_lst w5 2 2 (by simp [dscV]),(give_spec D5.P _ _ _ _).mono ?_⟩
   rintro _ h63 ⟨rfl,c63,P63⟩
   obtain⟨col6,S6,D6,K6⟩:=D5.stepP c63 P63
   obtain⟨k6,kc6⟩:=S6.get k5 kc5
   obtain⟨w6,wc6⟩:=S6.get w5 wc5
   refine⟨_,rfl,col6,_,(S14.trans S5).trans S6,D6,k6,kc6,w6,?_⟩
   unfold dTake; rw [hd]
   simp only [he]
   rw [if_neg (by rw [hv]; decide),ha]
   rfl
  ·refine⟨col4,_,S14,D4,k4,kc4,w4,?_⟩
   unfold dTake; rw [hd]
   simp only [he]
   rw [if_pos hv]
end
end Go.Proofs.Vf
namespace Go.Proofs.Vf
open Go Go.Proofs Go.VC
section
variable {col:Nat→Nat} {h h':Heap} {db:Nat} {x:DX} {st:Dv}
def dReap (st:Dv):(Int × Int) × Dv:=match st.RL[st.reaped]? with
 | none=>((0,5),st)
 | some d=>if d.done=false then ((0,10),st) else ((d.req,0),match st.I (st.reaped:Nat) with
  | none=>{ st with reaped:=st.reaped+1 }
  | some e=>if e.void then { st with reaped:=st.reaped+1,I:=updF st.I (st.reaped:Nat) none } else
   let s2:=dLeave { st with reaped:=st.reaped+1,B:=(stAnswer st.B e.id d.st e.bad).2 } e.id
   {s2 with I:=updF s2.I (st.reaped:Nat) none })
theorem dLeave_fields (st:Dv) (id:Int):(dLeave st id).B=st.B∧(dLeave st id).RL=st.RL∧(dLeave st id).taken=st.taken∧(dLeave st id).reaped=st.reaped∧(dLeave st id).size=st.size:=by
 unfold dLeave; split <;> exact⟨rfl,rfl,rfl,rfl,rfl⟩
theorem dreap_spec (D:DevP col h db x st) (hb:st.RL.length<1000000) (hF:st.B.F.length<1000000) (hdt : ∀ d,st.RL[st.reaped]? = some d→d.done=true→st.reaped<st.taken) (hI:st.reaped<st.RL.length→(st.I (st.reaped:Nat)).isSome=true) :
  CallsH PR Gic #[.pointer (some ⟨db,0,none⟩)] h
   (fun v h'=>v = .tuple #[.int .i64 (dReap st).1.1,.int .i64 (dReap st).1.2]∧∃ col',Stp col h col' h'∧DevP col' h' db x (dReap st).2):=by
 apply Gap
 unfold Gao
 refine⟨db,0,rfl,some ⟨x.rb,0,none⟩,D.cell rfl,(rcounts_spec D.R).mono ?_⟩
 rintro _ h ⟨rfl,rfl⟩
 refine⟨_,_,_,rfl,some ⟨x.rb,0,none⟩,D.cell rfl,(rreap_spec D.R hb hdt).mono ?_⟩
 rintro _ h13 ⟨rfl,c13,R13⟩
 obtain⟨col1,S1,D1,K1⟩:=D.stepR c13 R13
 obtain⟨N,hN⟩ : ∃ N,N=rReap st.RL st.reaped:=⟨_,rfl⟩
 rw [← hN] at D1 ⊢
 refine⟨N.1.1.op,N.1.1.req,N.1.1.slot,N.1.1.gen,N.1.1.fr,N.1.1.len,N.1.1.dev,N.1.1.done,N.1.1.st,N.1.2,rfl,fun h17 e17=>?_⟩
 obtain⟨h20,s1,s2,s3,s4⟩:=st_tmp (zs:=[_,_,_,_,_,_,_,_,_]) e17 (dscV N.1.1) rfl (dscV_one _)
 obtain⟨S2,D2,Z2⟩:=D1.ext s3
 have S12:=S1.trans S2
 have hz1:=S1.1
 have hz2:=S2.1
 refine⟨h20,s1,fun hne=>?_,fun h0=>?_⟩
 ·have eT:dReap st=((0,N.1.2),st)∧N.2=st.reaped:=by
   rw [hN] at hne ⊢
   unfold dReap
   unfold rReap at hne ⊢
   cases hd:st.RL[st.reaped]? with
   | none=>exact⟨rfl,rfl⟩
   | some d=>
    rw [hd] at hne
    simp only at hne ⊢
    cases hdd:d.done with
    | false=>simp
    | true=>rw [hdd] at hne; exact absurd rfl hne
  rw [eT.2] at D2
  rw [eT.1]
  exact⟨rfl,_,S12,D2⟩
 ·obtain⟨d,hd,hdone⟩ : ∃ d,st.RL[st.reaped]? = some d∧d.done=true:=by
   rw [hN] at h0
   unfold rReap at h0
   cases hd:st.RL[st.reaped]? with
   | none=>rw [hd] at h0; cases h0
   | some d=>
    rw [hd] at h0
    simp only at h0
    refine⟨d,rfl,?_⟩
    cases hdd:d.done with
    | false=>rw [hdd] at h0; cases h0
    | true=>rfl
  have eN:N=((d,0),st.reaped+1):=by rw [hN]; unfold rReap; rw [hd]; simp only; rw [if_pos hdone]
  have hlt:=(List.getElem?_eq_some_iff.1 hd).1
  obtain⟨e,he⟩:=Option.isSome_iff_exists.1 (hI hlt)
  rw [eN] at D2 s2
  simp only at D2 s2
  obtain⟨li,ci,bi,RI⟩:=D2.I
  have hgi:=RI.got ((st.reaped:Nat):Int)
  have hei:=RI.at_ _ e he
  have hx27:(Option.map (fun _=>(⟨bi (st.reaped:Nat),0,none⟩:Addr)) (st.I (st.reaped:Nat)))=some ⟨bi (st.reaped:Nat),0,none⟩:=by rw [he]; rfl
  have wz:=Z2 _ (Nat.le_refl _)
  have fin : ∀ {h31:Heap} {col3:Nat→Nat} {st3:Dv},Stp col h col3 h31→DevP col3 h31 db x st3→h31[h13.size]? = some (.cells (List.toArray (dscV d)) 63 (0,0))→col3 h13.size=0→dReap st=((d.req,0),{ st3 with I:=updF st3.I (st.reaped:Nat) none }) →
    ∃ x32,cellH h31 db (0+5)=some (.map x32)∧∃ r34,x32=some r34∧∃ (l35:List (ME Int)) (n36:Nat),h31[r34]? = some (mobj (Value.int .i64) l35 n36)∧∀ h39,h39=h31.setIfInBounds r34 (mobj (Value.int .i64) (mdel l35 ((st.reaped:Nat):Int)) n36)→∃ x41,cellH h39 h13.size 1=some (.int .i64 x41)∧Value.tuple #[.int .i64 x41,.int .i64 0] = .tuple #[.int .i64 (dReap st).1.1,.int .i64 (dReap st).1.2]∧∃ col',Stp col h col' h39∧DevP col' h39 db x (dReap st).2:=by
   intro h31 col3 st3 S3 D3 ww wc eT
   obtain⟨l',c',b',R3⟩:=D3.I
   refine⟨some x.mi,D3.cell rfl,x.mi,rfl,l',c',R3.map,fun h39 e39=>?_⟩
   obtain⟨t1,t2,t3⟩:=set_get e39 R3.map
   obtain⟨R4,ch4⟩:=R3.del ((st.reaped:Nat):Int) t1 t2 t3
   obtain⟨col4,S4,D4,-⟩:=D3.stepI ch4 (R4.grow (h:=h31) (by omega) R3.bnd)
   obtain⟨w4,-⟩:=S4.get ww wc
   rw [eT]
   exact⟨d.req,cell_lst w4 rfl,rfl,col4,S3.trans S4,D4⟩
  refine⟨some x.mi,D2.cell rfl,li,ci,RI.map,some ⟨bi (st.reaped:Nat),0,none⟩,by rw [hgi.1]; exact congrArg Value.pointer hx27,fun h31=>∃ col3 st3,Stp col h col3 h31∧DevP col3 h31 db x st3∧h31[h13.size]? = some (.cells (List.toArray (dscV d)) 63 (0,0))∧col3 h13.size=0∧dReap st=((d.req,0),{ st3 with I:=updF st3.I (st.reaped:Nat) none }),?_,bi (st.reaped:Nat),0,rfl,e.void,cell_lst hei rfl,fun hv=>?_,fun hv=>?_⟩
  ·rintro h31 ⟨col3,st3,q1,q2,q3,q4,q5⟩
   exact fin q1 q2 q3 q4 q5
  ·have hcb:=(RI.own.2 _ e he).2
   refine⟨some ⟨x.bb,0,none⟩,D2.cell rfl,e.id,cell_lst hei rfl,d.st,cell_lst s2 rfl,e.bad,cell_lst hei rfl,(answer_spec D2.B hF e.id d.st e.bad).mono ?_⟩
   rintro _ h56 ⟨rfl,c56,B56⟩
   obtain⟨col3,S3,D3,K3⟩:=D2.stepB' c56 B56
   obtain⟨w3,wc3⟩:=S3.get s2 wz
   have ei56:=other_blk c56 hei hcb (by omega)
   refine⟨_,rfl,e.id,cell_lst ei56 rfl,(leave_spec D3 e.id).mono ?_⟩
   rintro _ h61 ⟨rfl,col4,S4,D4⟩
   obtain⟨w4,wc4⟩:=S4.get w3 wc3
   refine⟨rfl,col4,_,(S12.trans S3).trans S4,D4,w4,wc4,?_⟩
   unfold dReap; rw [hd]
   simp only [he]
   rw [if_neg (by rw [hdone]; decide),if_neg (by rw [hv]; decide)]
  ·refine⟨_,_,S12,D2,s2,wz,?_⟩
   unfold dReap; rw [hd]
   simp only [he]
   rw [if_neg (by rw [hdone]; decide),if_pos hv]
def goStep (s:Dv) (f:Fate):Dv:=if (look s.B.L f.id).isSome then s else dLeave s f.id
def dGo (st:Dv) (now:Int):(Int × List Fate) × Dv:=
 (((stGo st.B now).1,(stGo st.B now).2.1),(stGo st.B now).2.1.foldl goStep { st with B:=(stGo st.B now).2.2 })
theorem goStep_B (s:Dv) (f:Fate):(goStep s f).B=s.B:=by
 unfold goStep; split
 ·rfl
 ·exact (dLeave_fields s f.id).1
theorem foldl_B (l:List Fate) (s:Dv):(l.foldl goStep s).B=s.B:=by
 induction l generalizing s with
 | nil=>rfl
 | cons f l ih=>rw [List.foldl_cons,ih,goStep_B]
theorem flat_ld {h:Heap} {e:Nat} {a:Option Addr} {n c:Nat} {fs:List Fate} (s:Sl h e 3 a n c (flat fs)) {i:Nat} {f:Fate} (hf:fs[i]? = some f) : ∃ b o,a=some ⟨b,o,none⟩∧ldCells h b (o+i * 3) 3=some [.int .i64 f.id,.int .i64 f.kind,.int .i64 f.why]:=by
 obtain⟨b,o,q1,q2,_⟩:=Sl.elem (f:=fateV) (k:=3) (fun _=>rfl) (by decide) (l:=fs) s hf
 exact⟨b,o,q1,q2⟩
theorem dgo_spec {t:Int} (D:DevP col h db x st) (hF:st.B.F.length<900000) (hl:(stGo st.B t).2.1.length<1000000) (h0:0≤t) :
  CallsH PR Gib #[.pointer (some ⟨db,0,none⟩),.int .u64 t] h
   (fun v h'=>∃ a c,v = .tuple #[.slice a (dGo st t).1.2.length c,.int .i64 (dGo st t).1.1]∧Sl h' ty_api_Fate 3 a (dGo st t).1.2.length c (flat (dGo st t).1.2)∧∃ col',Stp col h col' h'∧DevP col' h' db x (dGo st t).2∧∀ y,blkOf a y→col' y=0):=by
 apply Gan
 unfold Gam
 refine⟨db,0,rfl,some ⟨x.bb,0,none⟩,D.cell rfl,(bgo_spec D.B hF h0).mono ?_⟩
 rintro _ h6 ⟨a,c,Own',rfl,B6,c6,f6,s6,b6⟩
 obtain⟨S1,D1⟩:=D.stepB c6 B6 f6
 have za : ∀ y,blkOf a y→recolP col h 4 Own' y=0:=fun y hy=>by
  obtain⟨q1,q2⟩:=b6 y hy
  unfold recolP
  rw [if_neg q1]
  rcases q2 with q2 | q2
  ·rw [if_neg (fun r=>r.2 q2.2)]
  ·rw [if_neg (fun r=>by omega)]
 obtain⟨fs,hfs⟩ : ∃ fs,fs=(stGo st.B t).2.1:=⟨_,rfl⟩
 have eG:dGo st t=(((stGo st.B t).1,fs),fs.foldl goStep { st with B:=(stGo st.B t).2.2 }):=by rw [hfs]; rfl
 rw [eG]
 rw [← hfs] at s6 hl ⊢
 refine⟨a,fs.length,c,_,rfl,fun i hh=>0≤i∧i≤fs.length∧∃ col',Stp col h col' hh∧DevP col' hh db x ((fs.take i.toNat).foldl goStep { st with B:=(stGo st.B t).2.2 })∧Sl hh ty_api_Fate 3 a fs.length c (flat fs)∧∀ y,blkOf a y→col' y=0,fun i _=>(fs.length - i).toNat,⟨by omega,by omega,_,S1,D1,s6,za⟩,?_⟩
 rintro i hh ⟨i0,i1,col2,S2,D2,s2,z2⟩
 refine⟨fun hlt=>?_,fun hge=>?_⟩
 ·obtain⟨f,hf⟩ : ∃ f,fs[i.toNat]? = some f:=⟨_,List.getElem?_eq_getElem (by omega)⟩
  obtain⟨b,o,rfl,ld⟩:=flat_ld s2 hf
  have e1:(i+1).toNat=i.toNat+1:=by omega
  have htk:fs.take (i+1).toNat=fs.take i.toNat ++ [f]:=by rw [e1,List.take_add_one,hf]; rfl
  obtain⟨s3d,hs3⟩ : ∃ s3d,s3d=(fs.take i.toNat).foldl goStep { st with B:=(stGo st.B t).2.2 }:=⟨_,rfl⟩
  have hB:s3d.B=(stGo st.B t).2.2:=by rw [hs3,foldl_B]
  rw [← hs3] at D2
  have hstep:(fs.take (i+1).toNat).foldl goStep { st with B:=(stGo st.B t).2.2 } = goStep s3d f:=by rw [htk,List.foldl_append,← hs3]; rfl
  have bz : ∀ {hz:Heap} {cz:Nat→Nat},Stp col2 hh cz hz→Sl hz ty_api_Fate 3 (some ⟨b,o,none⟩) fs.length c (flat fs)∧∀ y,blkOf (some ⟨b,o,none⟩) y→cz y=0:=fun S=>by
   refine⟨s2.keep fun y hy hb=>(S.2.1 y hy (.inl (z2 y hb))).1,fun y hb=>?_⟩
   have:=(S.2.1 y (s2.blk_lt hb) (.inl (z2 y hb))).2
   rw [this]; exact z2 y hb
  refine⟨fun hh'=>∃ col',Stp col2 hh col' hh'∧DevP col' hh' db x (goStep s3d f),?_,b,o,rfl,⟨i0,hlt⟩,f.id,f.kind,f.why,ld,fun h26 e26=>?_⟩
  ·rintro hh' ⟨col3,S3,D3⟩
   refine⟨⟨by omega,by omega⟩,⟨by omega,by omega,col3,S2.trans S3,by rw [hstep]; exact D3,(bz S3).1,(bz S3).2⟩,by dsimp only; omega⟩
  ·obtain⟨h29,u1,u2,u3,u4⟩:=st_tmp (zs:=[_,_,_]) e26 [.int .i64 f.id,.int .i64 f.kind,.int .i64 f.why] rfl (by simp [Value.oneCell'])
   obtain⟨S3,D3,Z3⟩:=D2.ext u3
   refine⟨h29,u1,some ⟨x.bb,0,none⟩,D3.cell rfl,f.id,cell_lst u2 rfl,(has_spec D3.B f.id).mono ?_⟩
   rintro _ h34 ⟨rfl,x34⟩
   obtain⟨S4,D4,Z4⟩:=D3.ext x34
   refine⟨_,_,rfl,fun hn=>⟨f.id,cell_lst (x34.get u2) rfl,(leave_spec D4 f.id).mono ?_⟩,fun hs=>⟨_,S3.trans S4,?_⟩⟩
   ·rintro _ h40 ⟨rfl,col5,S5,D5⟩
    refine⟨rfl,col5,(S3.trans S4).trans S5,?_⟩
    unfold goStep; rw [if_neg (by rw [hn]; decide)]; exact D5
   ·unfold goStep; rw [if_pos hs]; exact D4
 ·have ei:i.toNat=fs.length:=by omega
  rw [ei,List.take_length] at D2
  exact⟨a,c,rfl,s2,col2,S2,D2,z2⟩
end
end Go.Proofs.Vf
namespace Go.Proofs.Vf
open Go Go.Proofs Go.VC
section
variable {col:Nat→Nat} {h h':Heap} {db:Nat} {x:DX} {st:Dv}
theorem DevP.tmpCh (D:DevP col h db x st) {F:Nat→Prop} (hF : ∀ y,y<h.size→F y→col y=0) (ch:Ch F h h'):DevP (recol col h 0) h' db x st:=by
 have hz:=ch.1
 have kp : ∀ {j:Nat},j≠0→∀ y,y<h.size→Cl col j h y→h'[y]? = h[y]?:=fun hj y hy c=>ch.2 y hy fun q=>hj (by rw [← c.2,hF y hy q])
 exact
 {blk:=by rw [ch.2 db (lt_of_get D.blk) (fun q=>by have:=hF db (lt_of_get D.blk) q; rw [D.cdb] at this; cases this)]; exact D.blk
  cdb:=by unfold recol; rw [if_pos (lt_of_get D.blk)]; exact D.cdb
  P:=by rw [Cl_ext hz (by omega)]; exact D.P.keep hz (kp (by omega))
  Q:=by rw [Cl_ext hz (by omega)]; exact D.Q.keep hz (kp (by omega))
  R:=by rw [Cl_ext hz (by omega)]; exact D.R.keep hz (kp (by omega))
  B:=by rw [Cl_ext hz (by omega)]; exact D.B.ch ch (fun y hy q=>by have h1:=hF y hy.1 q; have:=hy.2; omega)
  O:=by rw [Cl_ext hz (by omega)]; exact D.O.keep hz (kp (by omega))
  I:=by rw [Cl_ext hz (by omega)]; exact D.I.keep hz (kp (by omega)) }
theorem Stp.tmpCh {c0 c1:Nat→Nat} {h0:Heap} (S:Stp c0 h0 c1 h) {F:Nat→Prop} (hF : ∀ y,F y→h0.size≤y) (ch:Ch F h h'):Stp c0 h0 (recol c1 h 0) h':=by
 have hz:=ch.1
 have hz0:=S.1
 refine⟨by omega,fun y hy hc=>?_,fun y hy hc=>?_,fun y hy=>?_⟩
 ·obtain⟨q1,q2⟩:=S.2.1 y hy hc
  refine⟨by rw [ch.2 y (by omega) (fun q=>by have:=hF y q; omega)]; exact q1,?_⟩
  unfold recol; rw [if_pos (by omega)]; exact q2
 ·unfold recol; rw [if_pos (by omega)]; exact S.2.2.1 y hy hc
 ·unfold recol; split
  ·exact S.2.2.2 y hy
  ·omega
def dStart1 (st:Dv):Option (Int × Dv):=
 if (qNext st.Q st.hd st.dn).2.2≠0 then none else match st.O (qNext st.Q st.hd st.dn).1.id with
 | none=>none
 | some a=>
  let N:=(qNext st.Q st.hd st.dn).1
  let r:=rPut st.size st.RL st.reaped ⟨a.r.op,N.id,a.r.pc.slot,a.r.pc.gen,a.r.pc.fr,a.r.pc.len,false,false,0⟩
  if r.1.2≠0 then none else
   let T:=qTake st.Q st.hd st.dn
   some (N.id,{ st with RL:=r.2,Q:=T.2.1,hd:=T.2.2.1,dn:=T.2.2.2,O:=updF st.O N.id (some { a with no:=r.1.1 }),I:=updF st.I r.1.1 (some ⟨N.id,false,false,false,false⟩) })
def dStartN:Nat→Dv→List Int × Dv
 | 0,st=>([],st)
 | n+1,st=>match dStart1 st with
  | none=>([],st)
  | some (id,s)=>(id :: (dStartN n s).1,(dStartN n s).2)
def dStart (st:Dv):List Int × Dv:=dStartN 65 st
theorem dStart1_len {s s':Dv} {id:Int} (h:dStart1 s=some (id,s')):s'.RL.length=s.RL.length+1∧s'.reaped=s.reaped∧s'.size=s.size:=by
 unfold dStart1 at h
 split at h
 ·cases h
 split at h
 ·cases h
 ·rename_i a ha
  simp only at h
  split at h
  ·cases h
  ·rename_i hr
   simp only [Option.some.injEq,Prod.mk.injEq] at h
   obtain⟨_,rfl⟩:=h
   refine⟨?_,rfl,rfl⟩
   simp only
   unfold rPut at hr ⊢
   simp only at hr ⊢
   split at hr
   ·simp at hr
   ·rename_i q1
    rw [if_neg q1] at *
    split at hr
    ·simp at hr
    ·rename_i q2
     rw [if_neg q2]; simp
theorem dstart_spec (J:Dv→Prop) (hJ:J st) (hJ1 : ∀ s,J s→(qNext s.Q s.hd s.dn).2.2=0→(s.O (qNext s.Q s.hd s.dn).1.id).isSome=true) (hJ2 : ∀ s id s',J s→dStart1 s=some (id,s')→J s')
  (D:DevP col h db x st) (hb:st.RL.length<900000) :
  CallsH PR Gid #[.pointer (some ⟨db,0,none⟩)] h
   (fun v h'=>∃ a c,v = .slice a (dStart st).1.length c∧Sl h' ty_int 1 a (dStart st).1.length c ((dStart st).1.map (Value.int .i64))∧∃ col',Stp col h col' h'∧DevP col' h' db x (dStart st).2∧∀ y,blkOf a y→col' y=0∧h.size≤y):=by
 apply Gar
 unfold Gaq
 refine⟨fun a n c hh=>∃ (l:List Int) (s:Dv) (col1:Nat→Nat),n=l.length∧Sl hh ty_int 1 a n c (l.map (Value.int .i64))∧(∀ y,blkOf a y→col1 y=0∧h.size≤y)∧Stp col h col1 hh∧DevP col1 hh db x s∧J s∧s.RL.length=st.RL.length+l.length∧s.reaped=st.reaped∧s.size=st.size∧dStartN 65 st=(l ++ (dStartN (65 - l.length) s).1,(dStartN (65 - l.length) s).2),
  fun _ n _ _=>100 - n,⟨[],st,recol col h 0,rfl,Sl.nil _ _ _,fun y hy=>absurd hy not_blkOf_none,(D.ext (Ext.refl h)).1,(D.ext (Ext.refl h)).2.1,hJ,by simp,rfl,rfl,rfl⟩,?_⟩
 rintro a n c hh ⟨l,s,col1,rfl,sl,za,S1,D1,hs,hRL,hre,hsi,hN⟩
 have hord:s.RL.length≤s.reaped+s.size∧s.size≤64∧s.reaped≤s.RL.length:=by
  obtain⟨pl,P,R⟩:=D1.R
  have h1:=R.ord; have h2:=R.sz; omega
 have hordst:st.reaped≤st.RL.length:=by
  obtain⟨pl,P,R⟩:=D.R
  have h1:=R.ord; omega
 have hll:l.length≤64:=by omega
 have hz0:=S1.1
 have stop : ∀ {hz:Heap} {cz:Nat→Nat},Stp col1 hh cz hz→DevP cz hz db x s→dStart1 s=none→∃ a' c',Value.slice a l.length c = .slice a' (dStart st).1.length c'∧Sl hz ty_int 1 a' (dStart st).1.length c' ((dStart st).1.map (Value.int .i64))∧∃ col',Stp col h col' hz∧DevP col' hz db x (dStart st).2∧∀ y,blkOf a' y→col' y=0∧h.size≤y:=by
  intro hz cz S Dz hnone
  obtain⟨k,hk⟩ : ∃ k,65 - l.length=k+1:=⟨64 - l.length,by omega⟩
  have e:dStart st=(l,s):=by
   unfold dStart; rw [hN,hk]
   simp only [dStartN,hnone,List.append_nil]
  rw [e]
  refine⟨a,c,rfl,sl.keep fun y hy hb=>(S.2.1 y hy (.inl (za y hb).1)).1,cz,S1.trans S,Dz,fun y hb=>⟨?_,(za y hb).2⟩⟩
  rw [(S.2.1 y (sl.blk_lt hb) (.inl (za y hb).1)).2]; exact (za y hb).1
 refine⟨db,0,rfl,some ⟨x.qb,0,none⟩,D1.cell rfl,(qnext_spec D1.Q).mono ?_⟩
 rintro _ h11 ⟨rfl,x11⟩
 obtain⟨S2,D2,Z2⟩:=D1.ext x11
 obtain⟨N,hNN⟩ : ∃ N,N=(qNext s.Q s.hd s.dn).1:=⟨_,rfl⟩
 have hcode:=hJ1 s hs
 rw [← hNN] at hcode ⊢
 refine⟨N.id,N.dead,N.track,_,rfl,fun h15 e15=>?_⟩
 obtain⟨h18,t1,t2,t3,t4⟩:=st_tmp (zs:=[_,_,_]) e15 (wntV N) rfl (wntV_one N)
 obtain⟨S3,D3,Z3⟩:=D2.ext t3
 have wz:=Z3 _ (Nat.le_refl _)
 have S13:=S2.trans S3
 refine⟨h18,t1,fun hne=>stop S13 D3 (by unfold dStart1; rw [if_pos hne]),fun h0=>?_⟩
 obtain⟨y,hy⟩:=Option.isSome_iff_exists.1 (hcode h0)
 obtain⟨lo,co,bo,RO⟩:=D3.O
 have hgo:=RO.got N.id
 have hyo:=RO.at_ N.id y hy
 have hxo:(Option.map (fun _=>(⟨bo N.id,0,none⟩:Addr)) (s.O N.id))=some ⟨bo N.id,0,none⟩:=by rw [hy]; rfl
 obtain⟨dd,hdd⟩ : ∃ dd:Dsc,dd=⟨y.r.op,N.id,y.r.pc.slot,y.r.pc.gen,y.r.pc.fr,y.r.pc.len,false,false,0⟩:=⟨_,rfl⟩
 have eS:dStart1 s=if (rPut s.size s.RL s.reaped dd).1.2≠0 then none else some (N.id,{ s with RL:=(rPut s.size s.RL s.reaped dd).2,Q:=(qTake s.Q s.hd s.dn).2.1,hd:=(qTake s.Q s.hd s.dn).2.2.1,dn:=(qTake s.Q s.hd s.dn).2.2.2,O:=updF s.O N.id (some { y with no:=(rPut s.size s.RL s.reaped dd).1.1 }),I:=updF s.I (rPut s.size s.RL s.reaped dd).1.1 (some ⟨N.id,false,false,false,false⟩) }):=by
  unfold dStart1; rw [if_neg (by omega),← hNN,hy,hdd]
 have hput:=rput_spec D3.R (by omega) dd
 rw [hdd] at hput
 refine⟨some x.mo,D3.cell rfl,N.id,cell_lst t2 rfl,lo,co,RO.map,some ⟨bo N.id,0,none⟩,by rw [hgo.1]; exact congrArg Value.pointer hxo,some ⟨x.rb,0,none⟩,D3.cell rfl,bo N.id,0,rfl,_,cell_lst hyo rfl,_,cell_lst t2 rfl,_,_,ld_lst hyo 2 4 (by simp [opnV]),_,cell_lst hyo rfl,_,cell_lst hyo rfl,hput.mono ?_⟩
 rw [← hdd]
 rintro _ h44 ⟨rfl,c44,R44⟩
 obtain⟨col4,S4,D4,K4⟩:=D3.stepR c44 R44
 obtain⟨w4,wc4⟩:=S4.get t2 wz
 obtain⟨r,hr⟩ : ∃ r,r=rPut s.size s.RL s.reaped dd:=⟨_,rfl⟩
 rw [← hr] at D4 eS ⊢
 refine⟨_,_,rfl,fun hne=>?_,fun hr0=>?_⟩
 ·have hsame:r.2=s.RL:=by
   rw [hr] at hne ⊢
   unfold rPut at hne ⊢
   simp only at hne ⊢
   split
   ·rfl
   ·rename_i q1
    rw [if_neg q1] at hne
    split
    ·rfl
    ·rename_i q2
     rw [if_neg q2] at hne
     exact absurd rfl hne
  rw [hsame] at D4
  exact stop (S13.trans S4) D4 (by rw [eS,if_pos hne])
 rw [if_neg (by omega)] at eS
 have hcb3:=(RO.own.2 N.id y hy).2
 have hcm3:=RO.own.1.2
 have hyo4:=other_blk c44 hyo hcb3 (by omega)
 have hmo4:=other_blk c44 RO.map hcm3 (by omega)
 have hcb4:col4 (bo N.id)=6:=(K4 _ (lt_of_get hyo) (by omega)).trans hcb3
 have hcm4:col4 x.mo=6:=(K4 _ (lt_of_get RO.map) (by omega)).trans hcm3
 refine⟨some ⟨x.qb,0,none⟩,D4.cell rfl,(qtake_spec D4.Q).mono ?_⟩
 rintro _ h51 ⟨rfl,c51,Q51⟩
 obtain⟨col5,S5,D5,K5⟩:=D4.stepQ c51 Q51
 obtain⟨w5,wc5⟩:=S5.get w4 wc4
 have hyo5:=other_blk c51 hyo4 hcb4 (by omega)
 have hmo5:=other_blk c51 hmo4 hcm4 (by omega)
 have hcb5:col5 (bo N.id)=6:=(K5 _ (lt_of_get hyo4) (by omega)).trans hcb4
 have hcm5:col5 x.mo=6:=(K5 _ (lt_of_get hmo4) (by omega)).trans hcm4
 have S15:=(S13.trans S4).trans S5
 obtain⟨T,hT⟩ : ∃ T,T=qTake s.Q s.hd s.dn:=⟨_,rfl⟩
 have D5':DevP col5 h51 db x { s with RL:=r.2,Q:=T.2.1,hd:=T.2.2.1,dn:=T.2.2.2 }:=by rw [hT]; exact D5
 rw [← hT] at eS ⊢
 clear D5
 obtain⟨lo',co',bo',RO5⟩:=D5'.O
 have hmm:=RO5.map
 rw [hmo5] at hmm
 obtain⟨rfl,rfl⟩:=mobj_int_inj (Option.some.inj hmm)
 have hbb:bo' N.id=bo N.id:=by
  have h1:=RO5.look N.id
  rw [RO.look] at h1
  have hy':({ s with RL:=r.2,Q:=T.2.1,hd:=T.2.2.1,dn:=T.2.2.2 } : Dv).O N.id=some y:=hy
  rw [hy'] at h1
  simp at h1
  exact h1.symm
 obtain⟨li,ci,bi,RI5⟩:=D5'.I
 have hcmi:col5 x.mi=7:=RI5.own.1.2
 obtain⟨s',hs'⟩ : ∃ s':Dv,s' = { s with RL:=r.2,Q:=T.2.1,hd:=T.2.2.1,dn:=T.2.2.2,O:=updF s.O N.id (some { y with no:=r.1.1 }),I:=updF s.I r.1.1 (some ⟨N.id,false,false,false,false⟩) }:=⟨_,rfl⟩
 rw [← hs'] at eS
 have hz5:=S15.1
 have hz11:hh.size≤h11.size:=S2.1
 have hnem:bo N.id≠x.mi:=fun q=>by rw [q,hcmi] at hcb5; cases hcb5
 have hned:bo N.id≠db:=fun q=>by rw [q,D5'.cdb] at hcb5; cases hcb5
 have hnemd:x.mi≠db:=fun q=>by rw [q,D5'.cdb] at hcmi; cases hcmi
 have hnew:bo N.id≠h11.size:=fun q=>by rw [q,wc5] at hcb5; cases hcb5
 have hnemw:x.mi≠h11.size:=fun q=>by rw [q,wc5] at hcmi; cases hcmi
 have hbl:bo N.id<h51.size:=lt_of_get hyo5
 have hml:x.mi<h51.size:=lt_of_get RI5.map
 have hdl:db<h51.size:=lt_of_get D5'.blk
 have hwl:h11.size<h51.size:=lt_of_get w5
 have last : ∀ hf:Heap,hf.size=h51.size+1→hf[bo N.id]? = some (.cells (List.toArray (opnV { y with no:=r.1.1 })) ty_ioq_open (0,0))→hf[x.mi]? = some (mobj (Value.int .i64) (mput li r.1.1 (.pointer (some ⟨h51.size,0,none⟩)) ci) (mclk li r.1.1 ci)) →
   hf[h51.size]? = some (.cells (List.toArray (eV ⟨N.id,false,false,false,false⟩)) ty_ioq_entry (0,0))→(∀ z,z<h51.size→z≠bo N.id→z≠x.mi→hf[z]? = h51[z]?)→(∃ col6,Stp col1 hh col6 hf∧DevP col6 hf db x s')∧hf[h11.size]? = some (.cells (List.toArray (wntV N)) 148 (0,0)):=by
  intro hf f1 f2 f3 f4 f5
  obtain⟨hA,eA⟩ : ∃ hA:Heap,hA=h51.setIfInBounds (bo N.id) (.cells (List.toArray (opnV { y with no:=r.1.1 })) ty_ioq_open (0,0)):=⟨_,rfl⟩
  obtain⟨g1,g2,g3⟩:=set_get eA hyo5
  obtain⟨RO6,ch6⟩:=RO5.set (h':=hA) (x':={ y with no:=r.1.1 }) hy (by rw [hbb]; exact g1) (fun z hz=>g2 z (by rw [← hbb]; exact hz)) g3
  obtain⟨col6,S6,D6,K6⟩:=D5'.stepO ch6 (RO6.grow (h:=h51) (by omega) RO5.bnd)
  obtain⟨li',ci',bi',RI6⟩:=D6.I
  have hmm6:=RI6.map
  rw [g2 _ hnem.symm,RI5.map] at hmm6
  obtain⟨rfl,rfl⟩:=mobj_int_inj (Option.some.inj hmm6)
  obtain⟨RI7,ch7⟩:=RI6.put (h':=hf) (k:=r.1.1) (x':=⟨N.id,false,false,false,false⟩) (nb:=h51.size) ⟨by omega,by omega⟩ f3 f4 (fun z hz hm=>by
   by_cases hzb:z=bo N.id
   ·subst hzb; rw [f2,g1]
   ·rw [f5 z (by omega) hzb hm,g2 z hzb]) (by omega)
  obtain⟨col7,S7,D7,-⟩:=D6.stepI ch7 RI7
  refine⟨⟨col7,(S15.trans S6).trans S7,by rw [hs']; exact D7⟩,?_⟩
  rw [f5 _ hwl hnew.symm hnemw.symm]; exact w5
 refine⟨T.1.1.id,T.1.1.dead,T.1.1.track,T.1.2,rfl,fun h58=>(∃ col6,Stp col1 hh col6 h58∧DevP col6 h58 db x s')∧h58[h11.size]? = some (.cells (List.toArray (wntV N)) 148 (0,0)),?_,some x.mi,D5'.cell rfl,N.id,cell_lst w5 rfl,?_,?_⟩
 ·rintro h58 ⟨⟨col6,S6,D6⟩,w6⟩
  refine⟨N.id,cell_lst w6 rfl,fun h61 e61=>?_⟩
  obtain⟨b1,b2,b3⟩:=push_get e61
  obtain⟨S7,D7,Z7⟩:=D6.ext b2
  have S17:=S6.trans S7
  have hz17:=S17.1
  have sl7:Sl h61 ty_int 1 a l.length c (l.map (Value.int .i64)):=sl.keep fun y hy hb=>(S17.2.1 y hy (.inl (za y hb).1)).1
  have za7 : ∀ y,blkOf a y→recol col6 h58 0 y=0∧h.size≤y:=fun y hb=>⟨by
   rw [(S17.2.1 y (sl.blk_lt hb) (.inl (za y hb).1)).2]; exact (za y hb).1,(za y hb).2⟩
  obtain⟨k,hk⟩ : ∃ k,65 - l.length=k+1:=⟨64 - l.length,by omega⟩
  obtain⟨q1,q2,q3⟩:=dStart1_len eS
  refine sl7.append (m:=1) rfl (by simp [Value.oneCell']) rfl ⟨by omega,by omega,by omega⟩ ?_
  intro a' c' h70 s70 ch70 f70
  have Sf:=Stp.tmpCh (S1.trans S17) (F:=blkOf a) (fun y hy=>(za y hy).2) ch70
  have Df:=D7.tmpCh (F:=blkOf a) (fun y _ hy=>(za7 y hy).1) ch70
  refine⟨⟨l ++ [N.id],s',_,by simp,by rw [List.map_append]; exact s70,fun y hb=>?_,Sf,Df,hJ2 s N.id s' hs eS,by rw [q1,hRL]; simp; omega,by rw [q2,hre],by rw [q3,hsi],?_⟩,by dsimp only; omega⟩
  ·rcases f70 y hb with q | q
   ·refine⟨?_,(za y q).2⟩
    unfold recol; rw [if_pos (sl7.blk_lt q)]; exact (za7 y q).1
   ·refine⟨?_,by have:=S1.1; omega⟩
    unfold recol; rw [if_neg (by omega)]
  ·rw [hN,hk]
   have hk2:65 - (l ++ [N.id]).length=k:=by simp; omega
   rw [hk2]
   simp only [dStartN,eS,List.append_assoc,List.singleton_append]
 ·intro h75 e75
  obtain⟨b1,b2,b3⟩:=push_get e75
  obtain⟨h79,u1,u2,u3,u4⟩:=st_ex (o:=0+8) [.int .i64 r.1.1] (b2.get hyo5) (by simp [opnV]) (by simp [Value.oneCell'])
  have m79:h79[x.mi]? = some (mobj (Value.int .i64) li ci):=by rw [u3 _ hnem.symm]; exact b2.get RI5.map
  refine⟨cell_lst (b2.get D5'.blk) rfl,h79,u1,x.mi,rfl,li,ci,m79,fun h85 e85=>?_⟩
  obtain⟨v1,v2,v3⟩:=set_get e85 m79
  refine⟨⟨v1,RI5.ok⟩,fun h87 e87=>?_⟩
  obtain⟨w1,w2,w3⟩:=set_get e87 v1
  refine last h87 (by omega) ?_ w1 ?_ fun z hz z1 z2=>?_
  ·rw [w2 _ hnem,v2 _ hnem,u2]; rfl
  ·rw [w2 _ (by omega),v2 _ (by omega),u3 _ (by omega)]; exact b1
  ·rw [w2 z z2,v2 z z2,u3 z z1,b2.2 z hz]
 ·obtain⟨h91,u1,u2,u3,u4⟩:=st_ex (o:=0+8) [.int .i64 r.1.1] hyo5 (by simp [opnV]) (by simp [Value.oneCell'])
  have w91:h91[h11.size]? = some (.cells (List.toArray (wntV N)) 148 (0,0)):=by rw [u3 _ hnew.symm]; exact w5
  have m91:h91[x.mi]? = some (mobj (Value.int .i64) li ci):=by rw [u3 _ hnem.symm]; exact RI5.map
  refine⟨h91,u1,cell_lst w91 rfl,fun h93 e93=>?_,?_⟩
  ·obtain⟨b1,b2,b3⟩:=push_get e93
   refine⟨x.mi,rfl,li,ci,b2.get m91,fun h100 e100=>?_⟩
   obtain⟨v1,v2,v3⟩:=set_get e100 (b2.get m91)
   refine⟨⟨v1,RI5.ok⟩,fun h102 e102=>?_⟩
   obtain⟨w1,w2,w3⟩:=set_get e102 v1
   rw [u4] at w1 b1
   refine last h102 (by omega) ?_ w1 ?_ fun z hz z1 z2=>?_
   ·rw [w2 _ hnem,v2 _ hnem,b2.2 _ (by omega),u2]; rfl
   ·rw [w2 _ (by omega),v2 _ (by omega)]; exact b1
   ·rw [w2 z z2,v2 z z2,b2.2 z (by omega),u3 z z1]
  ·refine⟨x.mi,rfl,li,ci,m91,fun h110 e110=>?_⟩
   obtain⟨v1,v2,v3⟩:=set_get e110 m91
   refine⟨cell_lst (by rw [v2 _ hnemw.symm]; exact w91) rfl,fun h113 e113=>?_⟩
   obtain⟨b1,b2,b3⟩:=push_get e113
   refine⟨⟨b2.get v1,RI5.ok⟩,fun h115 e115=>?_⟩
   obtain⟨w1,w2,w3⟩:=set_get e115 (b2.get v1)
   rw [v3,u4] at w1 b1
   refine last h115 (by omega) ?_ w1 ?_ fun z hz z1 z2=>?_
   ·rw [w2 _ hnem,b2.2 _ (by omega),v2 _ hnem,u2]; rfl
   ·rw [w2 _ (by omega)]; exact b1
   ·rw [w2 z z2,b2.2 z (by omega),v2 z z2,u3 z z1]
end
end Go.Proofs.Vf
namespace Go.Proofs.Vf
open Go Go.Proofs Go.VC
section
variable {col:Nat→Nat} {h h':Heap} {db:Nat} {x:DX} {st:Dv}
def argOk (st:Dv) (r:Rq):Bool:=mayP st.P r.pc && !decide (r.op<0) && !decide (15<r.op) && !decide (65535<r.pc.fr) && mayW (wantOf r)
def dSubmit (st:Dv) (r:Rq):Int × Dv:=
 if argOk st r=false then (1,st) else if (pOwner st.P r.pc.slot r.pc.gen).1≠1 then (8,st) else if inRing st r.id=true then (7,st) else if 64≤st.Q.length∧st.O r.id=none then (4,st) else
 if (stOpen st.B r.id r.dead).1≠0 then ((stOpen st.B r.id r.dead).1,{ st with B:=(stOpen st.B r.id r.dead).2 }) else
 (0,{ st with B:=(stOpen st.B r.id r.dead).2,Q:=(qAdd st.Q (wantOf r)).2,P:=(pGive st.P r.pc.slot r.pc.gen 1 2).2,O:=updF st.O r.id (some ⟨r,-1,2⟩) })
theorem dsubmit_spec (D:DevP col h db x st) (r:Rq) (hd0:0≤r.dead) (hs:srtW st.Q) (hI : ∀ j,(∃ k e,st.I k=some e∧e.id=j)↔inRing st j=true) :
  CallsH PR Gie #[.pointer (some ⟨db,0,none⟩),.agg (rqV r).toArray] h (fun v h'=>v = .int .i64 (dSubmit st r).1∧∃ col',Stp col h col' h'∧DevP col' h' db x (dSubmit st r).2):=by
 apply Gat (p1_0:=r.id) (p1_1:=r.op) (p1_2:=r.dead) (p1_3:=r.track) (p1_4:=r.pc.slot) (p1_5:=r.pc.gen) (p1_6:=r.pc.fr) (p1_7:=r.pc.len)
 unfold Gas
 intro h1 e1
 obtain⟨a1,a2,a3⟩:=push_get e1
 have a1':h1[h.size]? = some (.cells (List.toArray (rqV r)) 43 (0,0)):=a1
 refine⟨r.id,cell_lst a1 rfl,r.dead,cell_lst a1 rfl,r.track,cell_lst a1 rfl,fun h9 e9=>?_⟩
 obtain⟨h12,s1,s2,s3,s4⟩:=st_tmp (zs:=[_,_,_]) e9 [.int .i64 r.id,.int .u64 r.dead,.int .i64 r.track] rfl (by simp [Value.oneCell'])
 have x12:=a2.trans s3
 obtain⟨S12,D12,Z12⟩:=D.ext x12
 have r12:=s3.get a1'
 refine⟨h12,s1,db,0,rfl,some ⟨x.pb,0,none⟩,D12.cell0,r.pc.slot,r.pc.gen,r.pc.fr,r.pc.len,ld_lst r12 4 4 (by simp [rqV]),fun h20 e20=>?_⟩
 obtain⟨b1,b2,b3⟩:=push_get e20
 have x20:=x12.trans b2
 obtain⟨S20,D20,Z20⟩:=D.ext x20
 refine⟨D20.cell0,(pieces1_spec D20.P r.pc b1).mono ?_⟩
 rintro _ h23 ⟨rfl,x23'⟩
 have x23:=x20.trans x23'
 obtain⟨S23,D23,Z23⟩:=D.ext x23
 have r23:h23[h.size]? = some (.cells (List.toArray (rqV r)) 43 (0,0)):=x23'.get (b2.get r12)
 have w23:h23[h1.size]? = some (.cells (List.toArray (wntV (wantOf r))) 148 (0,0)):=x23'.get (b2.get s2)
 have cop:cellH h23 h.size 1=some (.int .i64 r.op):=cell_lst r23 rfl
 have cfr:cellH h23 h.size 6=some (.int .i64 r.pc.fr):=cell_lst r23 rfl
 have zh : ∀ {cz:Nat→Nat} {hz:Heap},Stp (recol col h 0) h23 cz hz→hz[h.size]? = some (.cells (List.toArray (rqV r)) 43 (0,0))∧hz[h1.size]? = some (.cells (List.toArray (wntV (wantOf r))) 148 (0,0)):=fun S=>⟨(S.get r23 (Z23 _ (Nat.le_refl _))).1,(S.get w23 (Z23 _ (by omega))).1⟩
 have same : ∀ {c:Int} {hz:Heap} {cz:Nat→Nat},Stp col h cz hz→DevP cz hz db x st→dSubmit st r=(c,st)→Value.int .i64 c = .int .i64 (dSubmit st r).1∧∃ col',Stp col h col' hz∧DevP col' hz db x (dSubmit st r).2:=fun S Dz e=>by
  rw [e]; exact⟨rfl,_,S,Dz⟩
 have sameX : ∀ {c:Int} {hz:Heap},Ext h hz→dSubmit st r=(c,st)→Value.int .i64 c = .int .i64 (dSubmit st r).1∧∃ col',Stp col h col' hz∧DevP col' hz db x (dSubmit st r).2:=fun xz e=>same (D.ext xz).1 (D.ext xz).2.1 e
 refine⟨_,rfl,r.op,fun _=>cop,r.op,fun _=>cop,r.pc.fr,fun _=>cfr,r.id,r.dead,r.track,fun _=>ld_lst w23 3 0 (by simp [wntV]),fun m hz=>Ext h23 hz∧((((!mayP st.P r.pc || decide (r.op<0)) || decide (15<r.op)) || decide (65535<r.pc.fr))=false→m=mayW (wantOf r)),?_,fun hq=>(omay_spec (wantOf r) h23).mono ?_,fun hq=>⟨true,Ext.refl _,fun q=>by rw [q] at hq; cases hq⟩⟩
 case refine_2=>
  rintro _ hz ⟨rfl,xz⟩
  exact⟨_,rfl,xz,fun _=>rfl⟩
 rintro m h37 ⟨x37',hm⟩
 have x37:=x23.trans x37'
 obtain⟨S37,D37,Z37⟩:=D.ext x37
 have r37:=x37'.get r23
 have w37:=x37'.get w23
 refine⟨fun hbad=>sameX x37 ?_,fun hgood=>?_⟩
 ·have:argOk st r=false:=by
   cases hg:(((!mayP st.P r.pc || decide (r.op<0)) || decide (15<r.op)) || decide (65535<r.pc.fr)) with
   | true=>
    unfold argOk
    simp only [Bool.or_eq_true,Bool.not_eq_true'] at hg
    rcases hg with ((hg | hg) | hg) | hg <;> rw [hg] <;> simp
   | false=>
    rw [hg,hm hg] at hbad
    simp only [Bool.false_or,Bool.not_eq_true'] at hbad
    unfold argOk; rw [hbad]; simp
  unfold dSubmit; rw [if_pos this]
 ·simp only [Bool.or_eq_false_iff] at hgood
  obtain⟨⟨⟨⟨g1,g2⟩,g3⟩,g4⟩,g5⟩:=hgood
  have hmm:=hm (by rw [g1,g2,g3,g4]; rfl)
  have hok:argOk st r=true:=by
   unfold argOk
   rw [g2,g3,g4]
   simp only [Bool.not_eq_false'] at g1 g5
   rw [g1,← hmm,g5]; rfl
  have e0:dSubmit st r=if (pOwner st.P r.pc.slot r.pc.gen).1≠1 then (8,st) else if inRing st r.id=true then (7,st) else if 64≤st.Q.length∧st.O r.id=none then (4,st) else
    if (stOpen st.B r.id r.dead).1≠0 then ((stOpen st.B r.id r.dead).1,{ st with B:=(stOpen st.B r.id r.dead).2 }) else
    (0,{ st with B:=(stOpen st.B r.id r.dead).2,Q:=(qAdd st.Q (wantOf r)).2,P:=(pGive st.P r.pc.slot r.pc.gen 1 2).2,O:=updF st.O r.id (some ⟨r,-1,2⟩) }):=by
   unfold dSubmit; rw [if_neg (by rw [hok]; decide)]
  refine⟨some ⟨x.pb,0,none⟩,D37.cell0,r.pc.slot,r.pc.gen,ld_lst r37 2 4 (by simp [rqV]),(owner_spec D37.P _ _).mono ?_⟩
  rintro _ h45 ⟨rfl,x45'⟩
  have x45:=x37.trans x45'
  obtain⟨S45,D45,Z45⟩:=D.ext x45
  have r45:=x45'.get r37
  refine⟨_,_,_,rfl,fun hne=>sameX x45 (by rw [e0,if_pos hne]),fun ho=>?_⟩
  rw [if_neg (fun q=>q ho)] at e0
  refine⟨r.id,cell_lst r45 rfl,(inring_spec D45 r.id hI).mono ?_⟩
  rintro _ h53 ⟨rfl,x53'⟩
  have x53:=x45.trans x53'
  obtain⟨S53,D53,Z53⟩:=D.ext x53
  refine⟨_,rfl,fun hr=>sameX x53 (by rw [e0,if_pos hr]),fun hr=>?_⟩
  rw [if_neg (by rw [hr]; decide)] at e0
  refine⟨some ⟨x.qb,0,none⟩,D53.cell rfl,(all_spec D53.Q).mono ?_⟩
  rintro _ h60 ⟨qa,qc,rfl,x60'⟩
  have x60:=x53.trans x60'
  obtain⟨S60,D60,Z60⟩:=D.ext x60
  have r60:h60[h.size]? = some (.cells (List.toArray (rqV r)) 43 (0,0)):=x60'.get (x53'.get r45)
  have w60:h60[h1.size]? = some (.cells (List.toArray (wntV (wantOf r))) 148 (0,0)):=x60'.get (x53'.get (x45'.get w37))
  obtain⟨lo,co,bo,RO⟩:=D60.O
  have hgo:=RO.got r.id
  refine⟨_,_,_,rfl,some x.mo,fun _=>D60.cell rfl,r.id,fun _=>cell_lst r60 rfl,lo,co,fun _=>RO.map,_,fun _=>hgo.1,fun hf=>sameX x60 ?_,fun hf=>?_⟩
  ·simp only [Bool.and_eq_true,decide_eq_true_eq] at hf
   rw [e0,if_pos]
   refine⟨by omega,?_⟩
   have h2:=hf.2
   cases hO:st.O r.id with
   | none=>rfl
   | some a=>rw [hO] at h2; simp at h2
  have e1:dSubmit st r=if (stOpen st.B r.id r.dead).1≠0 then ((stOpen st.B r.id r.dead).1,{ st with B:=(stOpen st.B r.id r.dead).2 }) else
    (0,{ st with B:=(stOpen st.B r.id r.dead).2,Q:=(qAdd st.Q (wantOf r)).2,P:=(pGive st.P r.pc.slot r.pc.gen 1 2).2,O:=updF st.O r.id (some ⟨r,-1,2⟩) }):=by
   rw [e0,if_neg]
   rintro⟨q1,q2⟩
   rw [q2] at hf
   simp at hf; omega
  clear e0
  refine⟨some ⟨x.bb,0,none⟩,D60.cell rfl,r.id,cell_lst r60 rfl,r.dead,cell_lst r60 rfl,(open_spec D60.B r.id r.dead hd0).mono ?_⟩
  rintro _ h80 ⟨rfl,c80,B80⟩
  obtain⟨col1,S1,D1,K1⟩:=D60.stepB' c80 B80
  have S01:=S60.trans S1
  have z0:recol col h 0 h.size=0:=Z60 _ (Nat.le_refl _)
  have z1:recol col h 0 h1.size=0:=Z60 _ (by omega)
  obtain⟨r80,rc80⟩:=S1.get r60 z0
  obtain⟨w80,wc80⟩:=S1.get w60 z1
  refine⟨_,rfl,fun hne=>?_,fun h0=>?_⟩
  ·rw [e1,if_pos hne]
   exact⟨rfl,col1,S01,D1⟩
  rw [if_neg (fun q=>q h0)] at e1
  refine⟨some ⟨x.qb,0,none⟩,D1.cell rfl,r.id,r.dead,r.track,ld_lst w80 3 0 (by simp [wntV]),(qadd_spec D1.Q hs (wantOf r)).mono ?_⟩
  rintro _ h88 ⟨rfl,c88,Q88⟩
  obtain⟨col2,S2,D2,K2⟩:=D1.stepQ c88 Q88
  obtain⟨r88,rc88⟩:=S2.get r80 rc80
  refine⟨_,rfl,some ⟨x.pb,0,none⟩,D2.cell0,r.pc.slot,r.pc.gen,ld_lst r88 2 4 (by simp [rqV]),(give_spec D2.P _ _ _ _).mono ?_⟩
  rintro _ h95 ⟨rfl,c95,P95⟩
  obtain⟨col3,S3,D3,K3⟩:=D2.stepP c95 P95
  obtain⟨r95,rc95⟩:=S3.get r88 rc88
  refine⟨_,rfl,some x.mo,D3.cell rfl,r.id,cell_lst r95 rfl,_,_,_,_,_,_,_,_,ld_lst r95 8 0 (by simp [rqV]),fun h104 e104=>?_⟩
  obtain⟨f1,f2,f3⟩:=push_get e104
  obtain⟨lo3,co3,bo3,RO3⟩:=D3.O
  have m104:=f2.get RO3.map
  refine⟨cell_lst (f2.get D3.blk) rfl,cell_lst (f2.get r95) rfl,x.mo,rfl,lo3,co3,m104,fun h113 e113=>?_⟩
  obtain⟨v1,v2,v3⟩:=set_get e113 m104
  have hnb:h95.size≠x.mo:=fun q=>by have:=lt_of_get RO3.map; omega
  obtain⟨RO4,ch4⟩:=RO3.put (h':=h113) (k:=r.id) (x':=⟨r,-1,2⟩) (nb:=h95.size) ⟨by omega,by omega⟩ v1 (by rw [v2 _ hnb]; exact f1) (fun y hy hm=>by rw [v2 y hm,f2.2 y hy]) (by omega)
  obtain⟨col4,S4,D4,-⟩:=D3.stepO ch4 RO4
  rw [e1]
  exact⟨rfl,col4,((S01.trans S2).trans S3).trans S4,D4⟩
def dNew (L:List Buf) (size:Nat) (cost:Int):Dv:=⟨L,[],0,false,size,[],0,0,⟨cost,0,[],[]⟩,fun _=>none,fun _=>none⟩
open Classical in
theorem dnew_spec {h0:Heap} {OwnP:Nat→Prop} {pb:Nat} {L:List Buf} (P:PoolS OwnP h pb L) (x0:Ext h0 h) (hO : ∀ y,OwnP y→h0.size≤y) {n cost:Int} (hn:1≤n∧n≤64) (hc:1≤cost∧cost≤1000) :
  CallsH PR Gij #[.pointer (some ⟨pb,0,none⟩),.int .i64 n,.int .u64 cost] h
   (fun v h'=>∃ db x col,v = .tuple #[.pointer (some ⟨db,0,none⟩),.int .i64 0]∧Ext h h'∧DevP col h' db x (dNew L n.toNat cost)∧x.pb=pb∧(∀ y,y<h0.size→col y=0)∧∀ y,col y≤7):=by
 apply Gb3
 unfold Gb2
 refine (rnew_spec h n hn).mono ?_
 rintro _ h1 ⟨rb,rfl,x1,R1⟩
 refine⟨_,_,rfl,fun q=>absurd rfl q,fun _=>(bnew_spec h1 hc).mono ?_⟩
 rintro _ h6 ⟨bb,rfl,x6,B6⟩
 refine⟨_,_,rfl,fun q=>absurd rfl q,fun _=>(onew_spec h6).mono ?_⟩
 rintro _ h11 ⟨qb,rfl,x11,Q11⟩
 refine⟨_,rfl,fun h14 e14 h16 e16 h18 e18=>?_⟩
 obtain⟨a1,a2,a3⟩:=push_get e14
 obtain⟨b1,b2,b3⟩:=push_get e16
 obtain⟨c1,c2,c3⟩:=push_get e18
 have z0:=x0.1
 have z1:=x1.1
 have z6:=x6.1
 have z11:=x11.1
 have xf:Ext h11 h18:=(a2.trans b2).trans c2
 have hPb:=P.bnd
 obtain⟨col,hcol⟩ : ∃ col:Nat→Nat,col=fun y=>if OwnP y then 1 else if y<h.size then 0 else if y<h1.size then 3 else if y<h6.size then 4 else if y<h11.size then 2 else if y=h11.size then 6 else if y=h14.size then 7 else if y=h16.size then 5 else 0:=⟨_,rfl⟩
 have cP:Cl col 1 h18=OwnP:=by
  funext y; apply propext; unfold Cl; rw [hcol]
  constructor
  ·rintro⟨_,q⟩
   by_cases hy:OwnP y
   ·exact hy
   ·simp only [hy,if_false] at q
    repeat (split at q; · cases q)
    cases q
  ·intro hy; exact⟨by have:=hPb y hy; omega,by simp [hy]⟩
 have other : ∀ {y:Nat},h.size≤y→col y=if y<h1.size then 3 else if y<h6.size then 4 else if y<h11.size then 2 else if y=h11.size then 6 else if y=h14.size then 7 else if y=h16.size then 5 else 0:=fun {y} hy=>by
  rw [hcol]
  have : ¬ OwnP y:=fun q=>by have:=hPb y q; omega
  simp only [this,if_false]
  rw [if_neg (by omega)]
 have low : ∀ {y:Nat},y<h.size→col y=0∨col y=1:=fun {y} hy=>by
  rw [hcol]
  by_cases q:OwnP y
  ·right; simp [q]
  ·left; simp [q,hy]
 have cl : ∀ {k lo hi:Nat},2≤k→h.size≤lo→hi≤h18.size→(∀ y,h.size≤y→y<h18.size→(col y=k↔lo≤y∧y<hi))→Cl col k h18=fun y=>lo≤y∧y<hi:=by
  intro k lo hi hk hlo hhi hh
  funext y; apply propext; unfold Cl
  constructor
  ·rintro⟨q1,q2⟩
   by_cases hy:y<h.size
   ·rcases low hy with q | q <;> omega
   ·exact (hh y (by omega) q1).1 q2
  ·intro q
   exact⟨by omega,(hh y (by omega) (by omega)).2 q⟩
 have cR:Cl col 3 h18=fun y=>h.size≤y∧y<h1.size:=cl (by omega) (by omega) (by omega) fun y hy hl=>by
  rw [other hy]; repeat (first | omega | split)
 have cB:Cl col 4 h18=fun y=>h1.size≤y∧y<h6.size:=cl (by omega) (by omega) (by omega) fun y hy hl=>by
  rw [other hy]; repeat (first | omega | split)
 have cQ:Cl col 2 h18=fun y=>h6.size≤y∧y<h11.size:=cl (by omega) (by omega) (by omega) fun y hy hl=>by
  rw [other hy]; repeat (first | omega | split)
 have cO:Cl col 6 h18=fun y=>h11.size≤y∧y<h11.size+1:=cl (by omega) (by omega) (by omega) fun y hy hl=>by
  rw [other hy]; repeat (first | omega | split)
 have cI:Cl col 7 h18=fun y=>h14.size≤y∧y<h14.size+1:=cl (by omega) (by omega) (by omega) fun y hy hl=>by
  rw [other hy]; repeat (first | omega | split)
 have mO:=ms_new opnV ty_ioq_open e14 (fun y=>h11.size≤y∧y<h11.size+1) ⟨Nat.le_refl _,by omega⟩ (fun y hy=>by omega)
 have mI:=ms_new eV ty_ioq_entry e16 (fun y=>h14.size≤y∧y<h14.size+1) ⟨Nat.le_refl _,by omega⟩ (fun y hy=>by omega)
 refine⟨h16.size,⟨pb,qb,rb,bb,h11.size,h14.size⟩,col,rfl,((x1.trans x6).trans x11).trans xf,?_,rfl,fun y hy=>?_,fun y=>?_⟩
 ·exact
  {blk:=c1
   cdb:=by rw [other (by omega)]; repeat (first | omega | split)
   P:=by rw [cP]; exact P.ext (((x1.trans x6).trans x11).trans xf)
   Q:=by rw [cQ]; exact Q11.ext xf
   R:=by rw [cR]; exact R1.ext ((x6.trans x11).trans xf)
   B:=by rw [cB]; exact B6.ext (x11.trans xf)
   O:=by rw [cO]; exact mO.keep (b2.trans c2).1 fun y hy _=>(b2.trans c2).2 y hy
   I:=by rw [cI]; exact mI.keep c2.1 fun y hy _=>c2.2 y hy }
 ·rcases low (show y<h.size by omega) with q | q
  ·exact q
  ·rw [hcol] at q ⊢
   have : ¬ OwnP y:=fun r=>by have:=hO y r; omega
   simp only [this,if_false] at q ⊢
   rw [if_pos (by omega)]
 ·by_cases hy:y<h.size
  ·rcases low hy with q | q <;> omega
  ·rw [other (by omega)]; repeat (first | omega | split)
end
end Go.Proofs.Vf
