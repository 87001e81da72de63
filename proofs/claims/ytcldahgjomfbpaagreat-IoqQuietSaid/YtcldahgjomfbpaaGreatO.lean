/- Contracts of functions of the program over the heap, and laws that follow from them. Conditions: as stated at each. -/
import Derived.Test.YtcldahgjomfbpaaGreatFPool
import Derived.Test.YtcldahgjomfbpaaGreatV3
import Derived.Test.YtcldahgjomfbpaaGreatFLaw
import Derived.Test.YtcldahgjomfbpaaGreatFOrder
import Derived.Test.YtcldahgjomfbpaaGreatFWheel
namespace Go.VC
def Cl (col:Nat→Nat) (k:Nat) (h:Heap) (y:Nat):Prop:=y<h.size∧col y=k
def recol (col:Nat→Nat) (h:Heap) (k:Nat) (y:Nat):Nat:=if y<h.size then col y else k
theorem Cl_recol_ne {col:Nat→Nat} {k j:Nat} {h h':Heap} (hz:h.size≤h'.size) (hj:j≠k):Cl (recol col h k) j h'=Cl col j h:=by
 funext y
 apply propext
 unfold Cl recol
 by_cases hy:y<h.size
 ·simp only [hy,if_true,true_and]
  exact⟨fun q=>q.2,fun q=>⟨by omega,q⟩⟩
 ·simp only [hy,if_false,false_and,iff_false]
  intro q; exact hj q.2.symm
theorem Cl.lt {col:Nat→Nat} {k:Nat} {h:Heap} {y:Nat} (c:Cl col k h y):y<h.size:=c.1
theorem Cl.ne {col:Nat→Nat} {j k:Nat} {h:Heap} {y:Nat} (c:Cl col j h y) (hj:j≠k) : ¬ Cl col k h y:=fun q=>hj (c.2.symm.trans q.2)
theorem Sl.blk_ty {h:Heap} {e sz:Nat} {a:Option Addr} {n c:Nat} {vs:List Value} (s:Sl h e sz a n c vs) {x:Nat} (hx:blkOf a x) : ∃ cur,h[x]? = some (.cells (List.toArray cur) e (0,0)):=by
 obtain⟨b,o,rfl,rfl⟩:=hx
 rcases s.2 with⟨q,_⟩ | ⟨b',o',cur,q,hb,_⟩
 ·cases q
 ·cases q; exact⟨cur,hb⟩
theorem ne_of_ty {h:Heap} {a b:Nat} {c d:Array Value} {t u:TypeId} {y z:Nat × Nat} (ha:h[a]? = some (.cells c t y)) (hb:h[b]? = some (.cells d u z)) (ht:t≠u):a≠b:=by
 intro e; subst e; rw [ha] at hb; simp at hb; exact ht hb.2.1
theorem Sl.ne_ty {h:Heap} {e sz:Nat} {a:Option Addr} {n c:Nat} {vs:List Value} (s:Sl h e sz a n c vs) {x y:Nat} (hx:blkOf a x) {d:Array Value} {u:TypeId} {z:Nat × Nat} (hb:h[y]? = some (.cells d u z)) (ht:e≠u):x≠y:=by
 obtain⟨cur,hc⟩:=s.blk_ty hx
 exact ne_of_ty hc hb ht
theorem Ch.ext_of {F:Nat→Prop} {h0 h h':Heap} (a:Ext h0 h) (b:Ch F h h') (hf : ∀ y,F y→h0.size≤y):Ext h0 h':=
 ⟨Nat.le_trans a.1 b.1,fun x hx=>by rw [b.2 x (Nat.lt_of_lt_of_le hx a.1) (fun q=>by have:=hf x q; omega),a.2 x hx]⟩
end Go.VC
namespace Go.Proofs.Vf
open Go Go.Proofs Go.VC
abbrev u8:Int→Value:=Value.int .u8
structure Buf where
 gen:Int
 owner:Int
 refs:Int
 b:List Int
def bufV (x:Buf) (r:Nat):List Value:=[.int .u64 x.gen,.int .i64 x.owner,.int .i64 x.refs,.slice (some ⟨r,0,none⟩) x.b.length x.b.length]
structure PoolP (Own:Nat→Prop) (h:Heap) (pb:Nat) (L:List Buf) (la:Option Addr) (lc:Nat) (bl rl:List Nat):Prop where
 blk:h[pb]? = some (.cells (List.toArray [.slice la L.length lc]) ty_pool_Pool (0,0))
 row:Sl h ty_ptr_pool_buffer 1 la L.length lc (bl.map fun b=>.pointer (some ⟨b,0,none⟩))
 lb:bl.length=L.length
 lr:rl.length=L.length
 buf : ∀ (i b r:Nat) (x:Buf),bl[i]? = some b→rl[i]? = some r→L[i]? = some x→h[b]? = some (.cells (List.toArray (bufV x r)) ty_pool_buffer (0,0))∧h[r]? = some (.cells (List.toArray (x.b.map u8)) ty_uint8 (0,0))
 nb:bl.Nodup
 nr:rl.Nodup
 own:Own pb∧(∀ y,blkOf la y→Own y)∧(∀ y∈bl,Own y)∧∀ y∈rl,Own y
 bnd : ∀ y,Own y→y<h.size
 len:L.length≤1000
 sz : ∀ x∈L,x.b.length≤65536
def PoolS (Own:Nat→Prop) (h:Heap) (pb:Nat) (L:List Buf):Prop:=∃ la lc bl rl,PoolP Own h pb L la lc bl rl
def bufAt (L:List Buf) (s g:Int):Option Buf:=if s<0 then none else match L[s.toNat]? with
 | some x=>if x.owner=0∨x.gen≠g then none else some x
 | none=>none
theorem bufAt_some {L:List Buf} {s g:Int} {x:Buf} (h:bufAt L s g=some x):0≤s∧s<L.length∧L[s.toNat]? = some x∧x.owner≠0∧x.gen=g:=by
 unfold bufAt at h
 split at h
 ·cases h
 ·split at h
  ·rename_i x' hx
   split at h
   ·cases h
   ·rename_i hn
    cases h
    have:=(List.getElem?_eq_some_iff.1 hx).1
    simp only [not_or,ne_eq,Classical.not_not] at hn
    exact⟨by omega,by omega,hx,hn.1,hn.2⟩
  ·cases h
section
variable {Own:Nat→Prop} {h h':Heap} {pb:Nat} {L:List Buf} {la:Option Addr} {lc:Nat} {bl rl:List Nat}
theorem PoolP.keep (R:PoolP Own h pb L la lc bl rl) (hz:h.size≤h'.size) (hk : ∀ y,y<h.size→Own y→h'[y]? = h[y]?):PoolP Own h' pb L la lc bl rl:=
 {R with
  blk:=by rw [hk _ (lt_of_get R.blk) R.own.1]; exact R.blk
  row:=R.row.keep fun y hy hb=>hk y hy (R.own.2.1 y hb)
  buf:=fun i b r x hb hr hx=>by
   obtain⟨h1,h2⟩:=R.buf i b r x hb hr hx
   exact⟨by rw [hk _ (lt_of_get h1) (R.own.2.2.1 b (List.mem_of_getElem? hb))]; exact h1,by rw [hk _ (lt_of_get h2) (R.own.2.2.2 r (List.mem_of_getElem? hr))]; exact h2⟩
  bnd:=fun y hy=>Nat.lt_of_lt_of_le (R.bnd y hy) hz }
theorem PoolS.keep (R:PoolS Own h pb L) (hz:h.size≤h'.size) (hk : ∀ y,y<h.size→Own y→h'[y]? = h[y]?):PoolS Own h' pb L:=by
 obtain⟨a,b,c,d,R⟩:=R; exact⟨a,b,c,d,R.keep hz hk⟩
theorem PoolP.ext (R:PoolP Own h pb L la lc bl rl) (e:Ext h h'):PoolP Own h' pb L la lc bl rl:=R.keep e.1 fun y hy _=>e.2 y hy
theorem PoolS.ext (R:PoolS Own h pb L) (e:Ext h h'):PoolS Own h' pb L:=R.keep e.1 fun y hy _=>e.2 y hy
theorem PoolS.bnd (R:PoolS Own h pb L) : ∀ y,Own y→y<h.size:=by obtain⟨_,_,_,_,R⟩:=R; exact R.bnd
theorem PoolP.grow (R:PoolP Own h pb L la lc bl rl) {h0:Heap} (hz:h0.size≤h.size) (hb : ∀ y,Own y→y<h0.size):PoolP (Grow Own h0 h) h pb L la lc bl rl:=
 {R with
  own:=⟨.inl R.own.1,fun y hy=>.inl (R.own.2.1 y hy),fun y hy=>.inl (R.own.2.2.1 y hy),fun y hy=>.inl (R.own.2.2.2 y hy)⟩
  bnd:=fun y hy=>by
   rcases hy with q | q
   ·have:=hb y q; omega
   ·exact q.2 }
theorem PoolP.at (R:PoolP Own h pb L la lc bl rl) {i:Nat} {x:Buf} (hx:L[i]? = some x) : ∃ b r,bl[i]? = some b∧rl[i]? = some r∧h[b]? = some (.cells (List.toArray (bufV x r)) ty_pool_buffer (0,0))∧h[r]? = some (.cells (List.toArray (x.b.map u8)) ty_uint8 (0,0)) ∧
  ∃ a o,la=some ⟨a,o,none⟩∧cellH h a (o+i * 1)=some (.pointer (some ⟨b,0,none⟩)):=by
 have hi:=(List.getElem?_eq_some_iff.1 hx).1
 have hb:bl[i]? = some (bl[i]'(by rw [R.lb]; exact hi)):=List.getElem?_eq_getElem _
 have hr:rl[i]? = some (rl[i]'(by rw [R.lr]; exact hi)):=List.getElem?_eq_getElem _
 obtain⟨h1,h2⟩:=R.buf i _ _ x hb hr hx
 obtain⟨a,o,e,c⟩:=R.row.get (i:=i) (v:=.pointer (some ⟨bl[i]'(by rw [R.lb]; exact hi),0,none⟩)) (by rw [List.getElem?_map,hb]; rfl)
 exact⟨_,_,hb,hr,h1,h2,a,o,e,by rw [Nat.mul_one]; exact c⟩
theorem nodup_get {l:List Nat} (hn:l.Nodup) {i j b:Nat} (hi:l[i]? = some b) (hj:l[j]? = some b):i=j:=by
 obtain⟨p,q⟩:=List.getElem?_eq_some_iff.1 hi
 obtain⟨p',q'⟩:=List.getElem?_eq_some_iff.1 hj
 exact (List.getElem_inj hn).1 (q.trans q'.symm)
theorem PoolP.setHead (R:PoolP Own h pb L la lc bl rl) {i:Nat} {x x':Buf} {b r:Nat} (hx:L[i]? = some x) (hb:bl[i]? = some b) (hr:rl[i]? = some r) (hlen:x'.b=x.b)
  (h1:h'[b]? = some (.cells (List.toArray (bufV x' r)) ty_pool_buffer (0,0))) (h2 : ∀ y,y≠b→h'[y]? = h[y]?) (hz:h'.size=h.size):PoolP Own h' pb (L.set i x') la lc bl rl:=by
 obtain⟨g1,g2⟩:=R.buf i b r x hb hr hx
 have nty : ∀ {y:Nat} {c:Array Value} {t:TypeId} {z:Nat × Nat},h[y]? = some (.cells c t z)→t≠ty_pool_buffer→h'[y]? = h[y]?:=fun hy ht=>h2 _ (ne_of_ty hy g1 ht)
 exact
 {blk:=by rw [nty R.blk (by decide),List.length_set]; exact R.blk
  row:=by rw [List.length_set]; exact R.row.keep fun y _ hy=>h2 y (R.row.ne_ty hy g1 (by decide))
  lb:=by rw [List.length_set]; exact R.lb
  lr:=by rw [List.length_set]; exact R.lr
  buf:=fun j b' r' y hb' hr' hy=>by
   rw [List.getElem?_set] at hy
   by_cases hij:i=j
   ·subst hij
    rw [hb] at hb'; cases hb'
    rw [hr] at hr'; cases hr'
    have hi:=(List.getElem?_eq_some_iff.1 hx).1
    rw [if_pos rfl,if_pos hi] at hy
    cases hy
    exact⟨h1,by rw [nty g2 (by decide),hlen]; exact g2⟩
   ·rw [if_neg hij] at hy
    obtain⟨k1,k2⟩:=R.buf j b' r' y hb' hr' hy
    refine⟨by rw [h2 _ (fun e=>hij (nodup_get R.nb hb (e ▸ hb')))]; exact k1,by rw [nty k2 (by decide)]; exact k2⟩
  nb:=R.nb
  nr:=R.nr
  own:=R.own
  bnd:=fun y hy=>by have:=R.bnd y hy; omega
  len:=by rw [List.length_set]; exact R.len
  sz:=fun y hy=>by
   rcases List.mem_or_eq_of_mem_set hy with q | q
   ·exact R.sz y q
   ·rw [q,hlen]; exact R.sz x (List.mem_of_getElem? hx) }
theorem PoolP.setRow (R:PoolP Own h pb L la lc bl rl) {i:Nat} {x x':Buf} {b r:Nat} (hx:L[i]? = some x) (hb:bl[i]? = some b) (hr:rl[i]? = some r) (hh:x'.gen=x.gen∧x'.owner=x.owner∧x'.refs=x.refs∧x'.b.length=x.b.length)
  (h1:h'[r]? = some (.cells (List.toArray (x'.b.map u8)) ty_uint8 (0,0))) (h2 : ∀ y,y≠r→h'[y]? = h[y]?) (hz:h'.size=h.size):PoolP Own h' pb (L.set i x') la lc bl rl:=by
 obtain⟨g1,g2⟩:=R.buf i b r x hb hr hx
 have nty : ∀ {y:Nat} {c:Array Value} {t:TypeId} {z:Nat × Nat},h[y]? = some (.cells c t z)→t≠ty_uint8→h'[y]? = h[y]?:=fun hy ht=>h2 _ (ne_of_ty hy g2 ht)
 obtain⟨q1,q2,q3,q4⟩:=hh
 exact
 {blk:=by rw [nty R.blk (by decide),List.length_set]; exact R.blk
  row:=by rw [List.length_set]; exact R.row.keep fun y _ hy=>h2 y (R.row.ne_ty hy g2 (by decide))
  lb:=by rw [List.length_set]; exact R.lb
  lr:=by rw [List.length_set]; exact R.lr
  buf:=fun j b' r' y hb' hr' hy=>by
   rw [List.getElem?_set] at hy
   by_cases hij:i=j
   ·subst hij
    rw [hb] at hb'; cases hb'
    rw [hr] at hr'; cases hr'
    have hi:=(List.getElem?_eq_some_iff.1 hx).1
    rw [if_pos rfl,if_pos hi] at hy
    cases hy
    refine⟨?_,h1⟩
    rw [nty g1 (by decide),g1]
    unfold bufV; rw [q1,q2,q3,q4]
   ·rw [if_neg hij] at hy
    obtain⟨k1,k2⟩:=R.buf j b' r' y hb' hr' hy
    refine⟨by rw [nty k1 (by decide)]; exact k1,by rw [h2 _ (fun e=>hij (nodup_get R.nr hr (e ▸ hr')))]; exact k2⟩
  nb:=R.nb
  nr:=R.nr
  own:=R.own
  bnd:=fun y hy=>by have:=R.bnd y hy; omega
  len:=by rw [List.length_set]; exact R.len
  sz:=fun y hy=>by
   rcases List.mem_or_eq_of_mem_set hy with q | q
   ·exact R.sz y q
   ·rw [q,q4]; exact R.sz x (List.mem_of_getElem? hx) }
end
end Go.Proofs.Vf
namespace Go.Proofs.Vf
open Go Go.Proofs Go.VC
section
variable {Own:Nat→Prop} {h:Heap} {pb:Nat} {L:List Buf} {la:Option Addr} {lc:Nat} {bl rl:List Nat}
theorem holds_spec (o:Int) (h:Heap):CallsH PR Gm4 #[.int .i64 o] h (fun v h'=>v = .bool (decide (1≤o) && decide (o≤3))∧h'=h):=by
 apply Gdz
 unfold Gdy
 exact⟨rfl,rfl⟩
theorem with_spec (R:PoolP Own h pb L la lc bl rl) (s g:Int) (f:Value) {K:Int→Heap→Prop}
  (H1 : ∀ h1,Ext h h1→bufAt L s g=none→K 3 h1)
  (H2 : ∀ h1 x b r,Ext h h1→bufAt L s g=some x→L[s.toNat]? = some x→bl[s.toNat]? = some b→rl[s.toNat]? = some r→CallsV PR f [.pointer (some ⟨b,0,none⟩)] h1 (fun v h'=>∃ c,v = .int .i64 c∧K c h')) :
  CallsH PR Gm3 #[.pointer (some ⟨pb,0,none⟩),.agg #[.int .i64 s,.int .u64 g],f] h (fun v h'=>∃ c,v = .int .i64 c∧K c h'):=by
 apply Gdx
 unfold Gdw
 intro h1 e1
 obtain⟨p1,p2,p3⟩:=push_get e1
 have R1:=R.ext p2
 have cp:cellH h1 pb 0=some (.slice la L.length lc):=cell_lst R1.blk rfl
 have cs:cellH h1 h.size 0=some (.int .i64 s):=cell_lst p1 rfl
 have cg:cellH h1 h.size 1=some (.int .u64 g):=cell_lst p1 rfl
 by_cases hr:0≤s∧s<L.length
 ·obtain⟨x,hx⟩ : ∃ x,L[s.toNat]? = some x:=⟨_,List.getElem?_eq_getElem (by omega)⟩
  obtain⟨b,r,hb,hrr,g1,g2,a,o,rfl,ca⟩:=R1.at hx
  have co:cellH h1 b (0+1)=some (.int .i64 x.owner):=cell_lst g1 rfl
  have cn:cellH h1 b 0=some (.int .u64 x.gen):=cell_lst g1 rfl
  have d1:decide (s<0)=false:=by simp; omega
  have d2:decide ((L.length:Int)≤s)=false:=by simp; omega
  refine⟨s,cs,s,fun _=>cs,pb,0,fun _=>rfl,_,_,_,fun _=>cp,pb,0,fun _=>rfl,_,_,_,fun _=>cp,s,fun _=>cs,a,o,fun _=>rfl,fun _=>hr,_,fun _=>ca,b,0,fun _=>rfl,x.owner,fun _=>co,pb,0,fun _=>rfl,_,_,_,fun _=>cp,s,fun _=>cs,a,o,fun _=>rfl,fun _=>hr,_,fun _=>ca,b,0,fun _=>rfl,x.gen,fun _=>cn,g,fun _=>cg,fun q=>?_,fun q=>?_⟩
  ·refine⟨3,rfl,H1 h1 p2 ?_⟩
   simp only [d1,d2,Bool.false_or,Bool.or_eq_true,decide_eq_true_eq,Bool.not_eq_true',decide_eq_false_iff_not] at q
   unfold bufAt
   rw [if_neg (by omega),hx]
   simp only [ne_eq]
   rw [if_pos q]
  ·simp only [d1,d2,Bool.false_or,Bool.or_eq_false_iff,decide_eq_false_iff_not,Bool.not_eq_false',decide_eq_true_eq] at q
   refine⟨pb,0,rfl,_,_,_,cp,s,cs,a,o,rfl,hr,_,ca,?_⟩
   have hba:bufAt L s g=some x:=by
    unfold bufAt
    rw [if_neg (by omega),hx]
    simp only [ne_eq]
    rw [if_neg (by omega)]
   refine (H2 h1 x b r p2 hba hx hb hrr).mono ?_
   rintro v h' ⟨c,rfl,hK⟩
   exact⟨c,rfl,c,rfl,hK⟩
 ·have hd:(decide (s<0) || decide ((L.length:Int)≤s))=true:=by simp; omega
  have no1 : ∀ {p:Prop},(decide (s<0) || decide ((L.length:Int)≤s))=false→p:=fun q=>by rw [hd] at q; cases q
  have no2 : ∀ {p:Prop} {c:Bool},((decide (s<0) || decide ((L.length:Int)≤s)) || c)=false→p:=fun q=>by rw [hd] at q; simp at q
  have no3 : ∀ {p:Prop} {c d:Bool},(((decide (s<0) || decide ((L.length:Int)≤s)) || c) || d)=false→p:=fun q=>by rw [hd] at q; simp at q
  refine⟨s,cs,s,fun _=>cs,pb,0,fun _=>rfl,_,_,_,fun _=>cp,pb,0,fun _=>rfl,la,L.length,lc,no1,s,no1,0,0,no1,no1,none,no1,0,0,no1,0,no1,0,0,no2,none,0,0,no2,0,no2,0,0,no2,no2,none,no2,0,0,no2,0,no2,0,no2,fun q=>?_,no3⟩
  refine⟨3,rfl,H1 h1 p2 ?_⟩
  unfold bufAt
  split
  ·rfl
  ·rw [List.getElem?_eq_none (by omega)]
def pGive (L:List Buf) (s g fr to:Int):Int × List Buf:=match bufAt L s g with
 | none=>(3,L)
 | some x=>if ¬ (1≤fr∧fr≤3)∨¬ (1≤to∧to≤3)∨fr=to then (1,L) else if x.owner≠fr then (8,L) else (0,L.set s.toNat { x with owner:=to })
theorem PoolS.grow {h':Heap} (R:PoolS Own h' pb L) (hz:h.size≤h'.size) (hb : ∀ y,Own y→y<h.size):PoolS (Grow Own h h') h' pb L:=by
 obtain⟨_,_,_,_,R⟩:=R
 exact⟨_,_,_,_,R.grow hz hb⟩
theorem give_spec (RS:PoolS Own h pb L) (s g fr to:Int) :
  CallsH PR Glt #[.pointer (some ⟨pb,0,none⟩),.agg #[.int .i64 s,.int .u64 g],.int .i64 fr,.int .i64 to] h
   (fun v h'=>v = .int .i64 (pGive L s g fr to).1∧Ch Own h h'∧PoolS (Grow Own h h') h' pb (pGive L s g fr to).2):=by
 have bnd:=RS.bnd
 obtain⟨la,lc,bl,rl,R⟩:=RS
 apply Gdf
 unfold Gdc
 intro h1 e1 h3 e3 h5 e5
 obtain⟨a1,a2,a3⟩:=push_get e1
 obtain⟨b1,b2,b3⟩:=push_get e3
 obtain⟨c1,c2,c3⟩:=push_get e5
 have x5:=(a2.trans b2).trans c2
 have R5:=R.ext x5
 have k1:h5[h.size]? = some (.cells #[.int .i64 s,.int .u64 g] 39 (0,0)):=c2.get (b2.get a1)
 refine⟨s,g,ld_lst k1 2 0 (by simp),?_⟩
 refine (with_spec R5 s g _ (K:=fun c h'=>c=(pGive L s g fr to).1∧Ch Own h h'∧PoolS (Grow Own h h') h' pb (pGive L s g fr to).2) (fun h6 x6 hn=>?_) (fun h6 x b r x6 hx hL hb hr=>?_)).mono ?_
 ·have e:pGive L s g fr to=(3,L):=by unfold pGive; rw [hn]
  rw [e]
  have xx:=x5.trans x6
  exact⟨rfl,xx.ch,PoolS.grow ⟨_,_,_,_,R.ext xx⟩ xx.1 bnd⟩
 ·have xx:=x5.trans x6
  have R6:=R.ext xx
  refine⟨Glu,[],[.pointer (some ⟨h1.size,0,none⟩),.pointer (some ⟨h3.size,0,none⟩)],rfl,en_132,?_⟩
  apply Gde
  unfold Gdd
  have cf:cellH h6 h1.size 0=some (.int .i64 fr):=cell_lst (x6.get (c2.get b1)) rfl
  have ct:cellH h6 h3.size 0=some (.int .i64 to):=cell_lst (x6.get c1) rfl
  obtain⟨g1,g2⟩:=R6.buf _ _ _ _ hb hr hL
  have done : ∀ {c:Int},pGive L s g fr to=(c,L)→∃ c',Value.int .i64 c = .int .i64 c'∧c'=(pGive L s g fr to).1∧Ch Own h h6∧PoolS (Grow Own h h6) h6 pb (pGive L s g fr to).2:=fun e=>by
   rw [e]; exact⟨_,rfl,rfl,xx.ch,PoolS.grow ⟨_,_,_,_,R6⟩ xx.1 bnd⟩
  refine⟨_,_,rfl,fr,cf,(holds_spec fr h6).mono ?_⟩
  rintro _ h6 ⟨rfl,rfl⟩
  refine⟨_,rfl,h3.size,0,fun _=>rfl,to,fun _=>ct,fun q hh=>hh=h6∧((decide (1≤fr) && decide (fr≤3))=true→q=(decide (1≤to) && decide (to≤3))),?_,fun hq=>(holds_spec to h6).mono ?_,fun hq=>⟨true,rfl,fun q=>by rw [q] at hq; cases hq⟩⟩
  ·rintro q hh ⟨rfl,hq⟩
   refine⟨fr,fun _=>cf,h3.size,0,fun _=>rfl,to,fun _=>ct,fun hb'=>?_,fun hb'=>?_⟩
   ·refine done ?_
    unfold pGive; rw [hx]
    simp only
    rw [if_pos]
    cases hf:(decide (1≤fr) && decide (fr≤3)) with
    | false=>left; simp at hf; omega
    | true=>
     rw [hq hf] at hb'
     rw [hf] at hb'
     right
     simp only [Bool.not_true,Bool.false_or,Bool.or_eq_true,Bool.not_eq_true',Bool.and_eq_false_iff,decide_eq_false_iff_not,decide_eq_true_eq] at hb'
     omega
   ·have hf:(decide (1≤fr) && decide (fr≤3))=true:=by
     cases hf:(decide (1≤fr) && decide (fr≤3)) with
     | true=>rfl
     | false=>rw [hf] at hb'; simp at hb'
    rw [hq hf,hf] at hb'
    simp only [Bool.not_true,Bool.false_or,Bool.or_eq_false_iff,Bool.not_eq_false',Bool.and_eq_true,decide_eq_true_eq,decide_eq_false_iff_not] at hb'
    simp only [Bool.and_eq_true,decide_eq_true_eq] at hf
    refine⟨b,0,rfl,x.owner,cell_lst g1 rfl,fr,cf,fun hne=>?_,fun heq=>⟨h3.size,0,rfl,to,ct,?_⟩⟩
    ·refine done ?_
     unfold pGive; rw [hx]
     simp only
     rw [if_neg (by omega),if_pos hne]
    ·have e:pGive L s g fr to=(0,L.set s.toNat { x with owner:=to }):=by
      unfold pGive; rw [hx]
      simp only
      rw [if_neg (by omega),if_neg (by omega)]
     obtain⟨h7,s1,s2,s3,s4⟩:=st_ex (o:=0+1) [.int .i64 to] g1 (by simp [bufV]) (by simp [Value.oneCell'])
     refine⟨h7,s1,0,rfl,by rw [e],⟨by have:=xx.1; omega,fun y hy hn=>?_⟩,?_⟩
     ·rw [s3 y (fun q=>hn (q ▸ R.own.2.2.1 b (List.mem_of_getElem? hb))),xx.2 y hy]
     ·rw [e]
      refine PoolS.grow ⟨la,lc,bl,rl,R6.setHead hL hb hr rfl ?_ s3 s4⟩ (by have:=xx.1; omega) bnd
      rw [s2]; rfl
  ·rintro _ h6 ⟨rfl,rfl⟩
   exact⟨_,rfl,rfl,fun _=>rfl⟩
 ·rintro v h' ⟨c,rfl,rfl,H⟩
  exact⟨_,rfl,rfl,H⟩
def pOwner (L:List Buf) (s g:Int):Int × Int × Int:=match bufAt L s g with
 | none=>(0,0,3)
 | some x=>(x.owner,x.refs,0)
theorem owner_spec (RS:PoolS Own h pb L) (s g:Int) :
  CallsH PR Glv #[.pointer (some ⟨pb,0,none⟩),.agg #[.int .i64 s,.int .u64 g]] h
   (fun v h'=>v = .tuple #[.int .i64 (pOwner L s g).1,.int .i64 (pOwner L s g).2.1,.int .i64 (pOwner L s g).2.2]∧Ext h h'):=by
 have bnd:=RS.bnd
 obtain⟨la,lc,bl,rl,R⟩:=RS
 apply Gdj
 unfold Gdg
 intro h1 e1 h3 e3 h5 e5
 obtain⟨a1,a2,a3⟩:=push_get e1
 obtain⟨b1,b2,b3⟩:=push_get e3
 obtain⟨c1,c2,c3⟩:=push_get e5
 obtain⟨h8,s1,s2,s3,s4⟩:=st_ex (o:=0) [.int .i64 0] (c2.get b1) (by simp) (by simp [Value.oneCell'])
 have c1':h8[h3.size]? = some (.cells #[.int .i64 0] 3 (0,0)):=by rw [s3 _ (by omega)]; exact c1
 obtain⟨h10,t1,t2,t3,t4⟩:=st_ex (o:=0) [.int .i64 0] c1' (by simp) (by simp [Value.oneCell'])
 have x10:Ext h h10:=⟨by omega,fun y hy=>by rw [t3 y (by omega),s3 y (by omega),c2.2 y (by omega),b2.2 y (by omega),a2.2 y hy]⟩
 have s2':h10[h1.size]? = some (.cells #[.int .i64 0] 3 (0,0)):=by rw [t3 _ (by omega),s2]; rfl
 have t2':h10[h3.size]? = some (.cells #[.int .i64 0] 3 (0,0)):=by rw [t2]; rfl
 have k1:h10[h.size]? = some (.cells #[.int .i64 s,.int .u64 g] 39 (0,0)):=by rw [t3 _ (by omega),s3 _ (by omega)]; exact c2.get (b2.get a1)
 have R10:=R.ext x10
 refine⟨h8,s1,h10,t1,s,g,ld_lst k1 2 0 (by simp),?_⟩
 refine (with_spec R10 s g _ (K:=fun c h'=>c=(pOwner L s g).2.2∧Ext h h'∧cellH h' h1.size 0=some (.int .i64 (pOwner L s g).1)∧cellH h' h3.size 0=some (.int .i64 (pOwner L s g).2.1)) (fun h6 x6 hn=>?_) (fun h6 x b r x6 hx hL hb hr=>?_)).mono ?_
 ·have e:pOwner L s g=(0,0,3):=by unfold pOwner; rw [hn]
  rw [e]
  exact⟨rfl,x10.trans x6,cell_lst (x6.get s2') rfl,cell_lst (x6.get t2') rfl⟩
 ·have e:pOwner L s g=(x.owner,x.refs,0):=by unfold pOwner; rw [hx]
  rw [e]
  have R6:=R10.ext x6
  refine⟨Glw,[],[.pointer (some ⟨h1.size,0,none⟩),.pointer (some ⟨h3.size,0,none⟩)],rfl,en_92,?_⟩
  apply Gdi
  unfold Gdh
  obtain⟨g1,g2⟩:=R6.buf _ _ _ _ hb hr hL
  have hbl:b<h.size:=bnd b (R.own.2.2.1 b (List.mem_of_getElem? hb))
  have z6:=x6.1
  obtain⟨h12,u1,u2,u3,u4⟩:=st_ex (o:=0) [.int .i64 x.owner] (x6.get s2') (by simp) (by simp [Value.oneCell'])
  have g1':h12[b]? = some (.cells (List.toArray (bufV x r)) ty_pool_buffer (0,0)):=by rw [u3 _ (by omega)]; exact g1
  have t2'':h12[h3.size]? = some (.cells #[.int .i64 0] 3 (0,0)):=by rw [u3 _ (by omega)]; exact x6.get t2'
  obtain⟨h14,v1,v2,v3,v4⟩:=st_ex (o:=0) [.int .i64 x.refs] t2'' (by simp) (by simp [Value.oneCell'])
  refine⟨b,0,rfl,x.owner,cell_lst g1 rfl,x.refs,cell_lst g1 rfl,_,_,rfl,h12,u1,cell_lst g1' rfl,_,_,rfl,h14,v1,0,rfl,rfl,⟨by omega,fun y hy=>by rw [v3 y (by omega),u3 y (by omega),x6.2 y (by omega),x10.2 y hy]⟩,?_,cell_lst v2 rfl⟩
  rw [cell_congr (v3 _ (by omega))]; exact cell_lst u2 rfl
 ·rintro v h' ⟨c,rfl,rfl,x',q1,q2⟩
  exact⟨_,rfl,_,q1,_,q2,rfl,x'⟩
def pSize (L:List Buf) (s g:Int):Int × Int:=match bufAt L s g with
 | none=>(0,3)
 | some x=>((x.b.length:Nat),0)
theorem size_spec (RS:PoolS Own h pb L) (s g:Int) :
  CallsH PR Glz #[.pointer (some ⟨pb,0,none⟩),.agg #[.int .i64 s,.int .u64 g]] h
   (fun v h'=>v = .tuple #[.int .i64 (pSize L s g).1,.int .i64 (pSize L s g).2]∧Ext h h'):=by
 have bnd:=RS.bnd
 obtain⟨la,lc,bl,rl,R⟩:=RS
 apply Gdr
 unfold Gdo
 intro h1 e1 h3 e3
 obtain⟨a1,a2,a3⟩:=push_get e1
 obtain⟨b1,b2,b3⟩:=push_get e3
 obtain⟨h8,s1,s2,s3,s4⟩:=st_ex (o:=0) [.int .i64 0] b1 (by simp) (by simp [Value.oneCell'])
 have x8:Ext h h8:=⟨by omega,fun y hy=>by rw [s3 y (by omega),b2.2 y (by omega),a2.2 y hy]⟩
 have s2':h8[h1.size]? = some (.cells #[.int .i64 0] 3 (0,0)):=by rw [s2]; rfl
 have k1:h8[h.size]? = some (.cells #[.int .i64 s,.int .u64 g] 39 (0,0)):=by rw [s3 _ (by omega)]; exact b2.get a1
 have R8:=R.ext x8
 refine⟨h8,s1,s,g,ld_lst k1 2 0 (by simp),?_⟩
 refine (with_spec R8 s g _ (K:=fun c h'=>c=(pSize L s g).2∧Ext h h'∧cellH h' h1.size 0=some (.int .i64 (pSize L s g).1)) (fun h6 x6 hn=>?_) (fun h6 x b r x6 hx hL hb hr=>?_)).mono ?_
 ·have e:pSize L s g=(0,3):=by unfold pSize; rw [hn]
  rw [e]
  exact⟨rfl,x8.trans x6,cell_lst (x6.get s2') rfl⟩
 ·have e:pSize L s g=(((x.b.length:Nat):Int),0):=by unfold pSize; rw [hx]
  rw [e]
  have R6:=R8.ext x6
  refine⟨Gm0,[],[.pointer (some ⟨h1.size,0,none⟩)],rfl,en_112,?_⟩
  apply Gdq
  unfold Gdp
  obtain⟨g1,g2⟩:=R6.buf _ _ _ _ hb hr hL
  have z6:=x6.1
  obtain⟨h12,u1,u2,u3,u4⟩:=st_ex (o:=0) [.int .i64 x.b.length] (x6.get s2') (by simp) (by simp [Value.oneCell'])
  refine⟨b,0,rfl,_,_,_,cell_lst g1 rfl,_,_,rfl,h12,u1,0,rfl,rfl,⟨by omega,fun y hy=>by rw [u3 y (by omega),x6.2 y (by omega),x8.2 y hy]⟩,cell_lst u2 rfl⟩
 ·rintro v h' ⟨c,rfl,rfl,x',q1⟩
  exact⟨_,rfl,_,q1,rfl,x'⟩
end
end Go.Proofs.Vf
namespace Go.Proofs.Vf
open Go Go.Proofs Go.VC
def splice (b:List Int) (o:Nat) (bs:List Int):List Int:=b.take o ++ bs ++ b.drop (o+bs.length)
theorem splice_length {b bs:List Int} {o:Nat} (h:o+bs.length≤b.length):(splice b o bs).length=b.length:=by
 simp [splice]; omega
theorem splice_map {b bs:List Int} {o:Nat} (f:Int→Value):(splice b o bs).map f=spl (b.map f) o (bs.map f):=by
 simp [splice,spl,List.map_take,List.map_drop]
theorem oneCell_u8 (bs:List Int) : ∀ v∈bs.map u8,v.oneCell'=true:=by
 intro v hv
 obtain⟨x,_,rfl⟩:=List.mem_map.1 hv
 rfl
def pWrite (L:List Buf) (s g by_ o:Int) (bs:List Int):Int × List Buf:=match bufAt L s g with
 | none=>(3,L)
 | some x=>if ¬ (1≤by_∧by_≤3) then (1,L) else if x.owner≠by_ then (8,L) else if o<0∨x.b.length<o∨(x.b.length:Int) - o<bs.length then (1,L) else (0,L.set s.toNat { x with b:=splice x.b o.toNat bs })
def pRead (L:List Buf) (s g o n:Int):Int × List Int:=match bufAt L s g with
 | none=>(3,[])
 | some x=>if o<0∨n<0∨x.b.length<o∨(x.b.length:Int) - o<n then (1,[]) else (0,(x.b.drop o.toNat).take n.toNat)
section
variable {Own:Nat→Prop} {h:Heap} {pb:Nat} {L:List Buf}
theorem write_spec (RS:PoolS Own h pb L) (s g by_ o:Int) {a:Option Addr} {n c:Nat} {bs:List Int} (hn:n=bs.length) (hbs:firstH h 1 n (.slice a n c)=some (bs.map u8)) (ho : -4611686018427387904≤o∧o<4611686018427387904) :
  CallsH PR Gm1 #[.pointer (some ⟨pb,0,none⟩),.agg #[.int .i64 s,.int .u64 g],.int .i64 by_,.int .i64 o,.slice a n c] h
   (fun v h'=>v = .int .i64 (pWrite L s g by_ o bs).1∧Ch Own h h'∧PoolS (Grow Own h h') h' pb (pWrite L s g by_ o bs).2):=by
 have bnd:=RS.bnd
 obtain⟨la,lc,bl,rl,R⟩:=RS
 subst hn
 apply Gdv
 unfold Gds
 intro h1 e1 h3 e3 h5 e5 h7 e7
 obtain⟨a1,a2,a3⟩:=push_get e1
 obtain⟨b1,b2,b3⟩:=push_get e3
 obtain⟨c1,c2,c3⟩:=push_get e5
 obtain⟨d1,d2,d3⟩:=push_get e7
 have x7:=((a2.trans b2).trans c2).trans d2
 have R7:=R.ext x7
 have k1:h7[h.size]? = some (.cells #[.int .i64 s,.int .u64 g] 39 (0,0)):=d2.get (c2.get (b2.get a1))
 refine⟨s,g,ld_lst k1 2 0 (by simp),?_⟩
 refine (with_spec R7 s g _ (K:=fun r h'=>r=(pWrite L s g by_ o bs).1∧Ch Own h h'∧PoolS (Grow Own h h') h' pb (pWrite L s g by_ o bs).2) (fun h6 x6 hn=>?_) (fun h6 x b r x6 hx hL hb hr=>?_)).mono ?_
 ·have e:pWrite L s g by_ o bs=(3,L):=by unfold pWrite; rw [hn]
  rw [e]
  have xx:=x7.trans x6
  exact⟨rfl,xx.ch,PoolS.grow ⟨_,_,_,_,R.ext xx⟩ xx.1 bnd⟩
 ·have xx:=x7.trans x6
  have R6:=R.ext xx
  refine⟨Gm2,[],[.pointer (some ⟨h1.size,0,none⟩),.pointer (some ⟨h3.size,0,none⟩),.pointer (some ⟨h5.size,0,none⟩)],rfl,en_147,?_⟩
  apply Gdu
  unfold Gdt
  have cf:cellH h6 h1.size 0=some (.int .i64 by_):=cell_lst (x6.get (d2.get (c2.get b1))) rfl
  have co:cellH h6 h3.size 0=some (.int .i64 o):=cell_lst (x6.get (d2.get c1)) rfl
  have cb:cellH h6 h5.size 0=some (.slice a bs.length c):=cell_lst (x6.get d1) rfl
  obtain⟨g1,g2⟩:=R6.buf _ _ _ _ hb hr hL
  have cx:cellH h6 b (0+3)=some (.slice (some ⟨r,0,none⟩) x.b.length x.b.length):=cell_lst g1 rfl
  have hsz:=R6.sz x (List.mem_of_getElem? hL)
  have done : ∀ {c:Int},pWrite L s g by_ o bs=(c,L)→∃ c',Value.int .i64 c = .int .i64 c'∧c'=(pWrite L s g by_ o bs).1∧Ch Own h h6∧PoolS (Grow Own h h6) h6 pb (pWrite L s g by_ o bs).2:=fun e=>by
   rw [e]; exact⟨_,rfl,rfl,xx.ch,PoolS.grow ⟨_,_,_,_,R6⟩ xx.1 bnd⟩
  have hw:IntKind.i64.wrap ((x.b.length:Int) - o)=(x.b.length:Int) - o:=wrap_i64 (by omega)
  refine⟨_,_,rfl,by_,cf,(holds_spec by_ h6).mono ?_⟩
  rintro _ h6 ⟨rfl,rfl⟩
  refine⟨_,rfl,fun hq=>done ?_,fun hq=>?_⟩
  ·unfold pWrite; rw [hx]
   simp only
   rw [if_pos]
   simp at hq; omega
  ·simp only [Bool.and_eq_true,decide_eq_true_eq] at hq
   refine⟨b,0,rfl,x.owner,cell_lst g1 rfl,by_,cf,fun hne=>done ?_,fun heq=>?_⟩
   ·unfold pWrite; rw [hx]
    simp only
    rw [if_neg (by omega),if_pos hne]
   ·refine⟨_,_,rfl,o,co,o,fun _=>co,_,_,_,fun _=>cx,_,_,fun _=>rfl,_,_,_,fun _=>cb,_,_,_,fun _=>cx,o,fun _=>co,fun hc=>done ?_,fun hc=>?_⟩
    ·rw [hw] at hc
     simp only [Bool.or_eq_true,decide_eq_true_eq] at hc
     unfold pWrite; rw [hx]
     simp only
     rw [if_neg (by omega),if_neg (by omega),if_pos (by omega)]
    ·rw [hw] at hc
     simp only [Bool.or_eq_false_iff,decide_eq_false_iff_not] at hc
     obtain⟨m,rfl⟩:=Int.eq_ofNat_of_zero_le (show 0≤o by omega)
     have hfit:m+bs.length≤x.b.length:=by omega
     have e:pWrite L s g by_ m bs=(0,L.set s.toNat { x with b:=splice x.b m bs }):=by
      unfold pWrite; rw [hx]
      simp only
      rw [if_neg (by omega),if_neg (by omega),if_neg (by omega),Int.toNat_natCast]
     refine⟨_,_,_,cx,m,co,m,rfl,⟨by omega,by omega,by omega⟩,_,_,rfl,_,_,_,cb,bs.length,?_⟩
     have hmin:min bs.length (x.b.length - m)=bs.length:=by omega
     have hf6:firstH h6 1 (min bs.length (x.b.length - m)) (.slice a bs.length c)=some (bs.map u8):=by
      rw [hmin]; exact firstH_ext xx hbs
     have hlm:(x.b.map u8).length=x.b.length:=List.length_map _
     have hz:=xx.1
     obtain⟨h52,s1,s2,s3,s4⟩:=st_ex (o:=m) (bs.map u8) g2 (by simp; omega) (oneCell_u8 bs)
     have fin : ∀ h',Ch Own h h'→PoolP Own h' pb (L.set s.toNat { x with b:=splice x.b m bs }) la lc bl rl→∃ c',Value.int .i64 0 = .int .i64 c'∧c'=(pWrite L s g by_ m bs).1∧Ch Own h h'∧PoolS (Grow Own h h') h' pb (pWrite L s g by_ m bs).2:=fun h' ch P'=>by
      rw [e]; exact⟨0,rfl,rfl,ch,PoolS.grow ⟨_,_,_,_,P'⟩ ch.1 bnd⟩
     have hch:Ch Own h h52:=⟨by omega,fun y hy hn=>by rw [s3 y (fun q=>hn (q ▸ R.own.2.2.2 r (List.mem_of_getElem? hr))),xx.2 y hy]⟩
     have P52:PoolP Own h52 pb (L.set s.toNat { x with b:=splice x.b m bs }) la lc bl rl:=R6.setRow hL hb hr ⟨rfl,rfl,rfl,splice_length hfit⟩ (by rw [s2,splice_map]) s3 s4
     refine⟨h52,⟨bs.map u8,rfl,hf6,.inr ?_⟩,fin h52 hch P52⟩
     by_cases hme:x.b.length=m
     ·have hb0:bs = []:=by
       have:bs.length=0:=by omega
       exact List.eq_nil_of_length_eq_zero this
      subst hb0
      refine⟨r,0,by unfold cutA; rw [if_pos hme],?_⟩
      simp only [List.map_nil,stCells] at s1 ⊢
      exact s1
     ·refine⟨r,m,?_,s1⟩
      unfold cutA
      rw [if_neg hme,Nat.mul_one]
      simp [Addr.add]
      omega
 ·rintro v h' ⟨c,rfl,rfl,H⟩
  exact⟨_,rfl,rfl,H⟩
theorem bclone_spec {e:TypeId} {h:Heap} {a:Option Addr} {n c:Nat} {vs:List Value} (s:Sl h e 1 a n c vs) (hn:n≤1000000) (h1 : ∀ v∈vs,v.oneCell'=true) :
  CallsH PR Ghl #[.slice a n c] h (fun v h'=>∃ a' c',v = .slice a' n c'∧Ext h h'∧Sl h' ty_uint8 1 a' n c' vs∧∀ y,blkOf a' y→h.size≤y):=by
 apply Ga1
 unfold Ga0
 refine⟨fun hq=>?_,fun hq h2 e2=>?_⟩
 ·have ha:a=none:=by simpa using hq
  subst ha
  rcases s.2 with⟨_,rfl,rfl⟩ | ⟨b,o,cur,q,_⟩
  ·have:=s.1; simp at this; subst this
   exact⟨none,0,rfl,Ext.refl _,Sl.nil _ _ _,fun y hy=>absurd hy not_blkOf_none⟩
  ·cases q
 ·obtain⟨p1,p2,p3⟩:=push_get e2
  refine⟨n,vs,(s.ext p2).firstB,?_⟩
  have s0:Sl h2 ty_uint8 1 (some ⟨h.size,0,none⟩) 0 0 []:=Sl.of_blk p1 rfl
  have key:=s0.app_fresh (K:=fun a' n' c' h'=>∃ a'' c'',Value.slice a' n' c' = .slice a'' n c''∧Ext h h'∧Sl h' ty_uint8 1 a'' n c'' vs∧∀ y,blkOf a'' y→h.size≤y) (by_:=1) (z:=.int .u8 0) (m:=n) (news:=vs) p2 (fun y hy=>by rw [blkOf_some] at hy; omega) (by have:=s.1; omega) h1 rfl ⟨by omega,by omega,by omega⟩ ?_
  ·exact key
  ·intro a' c' h' s' x' f'
   rw [Nat.zero_add,List.nil_append] at s'
   exact⟨a',c',by rw [Nat.zero_add],x',s',f'⟩
theorem read_spec (RS:PoolS Own h pb L) (s g o n:Int) (ho : -4611686018427387904≤o∧o<4611686018427387904) :
  CallsH PR Glx #[.pointer (some ⟨pb,0,none⟩),.agg #[.int .i64 s,.int .u64 g],.int .i64 o,.int .i64 n] h
   (fun v h'=>∃ a c,v = .tuple #[.slice a (pRead L s g o n).2.length c,.int .i64 (pRead L s g o n).1]∧Ext h h'∧Sl h' ty_uint8 1 a (pRead L s g o n).2.length c ((pRead L s g o n).2.map u8)∧∀ y,blkOf a y→h.size≤y):=by
 have bnd:=RS.bnd
 obtain⟨la,lc,bl,rl,R⟩:=RS
 apply Gdn
 unfold Gdk
 intro h1 e1 h3 e3 h5 e5 h7 e7
 obtain⟨a1,a2,a3⟩:=push_get e1
 obtain⟨b1,b2,b3⟩:=push_get e3
 obtain⟨c1,c2,c3⟩:=push_get e5
 obtain⟨d1,d2,d3⟩:=push_get e7
 have x7:=((a2.trans b2).trans c2).trans d2
 have R7:=R.ext x7
 have k1:h7[h.size]? = some (.cells #[.int .i64 s,.int .u64 g] 39 (0,0)):=d2.get (c2.get (b2.get a1))
 refine⟨s,g,ld_lst k1 2 0 (by simp),?_⟩
 refine (with_spec R7 s g _ (K:=fun r h'=>r=(pRead L s g o n).1∧Ext h h'∧∃ a c,cellH h' h5.size 0=some (.slice a (pRead L s g o n).2.length c)∧Sl h' ty_uint8 1 a (pRead L s g o n).2.length c ((pRead L s g o n).2.map u8)∧∀ y,blkOf a y→h.size≤y) (fun h6 x6 hn=>?_) (fun h6 x b r x6 hx hL hb hr=>?_)).mono ?_
 ·have e:pRead L s g o n=(3,[]):=by unfold pRead; rw [hn]
  rw [e]
  exact⟨rfl,x7.trans x6,none,0,cell_lst (x6.get d1) rfl,Sl.nil _ _ _,fun y hy=>absurd hy not_blkOf_none⟩
 ·have xx:=x7.trans x6
  have R6:=R.ext xx
  refine⟨Gly,[],[.pointer (some ⟨h1.size,0,none⟩),.pointer (some ⟨h3.size,0,none⟩),.pointer (some ⟨h5.size,0,none⟩)],rfl,en_83,?_⟩
  apply Gdm
  unfold Gdl
  have co:cellH h6 h1.size 0=some (.int .i64 o):=cell_lst (x6.get (d2.get (c2.get b1))) rfl
  have cn:cellH h6 h3.size 0=some (.int .i64 n):=cell_lst (x6.get (d2.get c1)) rfl
  have kb:=x6.get d1
  obtain⟨g1,g2⟩:=R6.buf _ _ _ _ hb hr hL
  have cx:cellH h6 b (0+3)=some (.slice (some ⟨r,0,none⟩) x.b.length x.b.length):=cell_lst g1 rfl
  have hsz:=R6.sz x (List.mem_of_getElem? hL)
  have hw:IntKind.i64.wrap ((x.b.length:Int) - o)=(x.b.length:Int) - o:=wrap_i64 (by omega)
  refine⟨_,_,rfl,o,co,_,_,fun _=>rfl,n,fun _=>cn,o,fun _=>co,b,0,fun _=>rfl,_,_,_,fun _=>cx,_,_,fun _=>rfl,n,fun _=>cn,b,0,fun _=>rfl,_,_,_,fun _=>cx,o,fun _=>co,fun hc=>?_,fun hc=>?_⟩
  ·rw [hw] at hc
   simp only [Bool.or_eq_true,decide_eq_true_eq] at hc
   have e:pRead L s g o n=(1,[]):=by unfold pRead; rw [hx]; simp only; rw [if_pos (by omega)]
   rw [e]
   exact⟨_,rfl,rfl,xx,none,0,cell_lst kb rfl,Sl.nil _ _ _,fun y hy=>absurd hy not_blkOf_none⟩
  ·rw [hw] at hc
   simp only [Bool.or_eq_false_iff,decide_eq_false_iff_not] at hc
   obtain⟨m,rfl⟩:=Int.eq_ofNat_of_zero_le (show 0≤o by omega)
   obtain⟨k,rfl⟩:=Int.eq_ofNat_of_zero_le (show 0≤n by omega)
   have e:pRead L s g m k=(0,(x.b.drop m).take k):=by unfold pRead; rw [hx]; simp only; rw [if_neg (by omega)]; simp
   rw [e]
   have hl:((x.b.drop m).take k).length=k:=by simp; omega
   refine⟨b,0,rfl,_,_,_,cx,m,co,m,co,_,_,rfl,k,cn,⟨by omega,by omega⟩,m,rfl,m+k,by simp,⟨by omega,by omega,by omega⟩,?_⟩
   have sx:Sl h6 ty_uint8 1 (some ⟨r,0,none⟩) x.b.length x.b.length (x.b.map u8):=Sl.of_blk g2 (by simp)
   have s1:=(sx.take (i:=m+k) (by omega)).drop (i:=m) (by omega)
   have ea:cutA (cutA (some ⟨r,0,none⟩) 0 x.b.length 1) m x.b.length 1=cutA (some ⟨r,0,none⟩) m x.b.length 1:=by
    congr 1
    unfold cutA; split
    ·rfl
    ·simp [Addr.add]
   rw [ea] at s1
   have ev:((x.b.map u8).take ((m+k) * 1)).drop (m * 1)=((x.b.drop m).take k).map u8:=by
    rw [Nat.mul_one,Nat.mul_one,← List.map_take,← List.map_drop,List.drop_take]
    congr 2; omega
   rw [ev] at s1
   refine (bclone_spec s1 (by omega) (oneCell_u8 _)).mono ?_
   rintro _ h55 ⟨a',c',rfl,x55,s55,f55⟩
   have hmk:m+k - m=k:=by omega
   rw [hmk] at s55 ⊢
   have z6:=xx.1
   have hkb:=lt_of_get kb
   obtain⟨h62,u1,u2,u3,u4⟩:=st_ex (o:=0) [.slice a' k c'] (x55.get kb) (by simp) (by simp [Value.oneCell'])
   refine⟨_,_,_,rfl,_,_,rfl,h62,u1,0,rfl,rfl,⟨by have:=x55.1; omega,fun y hy=>by rw [u3 y (by omega),x55.2 y (by omega),xx.2 y hy]⟩,a',c',?_,?_,fun y hy=>by have:=f55 y hy; omega⟩
   ·rw [hl]; exact cell_lst u2 rfl
   ·rw [hl]; exact s55.keep fun y _ hy=>u3 y (by have:=f55 y hy; omega)
 ·rintro v h' ⟨c,rfl,rfl,x',a,c',q1,q2,q3⟩
  exact⟨_,rfl,_,_,_,q1,a,c',rfl,x',q2,q3⟩
end
end Go.Proofs.Vf
namespace Go.VC
theorem madeCells_one (v:Value) (n:Nat):madeCells #[v] n=(List.replicate n v).toArray:=by
 apply Array.ext_getElem?
 intro i
 unfold madeCells
 simp only [Array.getElem?_map,Array.getElem?_range,List.getElem?_toArray,List.getElem?_replicate]
 by_cases hi:i<n
 ·simp [hi,Nat.mod_one]
 ·simp [hi]
end Go.VC
namespace Go.Proofs.Vf
open Go Go.Proofs Go.VC
abbrev Cls:=Int × Int
def clsV (c:Cls):List Value:=[.int .i64 c.1,.int .i64 c.2]
def flatC (l:List Cls):List Value:=l.flatMap clsV
theorem flatC_get {l:List Cls} {i:Nat} {c:Cls} (h:l[i]? = some c):(flatC l)[i * 2]? = some (.int .i64 c.1)∧(flatC l)[i * 2+1]? = some (.int .i64 c.2):=by
 induction l generalizing i with
 | nil=>simp at h
 | cons a l ih=>
  cases i with
  | zero=>simp at h; subst h; exact⟨rfl,rfl⟩
  | succ i=>
   have:=ih (i:=i) (by simpa using h)
   have e1:(i+1) * 2=i * 2+1+1:=by omega
   rw [e1]
   simpa [flatC,clsV] using this
theorem Sl_cls {h:Heap} {e:Nat} {a:Option Addr} {n c:Nat} {l:List Cls} (s:Sl h e 2 a n c (flatC l)) {i:Nat} {x:Cls} (hx:l[i]? = some x) : ∃ b o,a=some ⟨b,o,none⟩∧ldCells h b (o+i * 2) 2=some [.int .i64 x.1,.int .i64 x.2]:=by
 obtain⟨g1,g2⟩:=flatC_get hx
 obtain⟨b,o,rfl,c1⟩:=s.get g1
 obtain⟨b',o',e',c2⟩:=s.get g2
 cases e'
 exact⟨b,o,rfl,ldCells_cons c1 (ldCells_cons (by rw [Nat.add_assoc]; exact c2) rfl)⟩
def mayFrom (last:Int):List Cls→Bool
 | []=>true
 | c :: r=>if c.1≤last∨65536<c.1∨c.2<1∨100<c.2 then false else mayFrom c.1 r
def mayC (l:List Cls):Bool:=mayFrom 0 l && decide (1≤l.length) && decide (l.length≤8)
theorem cmay_spec {h:Heap} {e:Nat} {a:Option Addr} {n c:Nat} {l:List Cls} (s:Sl h e 2 a n c (flatC l)) (hn:n=l.length) (hb:n<1000000) :
  CallsH PR Glp #[.slice a n c] h (fun v h'=>v = .bool (mayC l)∧Ext h h'):=by
 apply Gd7
 unfold Gd6
 refine⟨fun last i hh=>Ext h hh∧0≤i∧i≤n∧mayFrom last (l.drop i.toNat)=mayFrom 0 l,fun _ i _=>(n - i).toNat,⟨Ext.refl _,by omega,by omega,rfl⟩,?_⟩
 rintro last i hh ⟨xx,i0,i1,hm⟩
 refine⟨fun hlt=>?_,fun hge=>?_⟩
 ·obtain⟨x,hx⟩ : ∃ x,l[i.toNat]? = some x:=⟨_,List.getElem?_eq_getElem (by omega)⟩
  obtain⟨b,o,rfl,ld⟩:=Sl_cls (s.ext xx) hx
  refine⟨b,o,rfl,⟨i0,hlt⟩,x.1,x.2,ld,?_⟩
  intro h14 e14
  obtain⟨h17,s1,s2,s3,s4⟩:=st_tmp (zs:=[_,_]) e14 [.int .i64 x.1,.int .i64 x.2] rfl (by simp [Value.oneCell'])
  have d:l.drop i.toNat=x :: l.drop (i.toNat+1):=by
   have hk:=(List.getElem?_eq_some_iff.1 hx).1
   rw [List.drop_eq_getElem_cons hk]; congr 1
   rw [List.getElem?_eq_getElem hk] at hx; exact Option.some.inj hx
  have c0:cellH h17 hh.size 0=some (.int .i64 x.1):=cell_lst s2 rfl
  have c1:cellH h17 hh.size 1=some (.int .i64 x.2):=cell_lst s2 rfl
  have e1:(i+1).toNat=i.toNat+1:=by omega
  refine⟨h17,s1,x.1,c0,x.1,fun _=>c0,x.2,fun _=>c1,x.2,fun _=>c1,fun hc=>⟨?_,xx.trans s3⟩,fun hc=>⟨x.1,c0,⟨by omega,by omega⟩,⟨xx.trans s3,by omega,by omega,?_⟩,by dsimp only; omega⟩⟩
  ·rw [d] at hm
   unfold mayC
   rw [← hm]
   simp only [Bool.or_eq_true,decide_eq_true_eq] at hc
   simp only [mayFrom]
   rw [if_pos (by omega)]; rfl
  ·rw [d] at hm
   simp only [Bool.or_eq_false_iff,decide_eq_false_iff_not] at hc
   simp only [mayFrom] at hm
   rw [if_neg (by omega)] at hm
   rw [e1]; exact hm
 ·refine⟨?_,xx⟩
  have:l.drop i.toNat = []:=List.drop_eq_nil_of_le (by omega)
  rw [this] at hm
  simp only [mayFrom] at hm
  unfold mayC
  rw [← hm,hn,show decide (1≤(l.length:Int))=decide (1≤l.length) from decide_eq_decide.2 (by omega),show decide ((l.length:Int)≤8)=decide (l.length≤8) from decide_eq_decide.2 (by omega)]
  simp
def bufs (c:Cls):List Buf:=List.replicate c.2.toNat ⟨1,0,0,List.replicate c.1.toNat 0⟩
def newL (l:List Cls):List Buf:=l.flatMap bufs
theorem mayFrom_mem {last:Int} {l:List Cls} (h0:0≤last) (h:mayFrom last l=true) : ∀ x∈l,0<x.1∧x.1≤65536∧1≤x.2∧x.2≤100:=by
 induction l generalizing last with
 | nil=>intro x hx; cases hx
 | cons a l ih=>
  simp only [mayFrom] at h
  split at h
  ·cases h
  ·intro x hx
   rcases List.mem_cons.1 hx with rfl | hx
   ·omega
   ·exact ih (by omega) h x hx
theorem newL_len {l:List Cls} (h : ∀ x∈l,x.2≤100):(newL l).length≤l.length * 100:=by
 induction l with
 | nil=>simp [newL]
 | cons a l ih=>
  have h1:=h a (by simp)
  have:=ih fun x hx=>h x (by simp [hx])
  simp only [newL,List.flatMap_cons,List.length_append,List.length_cons,bufs,List.length_replicate] at *
  omega
abbrev Since (h hh:Heap):Nat→Prop:=fun y=>h.size≤y∧y<hh.size
section
variable {h:Heap} {pb:Nat}
theorem PoolP.mono {Own Own':Nat→Prop} {h:Heap} {L:List Buf} {la:Option Addr} {lc:Nat} {bl rl:List Nat} (R:PoolP Own h pb L la lc bl rl) (hm : ∀ y,Own y→Own' y) (hb : ∀ y,Own' y→y<h.size):PoolP Own' h pb L la lc bl rl:=
 {R with
  own:=⟨hm _ R.own.1,fun y hy=>hm y (R.own.2.1 y hy),fun y hy=>hm y (R.own.2.2.1 y hy),fun y hy=>hm y (R.own.2.2.2 y hy)⟩
  bnd:=hb }
theorem pnew_spec {e:Nat} {a:Option Addr} {n c:Nat} {l:List Cls} (s:Sl h e 2 a n c (flatC l)) (hn:n=l.length) (hb:n<1000000) (hm:mayC l=true) :
  CallsH PR Glq #[.slice a n c] h (fun v h'=>∃ pb,v = .tuple #[.pointer (some ⟨pb,0,none⟩),.int .i64 0]∧Ext h h'∧PoolS (Since h h') h' pb (newL l)):=by
 have hmm:=hm
 unfold mayC at hmm
 simp only [Bool.and_eq_true,decide_eq_true_eq] at hmm
 obtain⟨⟨hm1,hm2⟩,hm3⟩:=hmm
 have hmem:=mayFrom_mem (Int.le_refl 0) hm1
 apply Gd9
 unfold Gd8
 refine (cmay_spec s hn hb).mono ?_
 rintro _ h1 ⟨rfl,x1⟩
 refine⟨mayC l,rfl,fun q=>(by rw [hm] at q; cases q),fun _ h4 e4=>?_⟩
 obtain⟨p1,p2,p3⟩:=push_get e4
 have z1:=x1.1
 have P4:PoolP (Since h h4) h4 h1.size [] none 0 [] []:=
  {blk:=p1,row:=Sl.nil _ _ _,lb:=rfl,lr:=rfl,buf:=fun i b r x hb=>(by simp at hb),nb:=List.nodup_nil,nr:=List.nodup_nil,own:=⟨⟨by omega,by omega⟩,fun y hy=>absurd hy not_blkOf_none,fun y hy=>(by cases hy),fun y hy=>(by cases hy)⟩,bnd:=fun y hy=>hy.2,len:=by simp,sz:=fun x hx=>(by cases hx) }
 have tot : ∀ k m:Nat,k<l.length→m≤100→(newL (l.take k)).length+m≤1000:=fun k m hk hm'=>by
  have:=newL_len (l:=l.take k) fun x hx=>(hmem x (List.mem_of_mem_take hx)).2.2.2
  rw [List.length_take] at this
  have:min k l.length=k:=by omega
  rw [this] at *
  omega
 refine⟨fun i hh=>Ext h hh∧0≤i∧i≤n∧PoolS (Since h hh) hh h1.size (newL (l.take i.toNat)),fun i _=>(n - i).toNat,⟨x1.trans p2,by omega,by omega,⟨none,0,[],[],P4⟩⟩,?_⟩
 rintro i hh ⟨xx,i0,i1,RS⟩
 refine⟨fun hlt=>?_,fun hge=>?_⟩
 ·obtain⟨x,hx⟩ : ∃ x,l[i.toNat]? = some x:=⟨_,List.getElem?_eq_getElem (by omega)⟩
  have hxm:=hmem x (List.mem_of_getElem? hx)
  obtain⟨b,o,rfl,ld⟩:=Sl_cls (s.ext xx) hx
  refine⟨b,o,rfl,⟨i0,hlt⟩,x.1,x.2,ld,?_⟩
  intro h18 e18
  obtain⟨h21,s1,s2,s3,s4⟩:=st_tmp (zs:=[_,_]) e18 [.int .i64 x.1,.int .i64 x.2] rfl (by simp [Value.oneCell'])
  have z0:=xx.1
  have zz:=s3.1
  have htk:l.take (i.toNat+1)=l.take i.toNat ++ [x]:=by rw [List.take_add_one,hx]; rfl
  have e1:(i+1).toNat=i.toNat+1:=by omega
  refine⟨h21,s1,x.2,cell_lst s2 rfl,fun k hk=>Ext h hk∧hk[hh.size]? = some (.cells (List.toArray [.int .i64 x.1,.int .i64 x.2]) 202 (0,0))∧0≤k∧k≤x.2∧PoolS (fun y=>Since h hk y∧y≠hh.size) hk h1.size (newL (l.take i.toNat) ++ List.replicate k.toNat ⟨1,0,0,List.replicate x.1.toNat 0⟩),fun k _=>(x.2 - k).toNat,⟨xx.trans s3,s2,by omega,by omega,?_⟩,?_⟩
  ·obtain⟨la,lc,bl,rl,R⟩:=RS
   refine⟨la,lc,bl,rl,?_⟩
   simp only [Int.toNat_zero,List.replicate_zero,List.append_nil]
   exact (R.ext s3).mono (fun y hy=>⟨⟨hy.1,by have:=hy.2; omega⟩,by have:=hy.2; omega⟩) fun y hy=>hy.1.2
  rintro k hk ⟨xk,kc,k0,k1,RK⟩
  obtain⟨la,lc,bl,rl,R⟩:=RK
  obtain⟨L,hL⟩ : ∃ L,L=newL (l.take i.toNat) ++ List.replicate k.toNat ⟨1,0,0,List.replicate x.1.toNat 0⟩:=⟨_,rfl⟩
  rw [← hL] at R
  have hlen:L.length=(newL (l.take i.toNat)).length+k.toNat:=by rw [hL]; simp
  refine⟨fun hkl=>?_,fun hkg=>⟨⟨by omega,by omega⟩,⟨xk,by omega,by omega,?_⟩,by dsimp only; omega⟩⟩
  ·refine⟨la,_,lc,cell_lst R.blk rfl,x.1,cell_lst kc rfl,x.1.toNat,by omega,⟨by omega,by omega,by omega⟩,fun h34 e34=>?_⟩
   rw [show ((Value.int .u8 0).cells) = #[.int .u8 0] from rfl,madeCells_one] at e34
   obtain⟨a1,a2,a3⟩:=push_get e34
   refine⟨cell_lst (a2.get R.blk) rfl,fun h40 e40=>?_⟩
   obtain⟨b1,b2,b3⟩:=push_get e40
   refine⟨cell_lst (b2.get (a2.get R.blk)) rfl,fun h43 e43=>?_⟩
   obtain⟨c1,c2,c3⟩:=push_get e43
   have x43:=(a2.trans b2).trans c2
   have R43:=R.ext x43
   have hq:=tot i.toNat k.toNat (by omega) (by omega)
   have hkz:=xk.1
   refine⟨cell_lst R43.blk rfl,?_⟩
   refine R43.row.append (by_:=8) (m:=1) rfl (by simp [Value.oneCell']) rfl ⟨by omega,by omega,by omega⟩ ?_
   intro a' c' h53 s53 ch53 f53
   have nb53 : ∀ {y:Nat} {cc:Array Value} {t:TypeId} {zq:Nat × Nat},h43[y]? = some (.cells cc t zq)→ty_ptr_pool_buffer≠t→h53[y]? = some (.cells cc t zq):=fun hy ht=>ch53.get hy fun q=>R43.row.ne_ty q hy ht rfl
   have pb53:=nb53 R43.blk (by decide)
   obtain⟨h55,v1,v2,v3,v4⟩:=st_ex (o:=0) [.slice a' (L.length+1) c'] pb53 (by simp) (by simp [Value.oneCell'])
   have z53:=ch53.1
   have keep55 : ∀ {y:Nat} {cc:Array Value} {t:TypeId} {zq:Nat × Nat},h43[y]? = some (.cells cc t zq)→ty_ptr_pool_buffer≠t→t≠ty_pool_Pool→h55[y]? = some (.cells cc t zq):=fun hy ht ht'=>by
    rw [v3 _ (ne_of_ty hy R43.blk ht')]; exact nb53 hy ht
   refine⟨h55,v1,⟨by omega,by omega⟩,⟨?_,?_,by omega,by omega,a',c',bl ++ [h34.size],rl ++ [hk.size],?_⟩,by dsimp only; omega⟩
   ·have hfa : ∀ y,blkOf la y→h.size≤y:=fun y hy=>(R.own.2.1 y hy).1.1
    have hpb:h.size≤h1.size:=z1
    refine⟨by omega,fun y hy=>?_⟩
    rw [v3 y (by omega),ch53.2 y (by omega) (fun q=>by have:=hfa y q; omega),x43.2 y (by omega),xk.2 y hy]
   ·have hhk:=lt_of_get kc
    rw [v3 _ (fun q=>R.own.1.2 q.symm),ch53.2 _ (by omega) (fun q=>(R.own.2.1 _ q).2 rfl),x43.2 _ (lt_of_get kc)]
    exact kc
   ·have e2:(k+1).toNat=k.toNat+1:=by omega
    have eL:newL (l.take i.toNat) ++ List.replicate (k+1).toNat (⟨1,0,0,List.replicate x.1.toNat 0⟩:Buf)=L ++ [⟨1,0,0,List.replicate x.1.toNat 0⟩]:=by
     rw [e2,List.replicate_succ',hL,List.append_assoc]
    rw [eL]
    have own' : ∀ y,(Since h hk y∧y≠hh.size)→(Since h h55 y∧y≠hh.size):=fun y hy=>⟨⟨hy.1.1,by have:=hy.1.2; omega⟩,hy.2⟩
    have hhk:=lt_of_get kc
    exact
    {blk:=by rw [v2,List.length_append]; rfl
     row:=by
      rw [List.length_append,List.map_append]
      exact s53.keep fun y hy hb'=>v3 y fun q=>by
       obtain⟨cur,hcur⟩:=s53.blk_ty hb'
       rw [q,pb53] at hcur
       simp only [Option.some.injEq,Obj.cells.injEq] at hcur
       exact absurd hcur.2.1 (by decide)
     lb:=by simp [R.lb]
     lr:=by simp [R.lr]
     buf:=fun j b' r' y hb' hr' hy=>by
      rw [List.getElem?_append] at hb' hr' hy
      rw [R.lb] at hb'
      rw [R.lr] at hr'
      by_cases hj:j<L.length
      ·rw [if_pos hj] at hb' hr' hy
       obtain⟨k1,k2⟩:=R43.buf j b' r' y hb' hr' hy
       exact⟨keep55 k1 (by decide) (by decide),keep55 k2 (by decide) (by decide)⟩
      ·rw [if_neg hj] at hb' hr' hy
       have hj0:j - L.length=0:=by
        have:=(List.getElem?_eq_some_iff.1 hy).1; simp at this; omega
       rw [hj0] at hb' hr' hy
       simp at hb' hr' hy
       subst hb' hr' hy
       have hb1:h43[h34.size]? = some (.cells (List.toArray (bufV ⟨1,0,0,List.replicate x.1.toNat 0⟩ hk.size)) ty_pool_buffer (0,0)):=by rw [c2.get b1]; simp [bufV]
       refine⟨keep55 hb1 (by decide) (by decide),keep55 (t:=ty_uint8) (c2.get (b2.get ?_)) (by decide) (by decide)⟩
       rw [a1]; simp
     nb:=by
      rw [List.nodup_append]
      refine⟨R.nb,by simp,fun p hp q hq e=>?_⟩
      simp at hq
      have:=R.bnd p (R.own.2.2.1 p hp)
      omega
     nr:=by
      rw [List.nodup_append]
      refine⟨R.nr,by simp,fun p hp q hq e=>?_⟩
      simp at hq
      have:=R.bnd p (R.own.2.2.2 p hp)
      omega
     own:=⟨own' _ R.own.1,fun y hy=>by
      rcases f53 y hy with q | q
      ·exact own' y (R.own.2.1 y q)
      ·exact⟨⟨by omega,by omega⟩,by omega⟩,fun y hy=>by
      rcases List.mem_append.1 hy with q | q
      ·exact own' y (R.own.2.2.1 y q)
      ·simp at q; exact⟨⟨by omega,by omega⟩,by omega⟩,fun y hy=>by
      rcases List.mem_append.1 hy with q | q
      ·exact own' y (R.own.2.2.2 y q)
      ·simp at q; exact⟨⟨by omega,by omega⟩,by omega⟩⟩
     bnd:=fun y hy=>hy.1.2
     len:=by simp; have:=tot i.toNat (k.toNat+1) (by omega) (by omega); omega
     sz:=fun y hy=>by
      rcases List.mem_append.1 hy with q | q
      ·exact R.sz y q
      ·simp at q; rw [q]; simp; omega }
  ·refine⟨la,lc,bl,rl,?_⟩
   have ek:k.toNat=x.2.toNat:=by omega
   have eL:newL (l.take (i+1).toNat)=L:=by
    rw [e1,htk,hL,ek]; simp [newL,bufs]
   rw [eL]
   exact R.mono (fun y hy=>hy.1) fun y hy=>hy.2
 ·have ei:l.take i.toNat=l:=by
   have:i.toNat=l.length:=by omega
   rw [this,List.take_length]
  rw [ei] at RS
  exact⟨h1.size,rfl,xx,RS⟩
end
end Go.Proofs.Vf
namespace Go.Proofs.Vf
open Go Go.Proofs Go.VC
def fits (size:Int) (x:Buf):Bool:=decide (x.owner=0) && decide (size≤x.b.length)
def pGet (L:List Buf) (size:Int):(Int × Int × Int) × List Buf:=
 if size<1∨((L.getLast?.map fun x=>(x.b.length:Int)).getD 0)<size then ((0,0,1),L) else match L.findIdx? (fits size) with
 | some i=>match L[i]? with
  | some x=>((i,x.gen,0),L.set i { x with owner:=1,refs:=1,b:=List.replicate x.b.length 0 })
  | none=>((0,0,5),L)
 | none=>((0,0,5),L)
theorem zrep_replicate (v:Value) (n:Nat):zrep n [v]=List.replicate n v:=by
 induction n with
 | zero=>rfl
 | succ n ih=>simp [zrep,ih,List.replicate_succ]
section
variable {Own:Nat→Prop} {h:Heap} {pb:Nat} {L:List Buf}
theorem get_spec (RS:PoolS Own h pb L) (hne:0<L.length) (size:Int) :
  CallsH PR Gls #[.pointer (some ⟨pb,0,none⟩),.int .i64 size] h
   (fun v h'=>v = .tuple #[.agg #[.int .i64 (pGet L size).1.1,.int .u64 (pGet L size).1.2.1],.int .i64 (pGet L size).1.2.2]∧Ch Own h h'∧PoolS (Grow Own h h') h' pb (pGet L size).2):=by
 have bnd:=RS.bnd
 obtain⟨la,lc,bl,rl,R⟩:=RS
 apply Gdb
 unfold Gda
 intro h1 e1
 obtain⟨a1,a2,a3⟩:=push_get e1
 have R1:=R.ext a2
 have hll:=R.len
 obtain⟨x,hx⟩ : ∃ x,L[L.length - 1]? = some x:=⟨_,List.getElem?_eq_getElem (by omega)⟩
 have hlast:L.getLast? = some x:=by rw [List.getLast?_eq_getElem?]; exact hx
 obtain⟨b,r,hb,hr,g1,g2,aa,o,rfl,ca⟩:=R1.at hx
 have cp : ∀ {hh:Heap},Ext h1 hh→cellH hh pb 0=some (.slice (some ⟨aa,o,none⟩) L.length lc):=fun e=>cell_lst (R1.ext e).blk rfl
 have c0:=cp (Ext.refl _)
 have hw:IntKind.i64.wrap ((L.length:Int) - 1)=(L.length:Int) - 1:=wrap_i64 (by omega)
 have ei:((L.length:Int) - 1).toNat=L.length - 1:=by omega
 have zero : ∀ {c:Int} {hh:Heap},Ext h1 hh→pGet L size=((0,0,c),L)→∃ h28,stCells h.size hh 0 [.int .i64 0,.int .u64 0]=some h28∧∃ p q,ldCells h28 h.size 0 2=some [.int .i64 p,.int .u64 q]∧Value.tuple #[.agg #[.int .i64 p,.int .u64 q],.int .i64 c] = .tuple #[.agg #[.int .i64 (pGet L size).1.1,.int .u64 (pGet L size).1.2.1],.int .i64 (pGet L size).1.2.2]∧Ch Own h h28∧PoolS (Grow Own h h28) h28 pb (pGet L size).2:=by
  intro c hh xx e
  obtain⟨h28,s1,s2,s3,s4⟩:=st_ex (o:=0) [.int .i64 0,.int .u64 0] (xx.get a1) (by simp) (by simp [Value.oneCell'])
  have hz:=xx.1
  have x28:Ext h h28:=⟨by omega,fun y hy=>by rw [s3 y (by omega),xx.2 y (by omega),a2.2 y hy]⟩
  rw [e]
  exact⟨h28,s1,0,0,ld_lst s2 2 0 (by simp [spl]),rfl,x28.ch,PoolS.grow ⟨_,_,_,_,R.ext x28⟩ x28.1 bnd⟩
 refine⟨pb,0,fun _=>rfl,_,_,_,fun _=>c0,pb,0,fun _=>rfl,_,_,_,fun _=>c0,aa,o,fun _=>rfl,fun _=>⟨by rw [hw]; omega,by rw [hw]; omega⟩,some ⟨b,0,none⟩,fun _=>by rw [hw,ei]; exact ca,b,0,fun _=>rfl,_,_,_,fun _=>cell_lst g1 rfl,fun hc=>?_,fun hc=>?_⟩
 ·simp only [Bool.or_eq_true,decide_eq_true_eq] at hc
  refine zero (Ext.refl _) ?_
  unfold pGet
  rw [hlast,if_pos (by simpa using hc)]
 ·simp only [Bool.or_eq_false_iff,decide_eq_false_iff_not] at hc
  have hif : ¬ (size<1∨((L.getLast?.map fun x=>(x.b.length:Int)).getD 0)<size):=by rw [hlast]; simp; omega
  refine⟨pb,0,rfl,_,_,_,c0,fun i hh=>hh=h1∧0≤i∧i≤L.length∧∀ j:Nat,(j:Int)<i→∀ y,L[j]? = some y→fits size y=false,fun i _=>(L.length - i).toNat,⟨rfl,by omega,by omega,fun j hj=>by omega⟩,?_⟩
  rintro i hh ⟨rfl,i0,i1,hno⟩
  refine⟨fun hlt=>?_,fun hge=>?_⟩
  ·obtain⟨y,hy⟩ : ∃ y,L[i.toNat]? = some y:=⟨_,List.getElem?_eq_getElem (by omega)⟩
   obtain⟨b',r',hb',hr',k1,k2,aa',o',e',ca'⟩:=R1.at hy
   cases e'
   have cl:cellH hh b' (0+3)=some (.slice (some ⟨r',0,none⟩) y.b.length y.b.length):=cell_lst k1 rfl
   refine⟨aa,o,rfl,⟨i0,hlt⟩,_,ca',b',0,rfl,y.owner,cell_lst k1 rfl,_,_,_,fun _=>cl,fun hf=>?_,fun hf=>?_⟩
   ·have hfit:fits size y=true:=hf
    have hidx:L.findIdx? (fits size)=some i.toNat:=by
     rw [List.findIdx?_eq_some_iff_getElem]
     have hk:i.toNat<L.length:=by omega
     rw [List.getElem?_eq_getElem hk] at hy
     refine⟨hk,by rw [Option.some.inj hy]; exact hfit,fun j hj=>?_⟩
     have:=hno j (by omega) _ (List.getElem?_eq_getElem (by omega))
     simp [this]
    have e:pGet L size=((((i.toNat:Nat):Int),y.gen,0),L.set i.toNat { y with owner:=1,refs:=1,b:=List.replicate y.b.length 0 }):=by
     unfold pGet; rw [if_neg hif,hidx]; simp only; rw [hy]
    have hbh:b'<h.size:=bnd b' (R.own.2.2.1 b' (List.mem_of_getElem? hb'))
    have hrh:r'<h.size:=bnd r' (R.own.2.2.2 r' (List.mem_of_getElem? hr'))
    obtain⟨h58,s1,s2,s3,s4⟩:=st_ex (o:=0+1) [.int .i64 1] k1 (by simp [bufV]) (by simp [Value.oneCell'])
    obtain⟨h60,t1,t2,t3,t4⟩:=st_ex (o:=0+2) [.int .i64 1] s2 (by simp [bufV,spl]) (by simp [Value.oneCell'])
    have t2':h60[b']? = some (.cells (List.toArray (bufV { y with owner:=1,refs:=1 } r')) ty_pool_buffer (0,0)):=by rw [t2]; rfl
    have k60 : ∀ z,z≠b'→h60[z]? = hh[z]?:=fun z hz=>by rw [t3 z hz,s3 z hz]
    have R60:=R1.setHead (x':={ y with owner:=1,refs:=1 }) hy hb' hr' rfl t2' k60 (by omega)
    have hrb:r'≠b':=ne_of_ty k2 k1 (by decide)
    obtain⟨h63,u1,u2,u3,u4⟩:=st_ex (o:=0) (zrep y.b.length [.int .u8 0]) (show h60[r']? = some (.cells (List.toArray (y.b.map u8)) ty_uint8 (0,0)) by rw [k60 _ hrb]; exact k2) (by rw [zrep_replicate]; simp) (by rw [zrep_replicate]; intro v hv; rw [(List.mem_replicate.1 hv).2]; rfl)
    have hlen63:(spl (y.b.map u8) 0 (zrep y.b.length [.int .u8 0]))=(List.replicate y.b.length 0).map u8:=by
     rw [zrep_replicate]; simp [spl]
    have R63:=R60.setRow (i:=i.toNat) (x:={ y with owner:=1,refs:=1 }) (x':={ y with owner:=1,refs:=1,b:=List.replicate y.b.length 0 }) (by rw [List.getElem?_set,if_pos rfl,if_pos (by omega)]) hb' hr' ⟨rfl,rfl,rfl,by simp⟩ (by rw [u2,hlen63]) u3 u4
    rw [List.set_set] at R63
    have a63:h63[h.size]? = some (.cells #[.int .i64 0,.int .u64 0] 39 (0,0)):=by rw [u3 _ (by omega),k60 _ (by omega)]; exact a1
    obtain⟨h68,v1,v2,v3,v4⟩:=st_ex (o:=0) [.int .i64 i,.int .u64 y.gen] a63 (by simp) (by simp [Value.oneCell'])
    have R68:=R63.keep (h':=h68) (by omega) fun z hz hoz=>v3 z (by have:=bnd z hoz; omega)
    refine⟨h58,s1,h60,t1,_,_,_,cell_lst t2' rfl,h63,?_,y.gen,by rw [cell_congr (u3 b' hrb.symm)]; exact cell_lst t2' rfl,h68,v1,i,y.gen,ld_lst v2 2 0 (by simp [spl]),?_⟩
    ·by_cases h0:y.b.length=0
     ·left
      refine⟨.inr h0,?_⟩
      have:stCells r' h60 0 (zrep y.b.length [.int .u8 0])=some h60:=by rw [h0]; rfl
      rw [this] at u1; exact (Option.some.inj u1).symm
     ·exact .inr ⟨r',0,rfl,Nat.pos_of_ne_zero h0,rfl,u1⟩
    ·rw [e]
     have hii:((i.toNat:Nat):Int)=i:=by omega
     refine⟨by rw [hii],⟨by omega,fun z hz hn=>?_⟩,PoolS.grow ⟨_,_,_,_,R68⟩ (by omega) bnd⟩
     have n1:z≠b':=fun q=>hn (q ▸ R.own.2.2.1 b' (List.mem_of_getElem? hb'))
     have n2:z≠r':=fun q=>hn (q ▸ R.own.2.2.2 r' (List.mem_of_getElem? hr'))
     rw [v3 z (by omega),u3 z n2,k60 z n1,a2.2 z hz]
   ·refine⟨⟨by omega,by omega⟩,⟨rfl,by omega,by omega,fun j hj z hz=>?_⟩,by dsimp only; omega⟩
    by_cases hji:(j:Int)<i
    ·exact hno j hji z hz
    ·have:j=i.toNat:=by omega
     subst this
     rw [hy] at hz; cases hz
     exact hf
  ·refine zero (Ext.refl _) ?_
   unfold pGet
   rw [if_neg hif]
   have:L.findIdx? (fits size)=none:=by
    rw [List.findIdx?_eq_none_iff]
    intro y hy
    obtain⟨j,hj,rfl⟩:=List.getElem_of_mem hy
    exact hno j (by omega) _ (List.getElem?_eq_getElem hj)
   rw [this]
end
def z8:List Int:=List.replicate 8 0
def z20:List Int:=List.replicate 20 0
def gotK (k:Nat):List Buf:=match k with
 | 0=>[⟨1,0,0,z8⟩,⟨1,0,0,z8⟩,⟨1,0,0,z8⟩,⟨1,0,0,z20⟩,⟨1,0,0,z20⟩]
 | 1=>[⟨1,1,1,z8⟩,⟨1,0,0,z8⟩,⟨1,0,0,z8⟩,⟨1,0,0,z20⟩,⟨1,0,0,z20⟩]
 | 2=>[⟨1,1,1,z8⟩,⟨1,1,1,z8⟩,⟨1,0,0,z8⟩,⟨1,0,0,z20⟩,⟨1,0,0,z20⟩]
 | 3=>[⟨1,1,1,z8⟩,⟨1,1,1,z8⟩,⟨1,1,1,z8⟩,⟨1,0,0,z20⟩,⟨1,0,0,z20⟩]
 | _=>[⟨1,1,1,z8⟩,⟨1,1,1,z8⟩,⟨1,1,1,z8⟩,⟨1,1,1,z20⟩,⟨1,0,0,z20⟩]
abbrev gotL:List Buf:=gotK 4
theorem got_step (k:Nat) (hk:k<4):(pGet (gotK k) 1).2=gotK (k+1)∧0<(gotK k).length:=by
 match k,hk with
 | 0,_=>exact⟨rfl,by decide⟩
 | 1,_=>exact⟨rfl,by decide⟩
 | 2,_=>exact⟨rfl,by decide⟩
 | 3,_=>exact⟨rfl,by decide⟩
theorem got_spec (h:Heap):CallsH PR Gj4 #[] h (fun v h'=>∃ pb,v = .pointer (some ⟨pb,0,none⟩)∧Ext h h'∧PoolS (Since h h') h' pb gotL):=by
 apply Gbv
 unfold Gbu
 have hcl:CallsH PR Gj3 #[] h (fun v h1=>∃ a,v = .slice a 2 2∧Ext h h1∧Sl h1 202 2 a 2 2 (flatC [(8,3),(20,2)])):=by
  apply Gbt
  unfold Gbs
  intro h1 e1
  obtain⟨a1,a2,a3⟩:=push_get e1
  exact⟨_,rfl,a2,Sl.of_blk a1 rfl⟩
 refine hcl.mono ?_
 rintro _ h1 ⟨a,rfl,x1,s1⟩
 refine⟨a,2,2,rfl,?_⟩
 refine (pnew_spec s1 rfl (by omega) (by decide)).mono ?_
 rintro _ h4 ⟨pb,rfl,x4,P4⟩
 refine⟨_,_,rfl,fun q=>(by cases q),fun _=>?_⟩
 have z1:=x1.1
 have e0:newL [(8,3),(20,2)]=gotK 0:=rfl
 rw [e0] at P4
 refine⟨fun i hh=>0≤i∧i≤4∧Ext h hh∧PoolS (Since h hh) hh pb (gotK i.toNat),fun i _=>(4 - i).toNat,⟨by omega,by omega,x1.trans x4,?_⟩,?_⟩
 ·obtain⟨_,_,_,_,R⟩:=P4
  exact⟨_,_,_,_,R.mono (fun y hy=>⟨by omega,hy.2⟩) fun y hy=>hy.2⟩
 rintro i hh ⟨i0,i1,xx,RS⟩
 refine⟨fun hlt=>?_,fun hge=>?_⟩
 ·obtain⟨q1,q2⟩:=got_step i.toNat (by omega)
  have hxz:=xx.1
  refine (get_spec RS q2 1).mono ?_
  rintro _ h16 ⟨rfl,c16,P16⟩
  rw [q1] at P16
  have e1:(i+1).toNat=i.toNat+1:=by omega
  have hz:=c16.1
  refine⟨_,_,_,rfl,⟨by omega,by omega⟩,⟨by omega,by omega,c16.ext_of xx fun y hy=>hy.1,?_⟩,by dsimp only; omega⟩
  rw [e1]
  obtain⟨_,_,_,_,R⟩:=P16
  refine⟨_,_,_,_,R.mono (fun y hy=>?_) fun y hy=>hy.2⟩
  rcases hy with q | q
  ·exact⟨q.1,by have:=q.2; omega⟩
  ·exact⟨by omega,q.2⟩
 ·have:i.toNat=4:=by omega
  rw [this] at RS
  exact⟨pb,rfl,xx,RS⟩
end Go.Proofs.Vf
namespace Go.Proofs.Vf
open Go Go.Proofs Go.VC
structure Wnt where
 id:Int
 dead:Int
 track:Int
instance:DecidableEq Wnt:=fun a b=>decidable_of_iff (a.id=b.id∧a.dead=b.dead∧a.track=b.track) ⟨fun h=>by cases a; cases b; simp_all,fun h=>by rw [h]; exact⟨rfl,rfl,rfl⟩⟩
def wntV (w:Wnt):List Value:=[.int .i64 w.id,.int .u64 w.dead,.int .i64 w.track]
def flatW (Q:List Wnt):List Value:=Q.flatMap wntV
theorem wntV_len (w:Wnt):(wntV w).length=3:=rfl
theorem wntV_one (w:Wnt) : ∀ v∈wntV w,v.oneCell'=true:=by
 intro v hv; simp [wntV] at hv; rcases hv with rfl | rfl | rfl <;> rfl
theorem flatW_len (Q:List Wnt):(flatW Q).length=Q.length * 3:=fl_length wntV_len Q
theorem flatW_one (Q:List Wnt) : ∀ v∈flatW Q,v.oneCell'=true:=fl_one wntV_one Q
def idxP {α : Type} (p : α→Bool) (l:List α):Int:=match l.findIdx? p with | some i=>(i:Nat) | none=>-1
theorem indexW_spec {h:Heap} {e:Nat} {a:Option Addr} {n c:Nat} {Q:List Wnt} (s:Sl h e 3 a n c (flatW Q)) (hn:n=Q.length) (hb:n<1000000) (p:Wnt→Bool) (f:Value)
  (hf : ∀ h' w,Ext h h'→w∈Q→CallsV PR f [.agg (wntV w).toArray] h' (fun v h''=>v = .bool (p w)∧Ext h' h'')) :
  CallsH PR Gn4 #[.slice a n c,f] h (fun v h'=>v = .int .i64 (idxP p Q)∧Ext h h'):=by
 apply Ger
 unfold Geq
 refine⟨fun i hh=>Ext h hh∧0≤i∧i≤n∧∀ j:Nat,(j:Int)<i→∀ w,Q[j]? = some w→p w=false,fun i _=>(n - i).toNat,⟨Ext.refl _,by omega,by omega,fun j hj=>by omega⟩,?_⟩
 rintro i hh ⟨xx,i0,i1,hno⟩
 refine⟨fun hlt=>?_,fun hge=>⟨?_,xx⟩⟩
 ·obtain⟨w,hw⟩ : ∃ w,Q[i.toNat]? = some w:=⟨_,List.getElem?_eq_getElem (by omega)⟩
  obtain⟨b,o,rfl,ld,_⟩:=(s.ext xx).elem wntV_len (by decide) hw
  refine⟨b,o,rfl,⟨i0,hlt⟩,w.id,w.dead,w.track,ld,?_⟩
  refine (hf hh w xx (List.mem_of_getElem? hw)).mono ?_
  rintro _ h' ⟨rfl,x'⟩
  refine⟨p w,rfl,fun hp=>⟨?_,xx.trans x'⟩,fun hp=>⟨⟨by omega,by omega⟩,⟨xx.trans x',by omega,by omega,fun j hj z hz=>?_⟩,by dsimp only; omega⟩⟩
  ·have:Q.findIdx? p=some i.toNat:=by
    rw [List.findIdx?_eq_some_iff_getElem]
    have hk:i.toNat<Q.length:=by omega
    rw [List.getElem?_eq_getElem hk] at hw
    refine⟨hk,by rw [Option.some.inj hw]; exact hp,fun j hj=>?_⟩
    have:=hno j (by omega) _ (List.getElem?_eq_getElem (by omega))
    simp [this]
   unfold idxP; rw [this]
   congr 1
   show i=((i.toNat:Nat):Int); omega
  ·by_cases hji:(j:Int)<i
   ·exact hno j hji z hz
   ·have:j=i.toNat:=by omega
    subst this
    rw [hw] at hz; cases hz; exact hp
 ·have:Q.findIdx? p=none:=by
   rw [List.findIdx?_eq_none_iff]
   intro w hw
   obtain⟨j,hj,rfl⟩:=List.getElem_of_mem hw
   exact hno j (by omega) _ (List.getElem?_eq_getElem hj)
  unfold idxP; rw [this]
structure QP (Own:Nat→Prop) (h:Heap) (qb:Nat) (Q:List Wnt) (hd:Int) (dn:Bool) (la:Option Addr) (lc:Nat):Prop where
 blk:h[qb]? = some (.cells (List.toArray [.slice la Q.length lc,.int .i64 hd,.bool dn]) ty_order_Queue (0,0))
 L:Sl h ty_api_Want 3 la Q.length lc (flatW Q)
 own:Own qb∧∀ y,blkOf la y→Own y
 bnd : ∀ y,Own y→y<h.size
 len:Q.length≤64
def QS (Own:Nat→Prop) (h:Heap) (qb:Nat) (Q:List Wnt) (hd:Int) (dn:Bool):Prop:=∃ la lc,QP Own h qb Q hd dn la lc
section
variable {Own:Nat→Prop} {h h':Heap} {qb:Nat} {Q:List Wnt} {hd:Int} {dn:Bool} {la:Option Addr} {lc:Nat}
theorem QP.keep (R:QP Own h qb Q hd dn la lc) (hz:h.size≤h'.size) (hk : ∀ y,y<h.size→Own y→h'[y]? = h[y]?):QP Own h' qb Q hd dn la lc:=
 ⟨by rw [hk _ (lt_of_get R.blk) R.own.1]; exact R.blk,R.L.keep fun y hy hb=>hk y hy (R.own.2 y hb),R.own,fun y hy=>Nat.lt_of_lt_of_le (R.bnd y hy) hz,R.len⟩
theorem QP.ext (R:QP Own h qb Q hd dn la lc) (e:Ext h h'):QP Own h' qb Q hd dn la lc:=R.keep e.1 fun y hy _=>e.2 y hy
theorem QS.keep (R:QS Own h qb Q hd dn) (hz:h.size≤h'.size) (hk : ∀ y,y<h.size→Own y→h'[y]? = h[y]?):QS Own h' qb Q hd dn:=by
 obtain⟨a,b,R⟩:=R; exact⟨a,b,R.keep hz hk⟩
theorem QS.ext (R:QS Own h qb Q hd dn) (e:Ext h h'):QS Own h' qb Q hd dn:=R.keep e.1 fun y hy _=>e.2 y hy
theorem QS.bnd (R:QS Own h qb Q hd dn) : ∀ y,Own y→y<h.size:=by obtain⟨_,_,R⟩:=R; exact R.bnd
theorem QP.lq (R:QP Own h qb Q hd dn la lc) {y:Nat} (hy:blkOf la y):y≠qb:=R.L.ne_ty hy R.blk (by decide)
theorem QS.grow (R:QS Own h' qb Q hd dn) (hz:h.size≤h'.size) (hb : ∀ y,Own y→y<h.size):QS (Grow Own h h') h' qb Q hd dn:=by
 obtain⟨la,lc,R⟩:=R
 refine⟨la,lc,R.blk,R.L,⟨.inl R.own.1,fun y hy=>.inl (R.own.2 y hy)⟩,fun y hy=>?_,R.len⟩
 rcases hy with q | q
 ·have:=hb y q; omega
 ·exact q.2
theorem QP.next (R:QP Own h qb Q hd dn la lc) {h1 h2:Heap} {la':Option Addr} {lc':Nat} {Q':List Wnt} (hx:Ch (blkOf la) h h1) (s:Sl h1 ty_api_Want 3 la' Q'.length lc' (flatW Q')) (hf : ∀ y,blkOf la' y→blkOf la y∨h.size≤y)
  (h2b:h2[qb]? = some (.cells (List.toArray [.slice la' Q'.length lc',.int .i64 hd,.bool dn]) ty_order_Queue (0,0))) (h2o : ∀ y,y≠qb→h2[y]? = h1[y]?) (hz:h2.size=h1.size) (hl:Q'.length≤64):Ch Own h h2∧QS (Grow Own h h2) h2 qb Q' hd dn:=by
 have hq:=lt_of_get R.blk
 have ne : ∀ y,blkOf la' y→y≠qb:=fun y hy=>by
  rcases hf y hy with q | q
  ·exact R.lq q
  ·omega
 have hxz:=hx.1
 refine⟨⟨by omega,fun y hy hn=>?_⟩,la',lc',h2b,s.keep fun y _ hb=>h2o y (ne y hb),⟨.inl R.own.1,fun y hy=>?_⟩,fun y hy=>?_,hl⟩
 ·rw [h2o y (fun q=>hn (q ▸ R.own.1)),hx.2 y hy (fun q=>hn (R.own.2 y q))]
 ·rcases hf y hy with q | q
  ·exact .inl (R.own.2 y q)
  ·have:=s.blk_lt hy; exact .inr ⟨q,by omega⟩
 ·rcases hy with q | q
  ·have:=R.bnd y q; omega
  ·exact q.2
theorem place_spec (R:QP Own h qb Q hd dn la lc) (id:Int) :
  CallsH PR Gli #[.pointer (some ⟨qb,0,none⟩),.int .i64 id] h (fun v h'=>v = .int .i64 (idxP (fun w=>decide (w.id=id)) Q)∧Ext h h'):=by
 apply Gcv
 unfold Gcs
 intro h1 e1
 obtain⟨p1,p2,p3⟩:=push_get e1
 have R1:=R.ext p2
 have hl:=R.len
 refine⟨qb,0,rfl,la,Q.length,lc,cell_lst R1.blk rfl,?_⟩
 refine (indexW_spec R1.L rfl (by omega) (fun w=>decide (w.id=id)) _ fun h2 w x2 _=>?_).mono ?_
 ·refine⟨Glj,[],[.pointer (some ⟨h.size,0,none⟩)],rfl,en_166,?_⟩
  apply Gcu (p0_0:=w.id) (p0_1:=w.dead) (p0_2:=w.track)
  unfold Gct
  intro h3 e3
  obtain⟨a1,a2,a3⟩:=push_get e3
  exact⟨w.id,cell_lst a1 rfl,h.size,0,rfl,id,cell_lst (a2.get (x2.get p1)) rfl,rfl,a2⟩
 ·rintro _ h8 ⟨rfl,x8⟩
  exact⟨_,rfl,rfl,p2.trans x8⟩
end
end Go.Proofs.Vf
namespace Go.Proofs.Vf
open Go Go.Proofs Go.VC
section
variable {Own:Nat→Prop} {h h':Heap} {qb:Nat} {Q:List Wnt} {hd:Int} {dn:Bool} {la:Option Addr} {lc:Nat}
theorem delete_spec {h:Heap} {a:Option Addr} {c:Nat} {Q:List Wnt} (s:Sl h ty_api_Want 3 a Q.length c (flatW Q)) (hb:Q.length≤64) {i:Nat} (hi:i<Q.length) :
  CallsH PR Gn2 #[.slice a Q.length c,.int .i64 i,.int .i64 ((i:Int)+1)] h
   (fun v h'=>v = .slice a (Q.take i ++ Q.drop (i+1)).length c∧Ch (blkOf a) h h'∧h'.size=h.size∧Sl h' ty_api_Want 3 a (Q.take i ++ Q.drop (i+1)).length c (flatW (Q.take i ++ Q.drop (i+1)))):=by
 have hlc:=s.le
 have hL:(Q.take i ++ Q.drop (i+1)).length=i+(Q.length - (i+1)):=by simp; omega
 apply Gen
 unfold Gem
 refine⟨i,rfl,i+1,by simp,Q.length,rfl,⟨by omega,by omega,by omega⟩,fun q=>by omega,fun _=>⟨i,rfl,⟨by omega,by omega,by omega⟩,i+1,by simp,⟨by omega,by omega,by omega⟩,_,_,(s.drop (i:=i+1) (by omega)).firstB,?_⟩⟩
 have s1:=s.take (i:=i) (by omega)
 refine s1.append_room (m:=Q.length - (i+1)) (by omega) (by rw [List.length_drop,flatW_len,Nat.sub_mul]) (fun v hv=>flatW_one Q v (List.mem_of_mem_drop hv)) ⟨by omega,by omega,by omega⟩ ?_
 intro h22 s22 c22 z22
 have e1:(flatW Q).take (i * 3) ++ (flatW Q).drop ((i+1) * 3)=flatW (Q.take i ++ Q.drop (i+1)):=by
  unfold flatW
  rw [fl_take wntV_len,fl_drop wntV_len,List.flatMap_append]
 rw [e1,← hL] at s22
 rw [cutA_zero] at s22 c22 ⊢
 obtain⟨h28,q1,q2,q3,q4⟩:=s22.clear_tail (m:=Q.length) (zl:=[.int .i64 0,.int .u64 0,.int .i64 0]) (by omega) hlc rfl (by simp [Value.oneCell'])
 refine⟨i+(Q.length - (i+1)),rfl,Q.length,rfl,⟨by omega,by omega,by omega⟩,h28,?_,?_⟩
 ·rw [hL] at q1; exact q1
 ·exact⟨by rw [hL],c22.trans q3,by omega,q2⟩
def qDrop (Q:List Wnt) (id:Int):Int × List Wnt:=match Q.findIdx? (fun w=>decide (w.id=id)) with
 | some i=>(0,Q.take i ++ Q.drop (i+1))
 | none=>(6,Q)
theorem qdrop_spec (RS:QS Own h qb Q hd dn) (id:Int) :
  CallsH PR Gl9 #[.pointer (some ⟨qb,0,none⟩),.int .i64 id] h (fun v h'=>v = .int .i64 (qDrop Q id).1∧Ch Own h h'∧QS (Grow Own h h') h' qb (qDrop Q id).2 hd dn):=by
 have bnd:=RS.bnd
 obtain⟨la,lc,R⟩:=RS
 have hl:=R.len
 apply Gcd
 unfold Gcc
 refine (place_spec R id).mono ?_
 rintro _ h1 ⟨rfl,x1⟩
 have R1:=R.ext x1
 refine⟨_,rfl,fun hq=>?_,fun hq=>?_⟩
 ·have e:qDrop Q id=(6,Q):=by
   unfold idxP at hq; unfold qDrop
   cases hf:Q.findIdx? (fun w=>decide (w.id=id)) with
   | none=>rfl
   | some i=>rw [hf] at hq; simp at hq; omega
  rw [e]
  exact⟨rfl,x1.ch,QS.grow ⟨la,lc,R1⟩ x1.1 bnd⟩
 ·cases hf:Q.findIdx? (fun w=>decide (w.id=id)) with
  | none=>unfold idxP at hq; rw [hf] at hq; simp at hq
  | some i=>
   have e:qDrop Q id=(0,Q.take i ++ Q.drop (i+1)):=by unfold qDrop; rw [hf]
   have ei:idxP (fun w=>decide (w.id=id)) Q=(i:Int):=by unfold idxP; rw [hf]
   have hi:i<Q.length:=(List.findIdx?_eq_some_iff_getElem.1 hf).1
   rw [e,ei]
   refine⟨qb,0,rfl,la,Q.length,lc,cell_lst R1.blk rfl,⟨by omega,by omega⟩,?_⟩
   refine (delete_spec R1.L hl hi).mono ?_
   rintro _ h11 ⟨rfl,c11,z11,s11⟩
   have hqb:h11[qb]? = some (.cells (List.toArray [.slice la Q.length lc,.int .i64 hd,.bool dn]) ty_order_Queue (0,0)):=c11.get R1.blk fun q=>R1.lq q rfl
   obtain⟨h15,u1,u2,u3,u4⟩:=st_ex (o:=0) [.slice la (Q.take i ++ Q.drop (i+1)).length lc] hqb (by simp) (by simp [Value.oneCell'])
   obtain⟨g1,g2⟩:=R1.next c11 s11 (fun y hy=>.inl hy) u2 u3 u4 (by simp; omega)
   refine⟨_,_,_,rfl,h15,u1,rfl,(x1.ch (F:=Own)).trans g1,?_⟩
   obtain⟨a',c',R'⟩:=g2
   have hz:=x1.1
   have hz2:=g1.1
   refine⟨a',c',R'.blk,R'.L,⟨.inl R1.own.1,fun y hy=>?_⟩,fun y hy=>?_,R'.len⟩
   ·rcases R'.own.2 y hy with q | q
    ·exact .inl q
    ·exact .inr ⟨by omega,q.2⟩
   ·rcases hy with q | q
    ·have:=bnd y q; omega
    ·exact q.2
def lessW (a b:Wnt):Bool:=decide (a.dead<b.dead) || (decide (a.dead=b.dead) && (decide (a.track<b.track) || (decide (a.track=b.track) && decide (a.id<b.id))))
theorem lessW_iff {a b:Wnt} : lessW a b=true↔a.dead<b.dead∨(a.dead=b.dead∧(a.track<b.track∨(a.track=b.track∧a.id<b.id))):=by simp [lessW]
theorem lessW_trans {a b c:Wnt} (h1:lessW a b=true) (h2:lessW b c=true):lessW a c=true:=by
 rw [lessW_iff] at *; omega
def srtW (Q:List Wnt):Prop:=Q.Pairwise fun a b=>lessW a b=true
def cmpI (a b:Int):Int:=if a<b then -1 else if b<a then 1 else 0
theorem cmpInt_spec (a b:Int) (h:Heap):CallsH PR Ghm #[.int .i64 a,.int .i64 b] h (fun v h'=>v = .int .i64 (cmpI a b)∧h'=h):=by
 have nan : ∀ x,CallsH PR Ghp #[.int .i64 x] h (fun v h'=>v = .bool false∧h'=h):=fun x=>by
  apply Ga9
  unfold Ga8
  exact⟨congrArg Value.bool (by simp),rfl⟩
 apply Ga3
 unfold Ga2 cmpI
 refine (nan a).mono ?_
 rintro _ h1 ⟨rfl,rfl⟩
 refine⟨_,rfl,(nan b).mono ?_⟩
 rintro _ h4 ⟨rfl,rfl⟩
 refine⟨_,rfl,fun q=>(by cases q),fun _=>⟨fun q=>(by cases q),fun _=>⟨fun q=>⟨by rw [if_pos q],rfl⟩,fun q=>⟨fun q2=>⟨by rw [if_neg q,if_pos q2],rfl⟩,fun q2=>⟨by rw [if_neg q,if_neg q2],rfl⟩⟩⟩⟩⟩
theorem cmpU_spec (a b:Int) (h:Heap):CallsH PR Ghn #[.int .u64 a,.int .u64 b] h (fun v h'=>v = .int .i64 (cmpI a b)∧h'=h):=by
 have nan : ∀ x,CallsH PR Ghq #[.int .u64 x] h (fun v h'=>v = .bool false∧h'=h):=fun x=>by
  apply Gab
  unfold Gaa
  exact⟨congrArg Value.bool (by simp),rfl⟩
 apply Ga5
 unfold Ga4 cmpI
 refine (nan a).mono ?_
 rintro _ h1 ⟨rfl,rfl⟩
 refine⟨_,rfl,(nan b).mono ?_⟩
 rintro _ h4 ⟨rfl,rfl⟩
 refine⟨_,rfl,fun q=>(by cases q),fun _=>⟨fun q=>(by cases q),fun _=>⟨fun q=>⟨by rw [if_pos q],rfl⟩,fun q=>⟨fun q2=>⟨by rw [if_neg q,if_pos q2],rfl⟩,fun q2=>⟨by rw [if_neg q,if_neg q2],rfl⟩⟩⟩⟩⟩
theorem cmpOr_spec {h:Heap} {b:Nat} {x y z:Int} (hb:h[b]? = some (.cells #[.int .i64 x,.int .i64 y,.int .i64 z] 3 (0,0))) :
  CallsH PR Gho #[.slice (some ⟨b,0,none⟩) 3 3] h (fun v h'=>v = .int .i64 (if x≠0 then x else if y≠0 then y else z)∧h'=h):=by
 apply Ga7
 unfold Ga6
 refine⟨fun i hh=>hh=h∧(i=0∨(i=1∧x=0)∨(i=2∧x=0∧y=0)∨(i=3∧x=0∧y=0∧z=0)),fun i _=>(3 - i).toNat,⟨rfl,.inl rfl⟩,?_⟩
 rintro i hh ⟨rfl,hi⟩
 refine⟨fun hlt=>?_,fun hge=>?_⟩
 ·rcases hi with rfl | ⟨rfl,hx⟩ | ⟨rfl,hx,hy⟩ | ⟨rfl,hx,hy,hz⟩
  ·refine⟨b,0,rfl,⟨by omega,by omega⟩,x,cell_lst hb rfl,fun q=>⟨by rw [if_pos q],rfl⟩,fun q=>⟨⟨by omega,by omega⟩,⟨rfl,.inr (.inl ⟨rfl,q⟩)⟩,by dsimp only; omega⟩⟩
  ·refine⟨b,0,rfl,⟨by omega,by omega⟩,y,cell_lst hb rfl,fun q=>⟨by rw [if_neg (by omega),if_pos q],rfl⟩,fun q=>⟨⟨by omega,by omega⟩,⟨rfl,.inr (.inr (.inl ⟨rfl,hx,q⟩))⟩,by dsimp only; omega⟩⟩
  ·refine⟨b,0,rfl,⟨by omega,by omega⟩,z,cell_lst hb rfl,fun q=>⟨by rw [if_neg (by omega),if_neg (by omega)],rfl⟩,fun q=>⟨⟨by omega,by omega⟩,⟨rfl,.inr (.inr (.inr ⟨rfl,hx,hy,q⟩))⟩,by dsimp only; omega⟩⟩
  ·omega
 ·rcases hi with rfl | ⟨rfl,hx⟩ | ⟨rfl,hx,hy⟩ | ⟨rfl,hx,hy,hz⟩ <;> first | omega | exact⟨by rw [if_neg (by omega),if_neg (by omega),hz],rfl⟩
def cmpW (a b:Wnt):Int:=if cmpI a.dead b.dead≠0 then cmpI a.dead b.dead else if cmpI a.track b.track≠0 then cmpI a.track b.track else cmpI a.id b.id
theorem cmpI_facts (a b:Int):(a<b∧cmpI a b = -1)∨(b<a∧cmpI a b=1)∨(a=b∧cmpI a b=0):=by
 unfold cmpI; split
 ·omega
 ·split <;> omega
theorem cmpW_less (a b:Wnt):cmpW a b<0↔lessW a b=true:=by
 rw [lessW_iff]
 unfold cmpW
 rcases cmpI_facts a.dead b.dead with h | h | h <;> rcases cmpI_facts a.track b.track with h2 | h2 | h2 <;> rcases cmpI_facts a.id b.id with h3 | h3 | h3 <;> rw [h.2,h2.2,h3.2] <;> simp <;> omega
theorem compare_spec (a b:Wnt) (h:Heap):CallsH PR Glk #[.agg (wntV a).toArray,.agg (wntV b).toArray] h (fun v h'=>v = .int .i64 (cmpW a b)∧Ext h h'):=by
 apply Gcx (p0_0:=a.id) (p0_1:=a.dead) (p0_2:=a.track) (p1_0:=b.id) (p1_1:=b.dead) (p1_2:=b.track)
 unfold Gcw
 intro h1 e1 h3 e3
 obtain⟨a1,a2,a3⟩:=push_get e1
 obtain⟨b1,b2,b3⟩:=push_get e3
 have a1':=b2.get a1
 refine⟨_,cell_lst a1' rfl,_,cell_lst b1 rfl,_,cell_lst a1' rfl,_,cell_lst b1 rfl,_,cell_lst a1' rfl,_,cell_lst b1 rfl,(cmpU_spec _ _ _).mono ?_⟩
 rintro _ h17 ⟨rfl,rfl⟩
 refine⟨_,rfl,cell_lst a1' rfl,cell_lst b1 rfl,cell_lst a1' rfl,cell_lst b1 rfl,(cmpInt_spec _ _ _).mono ?_⟩
 rintro _ h24 ⟨rfl,rfl⟩
 refine⟨_,rfl,cell_lst a1' rfl,cell_lst b1 rfl,(cmpInt_spec _ _ _).mono ?_⟩
 rintro _ h29 ⟨rfl,rfl⟩
 refine⟨_,rfl,fun h32 e32=>?_⟩
 obtain⟨c1,c2,c3⟩:=push_get e32
 refine (cmpOr_spec c1).mono ?_
 rintro _ h34 ⟨rfl,rfl⟩
 exact⟨_,rfl,rfl,(a2.trans b2).trans c2⟩
end
end Go.Proofs.Vf
namespace Go.Proofs.Vf
open Go Go.Proofs Go.VC
section
variable {Own:Nat→Prop} {h h':Heap} {qb:Nat} {Q:List Wnt} {hd:Int} {dn:Bool} {la:Option Addr} {lc:Nat}
theorem wrap_half {x y:Int} (h0:0≤x) (h1:x<y) (h2:y≤1000000):IntKind.i64.wrap ((IntKind.u64.wrap (x+y)).fdiv (2 ^ (min (1:Int).toNat IntKind.u64.bits)))=(x+y) / 2∧x≤(x+y) / 2∧(x+y) / 2<y:=by
 have e1:IntKind.u64.wrap (x+y)=x+y:=wrap_u64 (by omega) (by omega)
 have e2:((2:Int) ^ (min (1:Int).toNat IntKind.u64.bits))=2:=by decide
 rw [e1,e2,Int.fdiv_eq_ediv_of_nonneg _ (by decide)]
 exact⟨wrap_i64 (by omega),by omega,by omega⟩
def posW (w:Wnt) (Q:List Wnt):Nat:=(Q.takeWhile (lessW · w)).length
def insW (w:Wnt) (Q:List Wnt):List Wnt:=Q.take (posW w Q) ++ w :: Q.drop (posW w Q)
theorem pos_of {w:Wnt} {Q:List Wnt} {i:Nat} (hi:i≤Q.length) (h1 : ∀ j x,j<i→Q[j]? = some x→lessW x w=true) (h2 : ∀ x,Q[i]? = some x→lessW x w=false):posW w Q=i:=by
 induction Q generalizing i with
 | nil=>simp at hi; subst hi; rfl
 | cons a Q ih=>
  cases i with
  | zero=>
   have:=h2 a rfl
   simp [posW,this]
  | succ i=>
   have ha:=h1 0 a (by omega) rfl
   have:=ih (i:=i) (by simp at hi; omega) (fun j x hj hx=>h1 (j+1) x (by omega) (by simpa using hx)) (fun x hx=>h2 x (by simpa using hx))
   unfold posW at this ⊢
   simp only [List.takeWhile_cons,ha,if_true,List.length_cons,this]
theorem bsearch_spec {h:Heap} {e:Nat} {a:Option Addr} {c:Nat} {Q:List Wnt} (s:Sl h e 3 a Q.length c (flatW Q)) (hb:Q.length≤64) (hs:srtW Q) (w:Wnt) :
  CallsH PR Gmx #[.slice a Q.length c,.agg (wntV w).toArray,.func (.func Glk) #[] #[]] h (fun v h'=>∃ fd,v = .tuple #[.int .i64 (posW w Q:Nat),.bool fd]∧Ext h h'):=by
 apply Gef (p1_0:=w.id) (p1_1:=w.dead) (p1_2:=w.track)
 unfold Gee
 intro h1 e1
 obtain⟨a1,a2,a3⟩:=push_get e1
 refine⟨fun x y hh=>Ext h1 hh∧0≤x∧x≤y∧y≤Q.length∧(∀ (j:Nat) z,(j:Int)<x→Q[j]? = some z→lessW z w=true)∧(∀ (j:Nat) z,y≤(j:Int)→Q[j]? = some z→lessW z w=false),fun x y _=>(y - x).toNat,⟨Ext.refl _,by omega,by omega,by omega,fun j z hj=>by omega,fun j z hj hz=>by have:=(List.getElem?_eq_some_iff.1 hz).1; omega⟩,?_⟩
 rintro x y hh ⟨xx,x0,xy,yn,hlo,hhi⟩
 have cw : ∀ {hz:Heap},Ext h1 hz→ldCells hz h.size 0 3=some [.int .i64 w.id,.int .u64 w.dead,.int .i64 w.track]:=fun ex=>ld_lst (ex.get a1) 3 0 (by simp)
 refine⟨fun hlt=>?_,fun hge=>?_⟩
 ·obtain⟨ew,q1,q2⟩:=wrap_half x0 hlt (by omega)
  obtain⟨z,hz⟩ : ∃ z,Q[((x+y) / 2).toNat]? = some z:=⟨_,List.getElem?_eq_getElem (by omega)⟩
  obtain⟨b,o,rfl,ld,_⟩:=(s.ext (a2.trans xx)).elem wntV_len (by decide) hz
  rw [ew]
  refine⟨⟨by omega,by omega⟩,b,o,rfl,⟨by omega,by omega⟩,z.id,z.dead,z.track,ld,w.id,w.dead,w.track,cw xx,Glk,[],[],rfl,VC.enters_ok Tryz.func130 (by kernel_rfl) rfl,(compare_spec z w hh).mono ?_⟩
  rintro _ h20 ⟨rfl,x20⟩
  refine⟨_,rfl,fun hc=>⟨⟨by omega,by omega⟩,⟨xx.trans x20,by omega,by omega,by omega,fun j u hj hu=>?_,hhi⟩,by dsimp only; omega⟩,fun hc=>⟨⟨xx.trans x20,by omega,by omega,by omega,hlo,fun j u hj hu=>?_⟩,by dsimp only; omega⟩⟩
  ·have hzw:=(cmpW_less z w).1 hc
   by_cases hj2:j=((x+y) / 2).toNat
   ·subst hj2; rw [hz] at hu; cases hu; exact hzw
   ·have hjl:=(List.getElem?_eq_some_iff.1 hu)
    have hzl:=(List.getElem?_eq_some_iff.1 hz)
    have:=List.pairwise_iff_getElem.1 hs j ((x+y) / 2).toNat hjl.1 hzl.1 (by omega)
    rw [hjl.2,hzl.2] at this
    exact lessW_trans this hzw
  ·have hzw : ¬ lessW z w=true:=fun q=>hc ((cmpW_less z w).2 q)
   by_cases hj2:j=((x+y) / 2).toNat
   ·subst hj2; rw [hz] at hu; cases hu; simpa using hzw
   ·have hjl:=(List.getElem?_eq_some_iff.1 hu)
    have hzl:=(List.getElem?_eq_some_iff.1 hz)
    have:=List.pairwise_iff_getElem.1 hs ((x+y) / 2).toNat j hzl.1 hjl.1 (by omega)
    rw [hjl.2,hzl.2] at this
    cases hq:lessW u w with
    | false=>rfl
    | true=>exact absurd (lessW_trans this hq) hzw
 ·have exy:x=y:=by omega
  subst exy
  have hpos:((posW w Q:Nat):Int)=x:=by
   have:=pos_of (w:=w) (Q:=Q) (i:=x.toNat) (by omega) (fun j z hj hz=>hlo j z (by omega) hz) (fun z hz=>hhi x.toNat z (by omega) hz)
   omega
  by_cases hxl:x<Q.length
  ·obtain⟨z,hz⟩ : ∃ z,Q[x.toNat]? = some z:=⟨_,List.getElem?_eq_getElem (by omega)⟩
   obtain⟨b,o,rfl,ld,_⟩:=(s.ext (a2.trans xx)).elem wntV_len (by decide) hz
   refine⟨b,o,fun _=>rfl,fun _=>⟨x0,hxl⟩,z.id,z.dead,z.track,fun _=>ld,w.id,w.dead,w.track,fun _=>cw xx,fun _ h34=>Ext h1 h34,?_,fun _=>⟨Glk,[],[],rfl,VC.enters_ok Tryz.func130 (by kernel_rfl) rfl,(compare_spec z w hh).mono ?_⟩,fun q=>absurd hxl q⟩
   ·intro r h34 x34
    exact⟨_,by rw [hpos],a2.trans x34⟩
   ·rintro _ h34 ⟨rfl,x34⟩
    exact⟨_,rfl,xx.trans x34⟩
  ·refine⟨0,0,fun q=>absurd q hxl,fun q=>absurd q hxl,0,0,0,fun q=>absurd q hxl,0,0,0,fun q=>absurd q hxl,fun _ h34=>Ext h1 h34,?_,fun q=>absurd q hxl,fun _=>⟨0,xx⟩⟩
   intro r h34 x34
   exact⟨_,by rw [hpos],a2.trans x34⟩
theorem insert_spec {h:Heap} {a:Option Addr} {c:Nat} {Q:List Wnt} (s:Sl h ty_api_Want 3 a Q.length c (flatW Q)) (hb:Q.length≤64) {i:Nat} (hi:i≤Q.length) (w:Wnt) {vb:Nat} (hv:h[vb]? = some (.cells (List.toArray (wntV w)) ty_api_Want (0,0))) (hvb : ¬ blkOf a vb) :
  CallsH PR Gn5 #[.slice a Q.length c,.int .i64 i,.slice (some ⟨vb,0,none⟩) 1 1] h
   (fun v h'=>∃ a' c',v = .slice a' (Q.take i ++ w :: Q.drop i).length c'∧Ch (blkOf a) h h'∧Sl h' ty_api_Want 3 a' (Q.take i ++ w :: Q.drop i).length c' (flatW (Q.take i ++ w :: Q.drop i))∧∀ y,blkOf a' y→blkOf a y∨h.size≤y):=by
 have hlc:=s.le
 have hL:(Q.take i ++ w :: Q.drop i).length=Q.length+1:=by simp; omega
 have sv:Sl h ty_api_Want 3 (some ⟨vb,0,none⟩) 1 1 (wntV w):=Sl.of_blk hv rfl
 have hlen:=flatW_len Q
 have hsplit:flatW (Q.take i ++ w :: Q.drop i)=(flatW Q).take (i * 3) ++ wntV w ++ (flatW Q).drop (i * 3):=by
  unfold flatW
  rw [fl_take wntV_len,fl_drop wntV_len,List.flatMap_append,List.flatMap_cons,List.append_assoc]
 rw [hL]
 apply Get
 unfold Ges
 refine⟨i,rfl,⟨hi,hlc,Nat.le_refl _⟩,fun q=>by omega,fun _=>⟨fun hie=>?_,fun hne=>⟨⟨by omega,by omega⟩,fun hgrow=>?_,fun hroom=>?_⟩⟩⟩
 ·have hie':i=Q.length:=by omega
  refine⟨1,wntV w,sv.firstB,?_⟩
  refine s.append (m:=1) rfl (wntV_one w) rfl ⟨by omega,by omega,by omega⟩ ?_
  intro a' c' h' s' ch' f'
  refine⟨a',c',rfl,ch',?_,fun y hy=>?_⟩
  ·rw [hsplit,hie',List.take_of_length_le (by omega),List.drop_eq_nil_of_le (by omega),List.append_nil]; exact s'
  ·rcases f' y hy with q | q
   ·exact .inl q
   ·exact .inr q.1
 ·-- no room
  have hil:i<Q.length:=by omega
  refine⟨i,rfl,⟨by omega,by omega,by omega⟩,⟨by omega,by omega⟩,⟨by omega,by omega⟩,Q.length+1 - i,by omega,?_⟩
  have s1:=s.take (i:=i) (by omega)
  have hzz : ∀ k,∀ v∈zrep k [Value.int .i64 0,.int .u64 0,.int .i64 0],v.oneCell'=true:=fun k=>by
   induction k with
   | zero=>intro v hv; cases hv
   | succ k ih=>
    intro v hv
    rcases List.mem_append.1 hv with q | q
    ·simp at q; rcases q with rfl | rfl | rfl <;> rfl
    ·exact ih v q
  refine s1.append_grow (m:=Q.length+1 - i) (by omega) (by rw [zrep_length]; rfl) rfl ⟨by omega,by omega,by omega⟩ ?_
  intro cap h28 hcap s28 x28 z28
  have hn28:i+(Q.length+1 - i)=Q.length+1:=by omega
  rw [hn28] at s28 hcap ⊢
  obtain⟨V,hV⟩ : ∃ V,V=(flatW Q).take (i * 3) ++ zrep (Q.length+1 - i) [Value.int .i64 0,.int .u64 0,.int .i64 0]:=⟨_,rfl⟩
  rw [← hV] at s28
  have hVl:V.length=(Q.length+1) * 3:=s28.1
  obtain⟨h34,q1,q2,q3,q4⟩:=s28.copy_to (i:=i) (m:=1) (k:=1) (src:=.slice (some ⟨vb,0,none⟩) 1 1) (cs:=wntV w) (by omega) (by omega) rfl (by
   have:min 1 (Q.length+1 - i)=1:=by omega
   rw [this]; exact (sv.ext x28).first) rfl (wntV_one w)
  refine⟨i,rfl,⟨by omega,by omega,by omega⟩,1,h34,q1,⟨by omega,by omega⟩,i+1,by simp,⟨by omega,by omega,by omega⟩,i,rfl,⟨by omega,by omega,by omega⟩,Q.length - i,?_⟩
  have hnew : ∀ y,blkOf (some ⟨h.size,0,none⟩) y→y=h.size:=fun y hy=>blkOf_some.1 hy
  have s34:Sl h34 ty_api_Want 3 a Q.length c (flatW Q):=(s.ext x28).ch q3 fun y hy q=>by
   rw [blkOf_some] at q
   have:=s.blk_lt hy; omega
  have sd:=s34.drop (i:=i) (by omega)
  have hmin:min (Q.length - i) (Q.length+1 - (i+1))=Q.length - i:=by omega
  obtain⟨h44,r1,r2,r3,r4⟩:=q2.copy_to (i:=i+1) (m:=Q.length - i) (k:=Q.length - i) (src:=.slice (cutA a i c 3) (Q.length - i) (c - i)) (cs:=(flatW Q).drop (i * 3)) (by omega) (by omega) rfl (by rw [hmin]; exact sd.first) (by rw [List.length_drop,hlen,Nat.sub_mul]) (fun v hv=>flatW_one Q v (List.mem_of_mem_drop hv))
  refine⟨h44,r1,_,cap,rfl,?_,?_,fun y hy=>.inr (by rw [hnew y hy]; exact Nat.le_refl _)⟩
  ·refine⟨by omega,fun y hy _=>?_⟩
   rw [r3.2 y (by omega) (fun q=>by rw [blkOf_some] at q; omega),q3.2 y (by omega) (fun q=>by rw [blkOf_some] at q; omega),x28.2 y hy]
  ·have efin:spl (spl V (i * 3) (wntV w)) ((i+1) * 3) ((flatW Q).drop (i * 3))=(flatW Q).take (i * 3) ++ wntV w ++ (flatW Q).drop (i * 3):=by
    apply List.ext_getElem?
    intro j
    have hdl:((flatW Q).drop (i * 3)).length=Q.length * 3 - i * 3:=by rw [List.length_drop,hlen]
    have hw3:(wntV w).length=3:=rfl
    have htl:((flatW Q).take (i * 3)).length=i * 3:=by rw [List.length_take,hlen]; omega
    have hsl:(spl V (i * 3) (wntV w)).length=V.length:=spl_length (by rw [hw3]; omega)
    rw [spl_get (by rw [hsl,hdl]; omega),spl_get (by rw [hw3]; omega),hdl,hw3,List.append_assoc,List.getElem?_append,htl]
    by_cases j1:j<i * 3
    ·rw [if_neg (by omega),if_neg (by omega),if_pos j1,hV,List.getElem?_append_left (by rw [htl]; exact j1)]
    ·rw [if_neg j1,List.getElem?_append,hw3]
     by_cases j2:j<i * 3+3
     ·rw [if_neg (by omega),if_pos (by omega),if_pos (by omega)]
     ·rw [if_neg (show ¬ j - i * 3<3 by omega)]
      by_cases j3:j<(i+1) * 3+(Q.length * 3 - i * 3)
      ·rw [if_pos (by omega)]; congr 1; omega
      ·rw [if_neg (by omega),if_neg (by omega),List.getElem?_eq_none (by omega),List.getElem?_eq_none (by rw [hdl]; omega)]
   rw [hsplit,← efin]; exact r2
 ·-- room
  have hil:i<Q.length:=by omega
  have hrm:Q.length+1≤c:=by omega
  obtain⟨W,sW,hW⟩:=s.extend (m:=Q.length+1) (by omega) hrm
  have hWl:W.length=(Q.length+1) * 3:=sW.1
  have hne0:0<Q.length:=by omega
  obtain⟨b,o,hab⟩ : ∃ b o,a=some ⟨b,o,none⟩:=by
   rcases s.2 with⟨_,q,_⟩ | ⟨b,o,cur,q,_⟩
   ·omega
   ·exact⟨b,o,q⟩
  obtain⟨cur,hcur⟩:=s.blk_ty (x:=b) (by rw [hab]; exact blkOf_some.2 rfl)
  have hcl:0<cur.length:=by
   rcases s.2 with⟨_,q,_⟩ | ⟨b',o',cur',q,hb',_,hc',_⟩
   ·omega
   ·rw [hab] at q; cases q
    rw [hcur] at hb'
    have:cur=cur':=by
     have:=(Option.some.inj hb'); simp only [Obj.cells.injEq] at this
     exact List.toArray_inj this.1
    subst this; omega
  refine⟨⟨by omega,by omega⟩,Q.length+1,by omega,⟨by omega,by omega,by omega⟩,⟨by omega,by omega⟩,i+1,by simp,⟨by omega,by omega,by omega⟩,?_,⟨by omega,by omega⟩,i+1,by simp,⟨by omega,by omega,by omega⟩,i,rfl,⟨by omega,by omega,by omega⟩,Q.length+1 - i,?_⟩
  ·rw [cutA_zero,hab]
   obtain⟨o',e',_⟩:=cutA_some b o (i+1) c 3
   refine⟨vb,0,b,o',_,_,_,_,rfl,e',fun q=>hvb (by rw [hab,q]; exact blkOf_some.2 rfl),hv,hcur,by simpa using hcl⟩
  rw [cutA_zero]
  have hmin:min (Q.length+1 - i) (Q.length+1 - (i+1))=Q.length - i:=by omega
  have sd:=sW.drop (i:=i) (by omega)
  have hfirst:=sd.firstN (m:=Q.length - i) (by omega) (Q.length+1 - i) (c - i)
  have hWd:(W.drop (i * 3)).take ((Q.length - i) * 3)=(flatW Q).drop (i * 3):=by
   rw [← hW,List.drop_take]
   congr 1
   rw [Nat.sub_mul]
  rw [hWd] at hfirst
  obtain⟨h63,q1,q2,q3,q4⟩:=sW.copy_to (i:=i+1) (m:=Q.length+1 - i) (k:=Q.length - i) (src:=.slice (cutA a i c 3) (Q.length+1 - i) (c - i)) (cs:=(flatW Q).drop (i * 3)) (by omega) (by omega) rfl (by rw [hmin]; exact hfirst) (by rw [List.length_drop,hlen,Nat.sub_mul]) (fun v hv=>flatW_one Q v (List.mem_of_mem_drop hv))
  refine⟨h63,q1,i,rfl,⟨by omega,by omega,by omega⟩,1,?_⟩
  have sv63:Sl h63 ty_api_Want 3 (some ⟨vb,0,none⟩) 1 1 (wntV w):=sv.ch q3 fun y hy q=>by
   rw [blkOf_some] at hy; subst hy; exact hvb q
  obtain⟨h69,r1,r2,r3,r4⟩:=q2.copy_to (i:=i) (m:=1) (k:=1) (src:=.slice (some ⟨vb,0,none⟩) 1 1) (cs:=wntV w) (by omega) (by omega) rfl (by
   have:min 1 (Q.length+1 - i)=1:=by omega
   rw [this]; exact sv63.first) rfl (wntV_one w)
  refine⟨h69,r1,a,c,rfl,q3.trans r3,?_,fun y hy=>.inl hy⟩
  have efin:spl (spl W ((i+1) * 3) ((flatW Q).drop (i * 3))) (i * 3) (wntV w)=(flatW Q).take (i * 3) ++ wntV w ++ (flatW Q).drop (i * 3):=by
   apply List.ext_getElem?
   intro j
   have hdl:((flatW Q).drop (i * 3)).length=Q.length * 3 - i * 3:=by rw [List.length_drop,hlen]
   have hw3:(wntV w).length=3:=rfl
   have htl:((flatW Q).take (i * 3)).length=i * 3:=by rw [List.length_take,hlen]; omega
   have hsl:(spl W ((i+1) * 3) ((flatW Q).drop (i * 3))).length=W.length:=spl_length (by rw [hdl]; omega)
   rw [spl_get (by rw [hsl,hw3]; omega),spl_get (by rw [hdl]; omega),hdl,hw3,List.append_assoc,List.getElem?_append,htl]
   by_cases j1:j<i * 3
   ·rw [if_neg (by omega),if_neg (by omega),if_pos j1,← hW,List.take_take,List.getElem?_take,if_pos (by omega)]
   ·rw [if_neg j1,List.getElem?_append,hw3]
    by_cases j2:j<i * 3+3
    ·rw [if_pos (by omega),if_pos (by omega)]
    ·rw [if_neg (by omega),if_neg (show ¬ j - i * 3<3 by omega)]
     by_cases j3:j<(i+1) * 3+(Q.length * 3 - i * 3)
     ·rw [if_pos (by omega)]; congr 1; omega
     ·rw [if_neg (by omega),List.getElem?_eq_none (by omega),List.getElem?_eq_none (by rw [hdl]; omega)]
  rw [hsplit,← efin]; exact r2
end
end Go.Proofs.Vf
namespace Go.Proofs.Vf
open Go Go.Proofs Go.VC
section
variable {Own:Nat→Prop} {h h':Heap} {qb:Nat} {Q:List Wnt} {hd:Int} {dn:Bool} {la:Option Addr} {lc:Nat}
def mayW (w:Wnt):Bool:=decide (0≤w.id) && decide (w.id≤65535) && decide (w.dead<4611686018427387904) && decide (0≤w.track) && decide (w.track≤1048576)
theorem tmay_spec (t:Int) (h:Heap):CallsH PR Gnq #[.int .u64 t] h (fun v h'=>v = .bool (decide (t<4611686018427387904))∧h'=h):=by
 apply Gev
 unfold Geu
 exact⟨rfl,rfl⟩
theorem omay_spec (w:Wnt) (h:Heap):CallsH PR Gl5 #[.agg (wntV w).toArray] h (fun v h'=>v = .bool (mayW w)∧Ext h h'):=by
 apply Gc5 (p0_0:=w.id) (p0_1:=w.dead) (p0_2:=w.track)
 unfold Gc4
 intro h1 e1
 obtain⟨a1,a2,a3⟩:=push_get e1
 have c0:cellH h1 h.size 0=some (.int .i64 w.id):=cell_lst a1 rfl
 have c1:cellH h1 h.size 1=some (.int .u64 w.dead):=cell_lst a1 rfl
 have c2:cellH h1 h.size 2=some (.int .i64 w.track):=cell_lst a1 rfl
 refine⟨_,c0,_,fun _=>c0,_,fun _=>c1,fun q hh=>hh=h1∧((decide (0≤w.id) && decide (w.id≤65535))=true→q=decide (w.dead<4611686018427387904)),?_,fun hq=>(tmay_spec _ _).mono ?_,fun hq=>⟨true,rfl,fun q=>by rw [q] at hq; cases hq⟩⟩
 ·rintro q hh ⟨rfl,hq⟩
  refine⟨_,fun _=>c2,_,fun _=>c2,?_,a2⟩
  cases hg:(decide (0≤w.id) && decide (w.id≤65535)) with
  | false=>unfold mayW; rw [hg]; simp
  | true=>rw [hq hg]; unfold mayW; rw [hg]
 ·rintro _ hz ⟨rfl,rfl⟩
  exact⟨_,rfl,rfl,fun _=>rfl⟩
theorem onew_spec (h:Heap):CallsH PR Gl6 #[] h (fun v h'=>∃ qb,v = .pointer (some ⟨qb,0,none⟩)∧Ext h h'∧QS (fun y=>h.size≤y∧y<h'.size) h' qb [] 0 false):=by
 apply Gc7
 unfold Gc6
 intro h1 e1
 obtain⟨a1,a2,a3⟩:=push_get e1
 exact⟨h.size,rfl,a2,none,0,a1,Sl.nil _ _ _,⟨⟨by omega,by omega⟩,fun y hy=>absurd hy not_blkOf_none⟩,fun y hy=>hy.2,by simp⟩
def qAdd (Q:List Wnt) (w:Wnt):Int × List Wnt:=
 if mayW w=false then (1,Q) else if (Q.findIdx? (fun x=>decide (x.id=w.id))).isSome then (7,Q) else if 64≤Q.length then (4,Q) else (0,insW w Q)
theorem qadd_spec (RS:QS Own h qb Q hd dn) (hs:srtW Q) (w:Wnt) :
  CallsH PR Gl7 #[.pointer (some ⟨qb,0,none⟩),.agg (wntV w).toArray] h (fun v h'=>v = .int .i64 (qAdd Q w).1∧Ch Own h h'∧QS (Grow Own h h') h' qb (qAdd Q w).2 hd dn):=by
 have bnd:=RS.bnd
 obtain⟨la,lc,R⟩:=RS
 have hl:=R.len
 apply Gc9 (p1_0:=w.id) (p1_1:=w.dead) (p1_2:=w.track)
 unfold Gc8
 intro h1 e1
 obtain⟨a1,a2,a3⟩:=push_get e1
 have cw : ∀ {hz:Heap},Ext h1 hz→ldCells hz h.size 0 3=some [.int .i64 w.id,.int .u64 w.dead,.int .i64 w.track]:=fun ex=>ld_lst (ex.get a1) 3 0 (by simp)
 have same : ∀ {c:Int} {hz:Heap},Ext h hz→qAdd Q w=(c,Q)→Value.int .i64 c = .int .i64 (qAdd Q w).1∧Ch Own h hz∧QS (Grow Own h hz) hz qb (qAdd Q w).2 hd dn:=fun x e=>by
  rw [e]; exact⟨rfl,x.ch,QS.grow ⟨la,lc,R.ext x⟩ x.1 bnd⟩
 refine⟨_,_,_,cw (Ext.refl _),(omay_spec w h1).mono ?_⟩
 rintro _ h5 ⟨rfl,x5⟩
 refine⟨_,rfl,fun hm=>same (a2.trans x5) ?_,fun hm=>⟨w.id,cell_lst (x5.get a1) rfl,(place_spec (R.ext (a2.trans x5)) w.id).mono ?_⟩⟩
 ·unfold qAdd; rw [if_pos hm]
 rintro _ h10 ⟨rfl,x10⟩
 have xx:=(a2.trans x5).trans x10
 have R10:=R.ext xx
 refine⟨_,rfl,fun hq=>same xx ?_,fun hq=>⟨qb,0,rfl,la,Q.length,lc,cell_lst R10.blk rfl,fun h64=>same xx ?_,fun h64=>?_⟩⟩
 ·unfold qAdd; rw [if_neg (by rw [hm]; decide),if_pos]
  unfold idxP at hq
  cases hf:Q.findIdx? (fun x=>decide (x.id=w.id)) with
  | some i=>rfl
  | none=>rw [hf] at hq; simp at hq
 ·have hno:(Q.findIdx? (fun x=>decide (x.id=w.id))).isSome=false:=by
   unfold idxP at hq
   cases hf:Q.findIdx? (fun x=>decide (x.id=w.id)) with
   | none=>rfl
   | some i=>rw [hf] at hq; simp at hq <;> omega
  unfold qAdd; rw [if_neg (by rw [hm]; decide),if_neg (by rw [hno]; decide),if_pos (by omega)]
 ·have hno:(Q.findIdx? (fun x=>decide (x.id=w.id))).isSome=false:=by
   unfold idxP at hq
   cases hf:Q.findIdx? (fun x=>decide (x.id=w.id)) with
   | none=>rfl
   | some i=>rw [hf] at hq; simp at hq <;> omega
  have e:qAdd Q w=(0,insW w Q):=by unfold qAdd; rw [if_neg (by rw [hm]; decide),if_neg (by rw [hno]; decide),if_neg (by omega)]
  refine⟨la,Q.length,lc,cell_lst R10.blk rfl,_,_,_,cw (x5.trans x10),(bsearch_spec R10.L hl hs w).mono ?_⟩
  rintro _ h24 ⟨fd,rfl,x24⟩
  have x24':=(x5.trans x10).trans x24
  have R24:=R10.ext x24
  refine⟨_,_,rfl,la,Q.length,lc,cell_lst R24.blk rfl,_,_,_,cw x24',fun h32 e32=>?_⟩
  obtain⟨b1,b2,b3⟩:=push_get e32
  have R32:=R24.ext b2
  have hpos:posW w Q≤Q.length:=(List.takeWhile_sublist _).length_le
  have hlab : ∀ y,blkOf la y→y<h.size:=fun y hy=>R.L.blk_lt hy
  have hz:=(xx.trans x24).1
  refine⟨cell_lst R32.blk rfl,(insert_spec R32.L hl hpos w b1 (fun q=>by have:=hlab _ q; omega)).mono ?_⟩
  rintro _ h35 ⟨a',c',rfl,ch35,s35,f35⟩
  have hqb:h35[qb]? = some (.cells (List.toArray [.slice la Q.length lc,.int .i64 hd,.bool dn]) ty_order_Queue (0,0)):=ch35.get R32.blk fun q=>R32.lq q rfl
  obtain⟨h39,u1,u2,u3,u4⟩:=st_ex (o:=0) [.slice a' (insW w Q).length c'] hqb (by simp) (by simp [Value.oneCell'])
  have hil:(insW w Q).length≤64:=by unfold insW; simp; omega
  obtain⟨g1,g2⟩:=R32.next ch35 s35 f35 u2 u3 u4 hil
  have x32:=(xx.trans x24).trans b2
  rw [e]
  refine⟨_,_,_,rfl,h39,u1,rfl,(x32.ch (F:=Own)).trans g1,?_⟩
  obtain⟨a'',c'',R'⟩:=g2
  have hz32:=x32.1
  have hg:=g1.1
  refine⟨a'',c'',R'.blk,R'.L,⟨.inl R.own.1,fun y hy=>?_⟩,fun y hy=>?_,R'.len⟩
  ·rcases R'.own.2 y hy with q | q
   ·exact .inl q
   ·exact .inr ⟨by omega,q.2⟩
  ·rcases hy with q | q
   ·have:=bnd y q; omega
   ·exact q.2
theorem wclone_spec {h:Heap} {e:Nat} {a:Option Addr} {n c:Nat} {vs:List Value} (s:Sl h e 3 a n c vs) (hn:n≤100000) (h1 : ∀ v∈vs,v.oneCell'=true) :
  CallsH PR Gmy #[.slice a n c] h (fun v h'=>∃ a' c',v = .slice a' n c'∧Ext h h'):=by
 apply Geh
 unfold Geg
 refine⟨fun hq=>?_,fun hq h2 e2=>?_⟩
 ·have ha:a=none:=by simpa using hq
  subst ha
  rcases s.2 with⟨_,rfl,rfl⟩ | ⟨b,o,cur,q,_⟩
  ·exact⟨none,0,rfl,Ext.refl _⟩
  ·cases q
 ·obtain⟨p1,p2,p3⟩:=push_get e2
  refine⟨n,vs,(s.ext p2).firstB,?_⟩
  have s0:Sl h2 ty_api_Want 3 (some ⟨h.size,0,none⟩) 0 0 []:=Sl.of_blk p1 rfl
  refine s0.app_fresh (m:=n) p2 (fun y hy=>by rw [blkOf_some] at hy; omega) s.1 h1 rfl ⟨by omega,by omega,by omega⟩ ?_
  intro a' c' h' s' x' f'
  exact⟨a',c',by rw [Nat.zero_add],x'⟩
theorem all_spec (R:QS Own h qb Q hd dn):CallsH PR Gl8 #[.pointer (some ⟨qb,0,none⟩)] h (fun v h'=>∃ a c,v = .slice a Q.length c∧Ext h h'):=by
 obtain⟨la,lc,R⟩:=R
 have:=R.len
 apply Gcb
 unfold Gca
 refine⟨qb,0,rfl,_,_,_,cell_lst R.blk rfl,(wclone_spec R.L (by omega) (flatW_one Q)).mono ?_⟩
 rintro _ h6 ⟨a,c,rfl,x6⟩
 exact⟨_,_,_,rfl,a,c,rfl,x6⟩
def grp (Q:List Wnt):List Wnt:=match Q with
 | []=>[]
 | w :: _=>Q.takeWhile fun x=>decide (x.dead=w.dead)
def abv (hd:Int) (l:List Wnt):Option Wnt:=l.find? fun w=>decide (hd≤w.track)
def blw (hd:Int) (l:List Wnt):Wnt:=l.foldl (fun best w=>if w.track≤hd∧best.track<w.track then w else best) ⟨0,0,-1⟩
def qNext (Q:List Wnt) (hd:Int) (dn:Bool):Wnt × Bool × Int:=if Q = [] then (⟨0,0,0⟩,false,5) else
 match abv hd (grp Q) with
 | none=>(blw hd (grp Q),true,0)
 | some u=>if dn && decide (0≤(blw hd (grp Q)).track) then (blw hd (grp Q),true,0) else (u,false,0)
theorem twLen {d:Int} {Q:List Wnt} (k:Nat) (hk:k≤Q.length) (h1 : ∀ j:Nat,j<k→∀ x,Q[j]? = some x→x.dead=d) (h2 : ∀ x,Q[k]? = some x→x.dead≠d):(Q.takeWhile fun x=>decide (x.dead=d)).length=k:=by
 induction Q generalizing k with
 | nil=>simp at hk; subst hk; rfl
 | cons a Q ih=>
  cases k with
  | zero=>have:=h2 a rfl; simp [this]
  | succ k=>
   have ha:=h1 0 (by omega) a rfl
   have:=ih k (by simp at hk; omega) (fun j hj x hx=>h1 (j+1) (by omega) x (by simpa using hx)) (fun x hx=>h2 x (by simpa using hx))
   simp [ha,this]
theorem group_spec (R:QP Own h qb Q hd dn la lc) :
  CallsH PR Glg #[.pointer (some ⟨qb,0,none⟩)] h (fun v h'=>h'=h∧∃ a c,v = .slice a (grp Q).length c∧Sl h ty_api_Want 3 a (grp Q).length c (flatW (grp Q))∧∀ y,blkOf a y→blkOf la y):=by
 have hl:=R.len
 have hlc:=R.L.le
 have cL:cellH h qb 0=some (.slice la Q.length lc):=cell_lst R.blk rfl
 apply Gcp
 unfold Gco
 have hgl:(grp Q).length≤Q.length:=by
  unfold grp; split
  ·simp
  ·exact (List.takeWhile_sublist _).length_le
 have hgt:grp Q=Q.take (grp Q).length:=by
  unfold grp; split
  ·rfl
  ·rename_i w r
   exact List.prefix_iff_eq_take.1 (List.takeWhile_prefix _)
 have fin : ∀ {n:Nat},n=(grp Q).length→∃ a c,Value.slice (cutA la 0 n 3) n n = .slice a (grp Q).length c∧Sl h ty_api_Want 3 a (grp Q).length c (flatW (grp Q))∧∀ y,blkOf a y→blkOf la y:=by
  intro n hn
  have s1:=R.L.take (i:=n) (by omega)
  rw [cutA_zero] at s1 ⊢
  unfold flatW at s1
  rw [fl_take wntV_len,hn,← hgt] at s1
  refine⟨la,n,by rw [hn],⟨s1.1,?_⟩,fun y hy=>hy⟩
  rcases s1.2 with⟨q1,q2,q3⟩ | ⟨b,o,cur,q1,q2,q3,q4,q5⟩
  ·exact .inl ⟨q1,q2,by omega⟩
  ·refine .inr ⟨b,o,cur,q1,q2,by omega,?_,q5⟩
   have:n * 3≤lc * 3:=Nat.mul_le_mul_right _ (by omega)
   omega
 cases hQ:Q with
 | nil=>
  subst hQ
  refine⟨fun i hh=>i=0∧hh=h,fun _ _=>0,⟨rfl,rfl⟩,?_⟩
  rintro i hh ⟨rfl,rfl⟩
  refine⟨qb,0,rfl,_,_,_,cL,none,0,0,fun q=>absurd q (by simp),0,0,fun q=>absurd q (by simp),fun q=>absurd q (by simp),0,fun q=>absurd q (by simp),none,0,0,fun q=>absurd q (by simp),0,0,fun q=>absurd q (by simp),fun q=>absurd q (by simp),0,fun q=>absurd q (by simp),fun q=>(by simp at q),fun _=>⟨_,_,_,cL,0,rfl,0,rfl,⟨by omega,by omega,by omega⟩,rfl,fin rfl⟩⟩
 | cons w0 Q0=>
  have hw0:Q[0]? = some w0:=by rw [hQ]; rfl
  obtain⟨b,o,hla,_,ck0⟩:=R.L.elem wntV_len (by decide) hw0
  rw [← hQ]
  have hgp:grp Q=Q.takeWhile fun x=>decide (x.dead=w0.dead):=by rw [hQ]; rfl
  refine⟨fun i hh=>hh=h∧0≤i∧i≤Q.length∧∀ j:Nat,(j:Int)<i→∀ x,Q[j]? = some x→x.dead=w0.dead,fun i _=>(Q.length - i).toNat,⟨rfl,by omega,by omega,fun j hj=>by omega⟩,?_⟩
  rintro i hh ⟨rfl,i0,i1,hall⟩
  have hpre : ∀ k:Nat,k≤Q.length→(∀ j:Nat,j<k→∀ x,Q[j]? = some x→x.dead=w0.dead)→(∀ x,Q[k]? = some x→x.dead≠w0.dead)→(grp Q).length=k:=by
   intro k hk h1 h2
   rw [hgp]
   exact twLen k hk h1 h2
  have c0':cellH hh b (o+1)=some (.int .u64 w0.dead):=by have:=ck0 1 _ rfl; simpa using this
  have hpos:0<Q.length:=by have:=(List.getElem?_eq_some_iff.1 hw0).1; omega
  by_cases hlt:i<(Q.length:Int)
  ·obtain⟨x,hx⟩ : ∃ x,Q[i.toNat]? = some x:=⟨_,List.getElem?_eq_getElem (by omega)⟩
   obtain⟨b',o',e',_,ck⟩:=R.L.elem wntV_len (by decide) hx
   rw [hla] at e'; cases e'
   refine⟨qb,0,rfl,_,_,_,cL,_,_,_,fun _=>cL,b,o,fun _=>hla,fun _=>⟨i0,hlt⟩,x.dead,fun _=>ck 1 _ rfl,_,_,_,fun _=>cL,b,o,fun _=>hla,fun _=>⟨by omega,by omega⟩,w0.dead,fun _=>c0',fun hc=>?_,fun hc=>?_⟩
   ·simp only [Bool.and_eq_true,decide_eq_true_eq] at hc
    refine⟨⟨by omega,by omega⟩,⟨rfl,by omega,by omega,fun j hj y hy=>?_⟩,by dsimp only; omega⟩
    by_cases hji:(j:Int)<i
    ·exact hall j hji y hy
    ·have:j=i.toNat:=by omega
     subst this
     rw [hx] at hy; cases hy; exact hc.2
   ·have hne:x.dead≠w0.dead:=by
     intro q; simp only [hlt,q,decide_true,Bool.and_self] at hc; cases hc
    have hk:=hpre i.toNat (by omega) (fun j hj y hy=>hall j (by omega) y hy) (fun y hy=>by rw [hx] at hy; cases hy; exact hne)
    exact⟨_,_,_,cL,i.toNat,by omega,i.toNat,by omega,⟨by omega,by omega,by omega⟩,rfl,fin hk.symm⟩
  ·refine⟨qb,0,rfl,_,_,_,cL,none,0,0,fun q=>absurd q hlt,0,0,fun q=>absurd q hlt,fun q=>absurd q hlt,0,fun q=>absurd q hlt,none,0,0,fun q=>absurd q hlt,0,0,fun q=>absurd q hlt,fun q=>absurd q hlt,0,fun q=>absurd q hlt,fun q=>(by simp only [Bool.and_eq_true,decide_eq_true_eq] at q; exact absurd q.1 hlt),fun _=>?_⟩
   have hk:=hpre i.toNat (by omega) (fun j hj y hy=>hall j (by omega) y hy) (fun y hy=>by have:=(List.getElem?_eq_some_iff.1 hy).1; omega)
   exact⟨_,_,_,cL,i.toNat,by omega,i.toNat,by omega,⟨by omega,by omega,by omega⟩,rfl,fin hk.symm⟩
end
end Go.Proofs.Vf
namespace Go.Proofs.Vf
open Go Go.Proofs Go.VC
section
variable {Own:Nat→Prop} {h h':Heap} {qb:Nat} {Q:List Wnt} {hd:Int} {dn:Bool} {la:Option Addr} {lc:Nat}
def w0:Wnt:=⟨0,0,0⟩
theorem find_idx {α : Type} {p : α→Bool} {l:List α} : (l.find? p=none∧l.findIdx? p=none)∨∃ i x,l.findIdx? p=some i∧l[i]? = some x∧l.find? p=some x:=by
 induction l with
 | nil=>left; exact⟨rfl,rfl⟩
 | cons a l ih=>
  simp only [List.find?_cons,List.findIdx?_cons]
  cases hp:p a with
  | true=>right; exact⟨0,a,by simp,rfl,rfl⟩
  | false=>
   rcases ih with⟨h1,h2⟩ | ⟨i,x,h1,h2,h3⟩
   ·left; simp [h1,h2]
   ·right; exact⟨i+1,x,by simp [h1],by simpa using h2,by simpa using h3⟩
theorem above_spec (R:QP Own h qb Q hd dn la lc) {a:Option Addr} {c:Nat} {G:List Wnt} (s:Sl h ty_api_Want 3 a G.length c (flatW G)) (hG:G.length≤64) :
  CallsH PR Gld #[.pointer (some ⟨qb,0,none⟩),.slice a G.length c] h
   (fun v h'=>v = .tuple #[.agg (wntV ((abv hd G).getD w0)).toArray,.bool (abv hd G).isSome]∧Ext h h'):=by
 apply Gcl
 unfold Gci
 intro h1 e1 h3 e3
 obtain⟨a1,a2,a3⟩:=push_get e1
 obtain⟨b1,b2,b3⟩:=push_get e3
 have x3:=a2.trans b2
 have R3:=R.ext x3
 refine (indexW_spec (s.ext x3) rfl (by omega) (fun w=>decide (hd≤w.track)) _ fun h4 w x4 _=>?_).mono ?_
 ·refine⟨Gle,[],[.pointer (some ⟨h.size,0,none⟩)],rfl,en_192,?_⟩
  apply Gck (p0_0:=w.id) (p0_1:=w.dead) (p0_2:=w.track)
  unfold Gcj
  intro h5 e5
  obtain⟨c1,c2,c3⟩:=push_get e5
  exact⟨w.track,cell_lst c1 rfl,h.size,0,rfl,_,cell_lst (c2.get (x4.get (b2.get a1))) rfl,qb,0,rfl,hd,cell_lst (R3.ext (x4.trans c2)).blk rfl,rfl,c2⟩
 rintro _ h5 ⟨rfl,x5⟩
 have b1':=x5.get b1
 have z5:=x5.1
 have fin : ∀ (w:Wnt),∃ h10,stCells h1.size h5 0 [.int .i64 w.id,.int .u64 w.dead,.int .i64 w.track]=some h10∧ldCells h10 h1.size 0 3=some [.int .i64 w.id,.int .u64 w.dead,.int .i64 w.track]∧Ext h h10:=fun w=>by
  obtain⟨h10,s1,s2,s3,s4⟩:=st_ex (o:=0) [.int .i64 w.id,.int .u64 w.dead,.int .i64 w.track] b1' (by simp) (by simp [Value.oneCell'])
  exact⟨h10,s1,ld_lst s2 3 0 (by simp [spl]),by omega,fun y hy=>by rw [s3 y (by omega),x5.2 y (by omega),x3.2 y hy]⟩
 have habv:abv hd G=G.find? (fun w=>decide (hd≤w.track)):=rfl
 rcases find_idx (p:=fun w:Wnt=>decide (hd≤w.track)) (l:=G) with⟨f1,f2⟩ | ⟨i,w,f1,f2,f3⟩
 ·have ei:idxP (fun w:Wnt=>decide (hd≤w.track)) G = -1:=by unfold idxP; rw [f2]
  obtain⟨h10,q1,q2,q3⟩:=fin w0
  rw [ei,habv,f1]
  exact⟨_,rfl,fun _=>⟨h10,q1,_,_,_,q2,rfl,q3⟩,fun q=>absurd (by omega) q⟩
 ·have ei:idxP (fun w:Wnt=>decide (hd≤w.track)) G=(i:Int):=by unfold idxP; rw [f1]
  obtain⟨b,o,rfl,ld,_⟩:=(s.ext (x3.trans x5)).elem wntV_len (by decide) f2
  have hi:=(List.getElem?_eq_some_iff.1 f2).1
  obtain⟨h10,q1,q2,q3⟩:=fin w
  rw [ei,habv,f3]
  refine⟨_,rfl,fun q=>absurd q (by omega),fun _=>⟨b,o,rfl,⟨by omega,by omega⟩,w.id,w.dead,w.track,?_,h10,q1,_,_,_,q2,rfl,q3⟩⟩
  rw [Int.toNat_natCast]; exact ld
theorem below_spec (R:QP Own h qb Q hd dn la lc) {a:Option Addr} {c:Nat} {G:List Wnt} (s:Sl h ty_api_Want 3 a G.length c (flatW G)) (hG:G.length≤64) :
  CallsH PR Glf #[.pointer (some ⟨qb,0,none⟩),.slice a G.length c] h
   (fun v h'=>v = .tuple #[.agg (wntV (blw hd G)).toArray,.bool (decide (0≤(blw hd G).track))]∧Ext h h'):=by
 apply Gcn
 unfold Gcm
 intro h1 e1 h3 e3
 obtain⟨a1,a2,a3⟩:=push_get e1
 obtain⟨b1,b2,b3⟩:=push_get e3
 have x3:=a2.trans b2
 obtain⟨h6,s1,s2,s3,s4⟩:=st_ex (o:=0) [.int .i64 0,.int .u64 0,.int .i64 (-1)] b1 (by simp) (by simp [Value.oneCell'])
 have a1':h6[h.size]? = some (.cells #[.int .i64 0,.int .u64 0,.int .i64 0] 148 (0,0)):=by rw [s3 _ (by omega)]; exact b2.get a1
 have x6:Ext h h6:=⟨by omega,fun y hy=>by rw [s3 y (by omega),x3.2 y hy]⟩
 refine⟨h6,s1,fun i hh=>0≤i∧i≤G.length∧Ext h hh∧h6.size≤hh.size∧hh[h.size]? = some (.cells #[.int .i64 0,.int .u64 0,.int .i64 0] 148 (0,0))∧hh[h1.size]? = some (.cells (List.toArray (wntV (blw hd (G.take i.toNat)))) 148 (0,0)),fun i _=>(G.length - i).toNat,⟨by omega,by omega,x6,Nat.le_refl _,a1',?_⟩,?_⟩
 ·rw [s2]; rfl
 rintro i hh ⟨i0,i1,xx,z6,k0,k1⟩
 refine⟨fun hlt=>?_,fun hge=>?_⟩
 ·obtain⟨w,hw⟩ : ∃ w,G[i.toNat]? = some w:=⟨_,List.getElem?_eq_getElem (by omega)⟩
  obtain⟨b,o,rfl,ld,_⟩:=(s.ext xx).elem wntV_len (by decide) hw
  have e1:(i+1).toNat=i.toNat+1:=by omega
  have htk:G.take (i.toNat+1)=G.take i.toNat ++ [w]:=by rw [List.take_add_one,hw]; rfl
  have hbl:blw hd (G.take (i+1).toNat)=if w.track≤hd∧(blw hd (G.take i.toNat)).track<w.track then w else blw hd (G.take i.toNat):=by
   rw [e1,htk]; unfold blw; rw [List.foldl_append]; rfl
  refine⟨fun h15=>Ext h h15∧h6.size≤h15.size∧h15[h.size]? = some (.cells #[.int .i64 0,.int .u64 0,.int .i64 0] 148 (0,0))∧h15[h1.size]? = some (.cells (List.toArray (wntV (blw hd (G.take (i+1).toNat)))) 148 (0,0)),fun h15 hj=>⟨⟨by omega,by omega⟩,⟨by omega,by omega,hj.1,hj.2.1,hj.2.2.1,hj.2.2.2⟩,by dsimp only; omega⟩,b,o,rfl,⟨i0,hlt⟩,w.id,w.dead,w.track,ld,fun h23 e23=>?_⟩
  obtain⟨h26,t1,t2,t3,t4⟩:=st_tmp (zs:=[_,_,_]) e23 (wntV w) rfl (wntV_one w)
  have x26:=xx.trans t3
  have R26:=R.ext x26
  have cw:cellH h26 hh.size 2=some (.int .i64 w.track):=cell_lst t2 rfl
  have k1':=t3.get k1
  refine⟨h26,t1,_,cw,qb,0,rfl,hd,cell_lst R26.blk rfl,w.track,fun _=>cw,(blw hd (G.take i.toNat)).track,fun _=>cell_lst k1' rfl,fun hc=>?_,fun hc=>?_⟩
  ·simp only [Bool.and_eq_true,decide_eq_true_eq] at hc
   obtain⟨h43,u1,u2,u3,u4⟩:=st_ex (o:=0) (wntV w) k1' (by simp [wntV]) (wntV_one w)
   rw [hbl,if_pos hc]
   have z26:=t3.1
   refine⟨w.id,w.dead,w.track,ld_lst t2 3 0 (by simp [wntV]),h43,u1,⟨by have:=xx.1; omega,fun y hy=>by rw [u3 y (by omega),x26.2 y hy]⟩,by omega,by rw [u3 _ (by omega)]; exact t3.get k0,?_⟩
   rw [u2]; rfl
  ·rw [hbl,if_neg (by rintro⟨q1,q2⟩; simp [q1,q2] at hc)]
   exact⟨x26,by have:=t3.1; omega,t3.get k0,k1'⟩
 ·have ei:i.toNat=G.length:=by omega
  rw [ei,List.take_length] at k1
  obtain⟨B,hB⟩ : ∃ B,B=blw hd G:=⟨_,rfl⟩
  rw [← hB] at k1 ⊢
  obtain⟨h50,u1,u2,u3,u4⟩:=st_ex (o:=0) (wntV B) k0 (by simp [wntV]) (wntV_one B)
  refine⟨B.id,B.dead,B.track,ld_lst k1 3 0 (by simp [wntV]),B.track,cell_lst k1 rfl,h50,u1,by rw [cell_congr (u3 _ (by omega))]; exact cell_lst k1 rfl,B.id,B.dead,B.track,ld_lst u2 3 0 (by simp [spl,wntV]),rfl,?_⟩
  exact⟨by have:=xx.1; omega,fun y hy=>by rw [u3 y (by omega),xx.2 y hy]⟩
theorem next_spec (R:QP Own h qb Q hd dn la lc) :
  CallsH PR Glh #[.pointer (some ⟨qb,0,none⟩)] h
   (fun v h'=>v = .tuple #[.agg (wntV (qNext Q hd dn).1).toArray,.bool (qNext Q hd dn).2.1,.int .i64 (qNext Q hd dn).2.2]∧Ext h h'):=by
 have hl:=R.len
 apply Gcr
 unfold Gcq
 intro h1 e1
 obtain⟨a1,a2,a3⟩:=push_get e1
 have R1:=R.ext a2
 refine (group_spec R1).mono ?_
 rintro _ h3 ⟨rfl,a,c,rfl,s,hfa⟩
 have hG:(grp Q).length≤64:=by
  have:(grp Q).length≤Q.length:=by
   unfold grp; split
   ·simp
   ·exact (List.takeWhile_sublist _).length_le
  omega
 have hgz:(grp Q).length=0↔Q = []:=by
  constructor
  ·intro q
   cases Q with
   | nil=>rfl
   | cons w r=>simp [grp] at q
  ·intro q; subst q; rfl
 have fin : ∀ {hz:Heap} (w:Wnt),Ext h3 hz→∃ h10,stCells h.size hz 0 [.int .i64 w.id,.int .u64 w.dead,.int .i64 w.track]=some h10∧ldCells h10 h.size 0 3=some [.int .i64 w.id,.int .u64 w.dead,.int .i64 w.track]∧Ext h h10:=fun w ex=>by
  obtain⟨h10,s1,s2,s3,s4⟩:=st_ex (o:=0) [.int .i64 w.id,.int .u64 w.dead,.int .i64 w.track] (ex.get a1) (by simp) (by simp [Value.oneCell'])
  have:=ex.1
  exact⟨h10,s1,ld_lst s2 3 0 (by simp [spl]),by omega,fun y hy=>by rw [s3 y (by omega),ex.2 y (by omega),a2.2 y hy]⟩
 refine⟨_,_,_,rfl,fun hz=>?_,fun hz=>(above_spec R1 s hG).mono ?_⟩
 ·have hQ:=hgz.1 (by omega)
  have e:qNext Q hd dn=(⟨0,0,0⟩,false,5):=by unfold qNext; rw [if_pos hQ]
  obtain⟨h10,q1,q2,q3⟩:=fin ⟨0,0,0⟩ (Ext.refl _)
  rw [e]
  exact⟨h10,q1,_,_,_,q2,rfl,q3⟩
 have hQ:Q≠[]:=fun q=>hz (by rw [hgz.2 q]; rfl)
 rintro _ h11 ⟨rfl,x11⟩
 obtain⟨U,hU⟩ : ∃ U,U=(abv hd (grp Q)).getD w0:=⟨_,rfl⟩
 obtain⟨B,hB⟩ : ∃ B,B=blw hd (grp Q):=⟨_,rfl⟩
 rw [← hU]
 refine⟨U.id,U.dead,U.track,_,rfl,fun h15 e15=>?_⟩
 obtain⟨h18,t1,t2,t3,t4⟩:=st_tmp (zs:=[_,_,_]) e15 (wntV U) rfl (wntV_one U)
 refine⟨h18,t1,(below_spec (R1.ext (x11.trans t3)) (s.ext (x11.trans t3)) hG).mono ?_⟩
 rintro _ h19 ⟨rfl,x19⟩
 rw [← hB]
 refine⟨B.id,B.dead,B.track,_,rfl,fun h23 e23=>?_⟩
 obtain⟨h26,v1,v2,v3,v4⟩:=st_tmp (zs:=[_,_,_]) e23 (wntV B) rfl (wntV_one B)
 have x26:=((x11.trans t3).trans x19).trans v3
 have lb:ldCells h26 h19.size 0 3=some [.int .i64 B.id,.int .u64 B.dead,.int .i64 B.track]:=ld_lst v2 3 0 (by simp [wntV])
 have lu:ldCells h26 h11.size 0 3=some [.int .i64 U.id,.int .u64 U.dead,.int .i64 U.track]:=ld_lst ((x19.trans v3).get t2) 3 0 (by simp [wntV])
 refine⟨h26,v1,qb,0,rfl,dn,cell_lst (R1.ext x26).blk rfl,fun hc=>?_,fun hc=>?_⟩
 ·have e:qNext Q hd dn=(B,true,0):=by
   unfold qNext; rw [if_neg hQ,← hB]
   cases hab:abv hd (grp Q) with
   | none=>rfl
   | some u=>
    rw [hab] at hc
    simp only [Option.isSome_some,Bool.not_true,Bool.or_false] at hc
    simp only [hc,if_true]
  obtain⟨h35,q1,q2,q3⟩:=fin B x26
  rw [e]
  exact⟨_,_,_,lb,h35,q1,_,_,_,q2,rfl,q3⟩
 ·have e:qNext Q hd dn=(U,false,0):=by
   unfold qNext; rw [if_neg hQ,← hB]
   cases hab:abv hd (grp Q) with
   | none=>rw [hab] at hc; simp at hc
   | some u=>
    rw [hab] at hc hU
    simp only [Option.isSome_some,Bool.not_true,Bool.or_false] at hc
    simp only [hc,Bool.false_eq_true,if_false]
    rw [hU]; rfl
  obtain⟨h41,q1,q2,q3⟩:=fin U x26
  rw [e]
  exact⟨_,_,_,lu,h41,q1,_,_,_,q2,rfl,q3⟩
theorem qnext_spec (RS:QS Own h qb Q hd dn) :
  CallsH PR Glb #[.pointer (some ⟨qb,0,none⟩)] h
   (fun v h'=>v = .tuple #[.agg (wntV (qNext Q hd dn).1).toArray,.int .i64 (qNext Q hd dn).2.2]∧Ext h h'):=by
 obtain⟨la,lc,R⟩:=RS
 apply Gcf
 unfold Gce
 intro h1 e1
 obtain⟨a1,a2,a3⟩:=push_get e1
 refine (next_spec (R.ext a2)).mono ?_
 rintro _ h3 ⟨rfl,x3⟩
 obtain⟨N,hN⟩ : ∃ N,N=(qNext Q hd dn).1:=⟨_,rfl⟩
 rw [← hN]
 refine⟨N.id,N.dead,N.track,_,_,rfl,fun h8 e8=>?_⟩
 obtain⟨h11,t1,t2,t3,t4⟩:=st_tmp (zs:=[_,_,_]) e8 (wntV N) rfl (wntV_one N)
 obtain⟨h15,s1,s2,s3,s4⟩:=st_ex (o:=0) (wntV N) ((x3.trans t3).get a1) (by simp [wntV]) (wntV_one N)
 have z:=(x3.trans t3).1
 exact⟨h11,t1,_,_,_,ld_lst t2 3 0 (by simp [wntV]),h15,s1,_,_,_,ld_lst s2 3 0 (by simp [spl,wntV]),rfl,by omega,fun y hy=>by rw [s3 y (by omega),t3.2 y (by have:=x3.1; omega),x3.2 y (by omega),a2.2 y hy]⟩
def qTake (Q:List Wnt) (hd:Int) (dn:Bool):(Wnt × Int) × List Wnt × Int × Bool:=
 if (qNext Q hd dn).2.2≠0 then (((qNext Q hd dn).1,(qNext Q hd dn).2.2),Q,hd,dn) else (((qNext Q hd dn).1,0),(qDrop Q (qNext Q hd dn).1.id).2,(qNext Q hd dn).1.track,(qNext Q hd dn).2.1)
theorem qtake_spec (RS:QS Own h qb Q hd dn) :
  CallsH PR Glc #[.pointer (some ⟨qb,0,none⟩)] h
   (fun v h'=>v = .tuple #[.agg (wntV (qTake Q hd dn).1.1).toArray,.int .i64 (qTake Q hd dn).1.2]∧Ch Own h h'∧QS (Grow Own h h') h' qb (qTake Q hd dn).2.1 (qTake Q hd dn).2.2.1 (qTake Q hd dn).2.2.2):=by
 have bnd:=RS.bnd
 obtain⟨la,lc,R⟩:=RS
 apply Gch
 unfold Gcg
 intro h1 e1
 obtain⟨a1,a2,a3⟩:=push_get e1
 refine (next_spec (R.ext a2)).mono ?_
 rintro _ h3 ⟨rfl,x3⟩
 obtain⟨N,hN⟩ : ∃ N,N=(qNext Q hd dn).1:=⟨_,rfl⟩
 rw [← hN]
 refine⟨N.id,N.dead,N.track,_,_,rfl,fun h8 e8=>?_⟩
 obtain⟨h11,t1,t2,t3,t4⟩:=st_tmp (zs:=[_,_,_]) e8 (wntV N) rfl (wntV_one N)
 have x11:=x3.trans t3
 have z:=x11.1
 have lN : ∀ {hz:Heap},hz[h3.size]? = some (.cells (List.toArray (wntV N)) 148 (0,0))→ldCells hz h3.size 0 3=some [.int .i64 N.id,.int .u64 N.dead,.int .i64 N.track]:=fun q=>ld_lst q 3 0 (by simp [wntV])
 refine⟨h11,t1,fun hne=>?_,fun h0=>?_⟩
 ·obtain⟨h16,s1,s2,s3,s4⟩:=st_ex (o:=0) (wntV N) (x11.get a1) (by simp [wntV]) (wntV_one N)
  have e:qTake Q hd dn=((N,(qNext Q hd dn).2.2),Q,hd,dn):=by unfold qTake; rw [if_pos hne,hN]
  have x16:Ext h h16:=⟨by omega,fun y hy=>by rw [s3 y (by omega),x11.2 y (by omega),a2.2 y hy]⟩
  rw [e]
  exact⟨_,_,_,lN t2,h16,s1,_,_,_,ld_lst s2 3 0 (by simp [spl,wntV]),rfl,x16.ch,QS.grow ⟨la,lc,R.ext x16⟩ x16.1 bnd⟩
 ·have e:qTake Q hd dn=((N,0),(qDrop Q N.id).2,N.track,(qNext Q hd dn).2.1):=by unfold qTake; rw [if_neg (by omega),hN]
  rw [e]
  have R11:QS Own h11 qb Q hd dn:=⟨la,lc,R.ext (a2.trans x11)⟩
  refine⟨N.id,cell_lst t2 rfl,(qdrop_spec R11 N.id).mono ?_⟩
  rintro _ h21 ⟨rfl,c21,R21⟩
  obtain⟨lb,lcb,R21⟩:=R21
  have hx3 : ¬ Own h3.size:=fun q=>by have:=bnd _ q; have:=x3.1; omega
  have hxh : ¬ Own h.size:=fun q=>by have:=bnd _ q; omega
  have t21:=c21.get t2 hx3
  have a21:=c21.get (x11.get a1) hxh
  obtain⟨h30,u1,u2,u3,u4⟩:=st_ex (o:=0+1) [.int .i64 N.track] R21.blk (by simp) (by simp [Value.oneCell'])
  obtain⟨h32,v1,v2,v3,v4⟩:=st_ex (o:=0+2) [.bool (qNext Q hd dn).2.1] u2 (by simp [spl]) (by simp [Value.oneCell'])
  have nq : ∀ y,(¬ Own y∧y<h11.size)→y≠qb:=fun y hy q=>hy.1 (q ▸ R.own.1)
  have z3:h3.size<h11.size:=by omega
  have zh:h.size<h11.size:=by have:=x3.1; omega
  have t32:h32[h3.size]? = some (.cells (List.toArray (wntV N)) 148 (0,0)):=by rw [v3 _ (nq _ ⟨hx3,z3⟩),u3 _ (nq _ ⟨hx3,z3⟩)]; exact t21
  have a32:h32[h.size]? = some (.cells #[.int .i64 0,.int .u64 0,.int .i64 0] 148 (0,0)):=by rw [v3 _ (nq _ ⟨hxh,zh⟩),u3 _ (nq _ ⟨hxh,zh⟩)]; exact a21
  obtain⟨h36,w1,w2,w3,w4⟩:=st_ex (o:=0) (wntV N) a32 (by simp [wntV]) (wntV_one N)
  have hqh:qb<h.size:=bnd qb R.own.1
  refine⟨_,rfl,N.track,cell_lst t21 rfl,qb,0,rfl,h30,u1,h32,v1,_,_,_,lN t32,h36,w1,_,_,_,ld_lst w2 3 0 (by simp [spl,wntV]),rfl,⟨by have:=c21.1; omega,fun y hy hn=>?_⟩,lb,lcb,?_,?_,⟨.inl R.own.1,fun y hy=>?_⟩,fun y hy=>?_,R21.len⟩
  ·have n1:y≠qb:=fun q=>hn (q ▸ R.own.1)
   rw [w3 y (by omega),v3 y n1,u3 y n1,c21.2 y (by omega) hn,x11.2 y (by omega),a2.2 y hy]
  ·rw [w3 _ (by omega),v2]; rfl
  ·have nb : ∀ y,blkOf lb y→y≠h.size:=fun y hy q=>by
    rcases R21.own.2 y hy with r | r
    ·exact hxh (q ▸ r)
    ·omega
   exact R21.L.keep fun y _ hb=>by rw [w3 y (nb y hb),v3 y (R21.lq hb),u3 y (R21.lq hb)]
  ·rcases R21.own.2 y hy with r | r
   ·exact .inl r
   ·exact .inr ⟨by omega,by omega⟩
  ·rcases hy with q | q
   ·have:=bnd y q; have:=c21.1; omega
   ·exact q.2
end
end Go.Proofs.Vf
