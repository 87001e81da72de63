/- Contracts of functions of the program over the heap, and laws that follow from them. Conditions: as stated at each. -/
import Derived.Test.YtcldahgjomfbpaaGreatBase
import Derived.Shelf.SlSortCmp.NoneTotal
import Derived.Shelf.SlicesG.Cmp
import Derived.Shelf.SlIterI.Nil
import Derived.Shelf.Lay
import Derived.Ground.SlsfProg
import Derived.Ground.SlgcProg
import Derived.Ground.GgzProg
import Derived.Test.YtcldahgjomfbpaaGreatV2
import Derived.Test.YtcldahgjomfbpaaGreatFWheel
namespace Go.Proofs
open Go.Shelf Go.RowKit Go.Lib Go.Sort Go.Maps
shelf_lay_g SlLaysF.n6 Slsf 6 at Tryz 184 as Tryz.sortA
shelf_lay_g SlLaysC2.n5 Slgc 5 at Tryz 169 as Tryz.cmpA
shelf_lay_g SlLaysZI.n7 Ggz 7 at Tryz 196 as Tryz.keysA
shelf_lay_g SlLaysZI.n8 Ggz 8 at Tryz 195 as Tryz.collA
end Go.Proofs
namespace Go.VC
theorem nodup_nat_bound : ∀ (n:Nat) (l:List Nat),l.Nodup→(∀ x∈l,x<n)→l.length≤n
 | 0,l,_,h=>by
  cases l with
  | nil=>simp
  | cons a l=>exact absurd (h a (by simp)) (by omega)
 | n+1,l,hn,h=>by
  have h1:=nodup_nat_bound n (l.erase n) (hn.erase n) (fun x hx=>by
   have a:=h x (List.mem_of_mem_erase hx)
   have b:x≠n:=fun e=>by subst e; exact (List.Nodup.not_mem_erase hn) hx
   omega)
  have:=List.length_erase (a:=n) (l:=l)
  split at this <;> omega
theorem nodup_int_bound {n:Nat} {l:List Int} (hn:l.Nodup) (h : ∀ x∈l,0≤x∧x<n):l.length≤n:=by
 have:=nodup_nat_bound n (l.map Int.toNat) (by
  rw [List.nodup_iff_pairwise_ne,List.pairwise_map]
  refine (List.nodup_iff_pairwise_ne.1 hn).imp_of_mem ?_
  intro a b ha hb hab e
  have:=h a ha; have:=h b hb; omega) (fun x hx=>by
  obtain⟨y,hy,rfl⟩:=List.mem_map.1 hx
  have:=h y hy; omega)
 simpa using this
theorem below_same {w w':World} {B:Nat} (h:Go.RowKit.Below B w w'):Same w w':=⟨h.tape,h.os,h.output⟩
end Go.VC
namespace Go.Proofs.Vf
open Go Go.Proofs Go.VC Go.Shelf Go.RowKit
theorem sl_of_ownsRow {w:World} {base e n:Nat} {v:Value} {xs:List Value} (h:w.ownsRow base e 1 v n xs) : ∃ a c,v = .slice a n c∧Sl w.heap e 1 a n c xs∧∀ x,blkOf a x→base≤x:=by
 obtain⟨h1,h2⟩:=h
 rcases h2 with⟨rfl,rfl⟩ | ⟨g,cap,cur,rfl,hb,hg,hn,hc,hs,ht⟩
 ·exact⟨none,0,rfl,⟨h1,.inl ⟨rfl,rfl,rfl⟩⟩,fun x hx=>absurd hx not_blkOf_none⟩
 ·refine⟨_,cap,rfl,⟨h1,.inr ⟨g,0,cur.toList,rfl,hg,hn,?_,?_⟩⟩,fun x hx=>by rw [blkOf_some] at hx; omega⟩
  ·rw [Array.length_toList]; omega
  ·rw [List.drop_zero]; exact ht
theorem collect_spec {h:Heap} {m:Option Nat} {l:List (ME Int)} {c B:Nat} {t:TypeId} (hm:mapAt (Value.int .i64) h m l c) (ok:mapOk l c) (hr : ∀ e∈l,0≤e.key∧e.key<1000) (hB:h[B]? = some (.cells #[.map m] t (0,0))) :
  CallsH PR Gn0 #[.func (.func Gl1) #[] #[.pointer (some ⟨B,0,none⟩)]] h
   (fun v h'=>∃ (a:Option Addr) (cap:Nat) (ks:List Int),v = .slice a ks.length cap∧ks.Perm (l.map (·.key))∧ks.length≤1000∧Ext h h'∧Sl h' ty_int 1 a ks.length cap (ks.map (Value.int .i64))∧∀ x,blkOf a x→h.size≤x):=by
 intro w hw
 have hBlt:B<w.heap.size:=by rw [hw]; exact (Array.getElem?_eq_some_iff.1 hB).1
 have hcell:w.cell? ⟨B,0,none⟩=some (.map m):=by simp [World.cell?,hw,hB]
 have hkb:(l.map (·.key)).length≤1000:=nodup_int_bound ok.2.2 fun x hx=>by
  obtain⟨e,he,rfl⟩:=List.mem_map.1 hx
  exact hr e he
 have fin : ∀ (e:Ending) (w':World),(∃ (v:Value) (ss:List Int),e = .returned v∧ss.Perm (l.map (·.key))∧w'.ownsRow w.heap.size ty_int 1 v ss.length (ss.map encZ)∧(v = .slice none 0 0↔ss = [])∧Below w.heap.size w w') →
   ∃ v,e = .returned v∧(∃ (a:Option Addr) (cap:Nat) (ks:List Int),v = .slice a ks.length cap∧ks.Perm (l.map (·.key))∧ks.length≤1000∧Ext h w'.heap∧Sl w'.heap ty_int 1 a ks.length cap (ks.map (Value.int .i64))∧∀ x,blkOf a x→h.size≤x)∧Same w w':=by
  rintro e w' ⟨v,ss,rfl,hp,hrow,_,hbl⟩
  obtain⟨a,cap,rfl,hs,hf⟩:=sl_of_ownsRow hrow
  refine⟨_,rfl,⟨a,cap,ss,rfl,hp,by rw [hp.length_eq]; exact hkb,⟨hw ▸ hbl.size,fun x hx=>?_⟩,hs,hw ▸ hf⟩,below_same hbl⟩
  rw [hbl.block x (by rw [hw]; exact hx),hw]
 cases m with
 | none=>
  obtain rfl:l = []:=hm
  have hseq:=AnyZI.keys_gives_nil (ρ:=Tryz.keysA_ren) { Tryz.keysA with } Fence.wide 3 trivial rfl B w hBlt hcell
  have cC:=AnyZI.collect_in Tryz.collA Fence.wide 5 trivial trivial rfl (by omega) Gl1 #[.pointer (some ⟨B,0,none⟩)] trivial (enters_of Tryz.func202 (by kernel_rfl) rfl) _ 0 (by decide) (by decide) w hseq
  refine ((callsIn_wide (n:=5)).1 cC).mono ?_
  rintro e w' ⟨v,ss,rfl,rfl,hrow,hnil,hbl⟩
  exact fin _ _ ⟨v,[],rfl,.refl _,hrow,hnil,hbl⟩
 | some b=>
  have hmb:h[b]? = some (mobj (Value.int .i64) l c):=hm
  have hkey : ∀ e∈l,keyOf Tryz.prog 3 (.int .i64 e.key)=some (.int .i64 e.key):=fun e he=>Go.Maps.keyOf_int_mk Tryz.keysA.t26 (by have:=hr e he; simp [Lit.wf,IntKind.bits,IntKind.signed,IntKind.min,IntKind.max]; omega)
  have hrd : ∀ e∈l,Go.WideElems.rg (H:=Unit) Tryz.prog 3 (fun _=>some (.nil,[])) (ME.ent (Value.int .i64) e)=(.int .i64 e.key,.nil):=fun e he=>by
   simp [Go.WideElems.rg,Go.WideElems.rd,ME.ent,hkey e he]
  have hown:w.ownsMap (H:=Unit) Tryz.prog 3 (fun _=>some (.nil,[])) b 1000 (.map (((l.map (ME.ent (Value.int .i64))).map (Go.WideElems.rg Tryz.prog 3 (fun _=>some (.nil,[])))).foldr DataW.insert [])):=by
   refine⟨_,c,by rw [hw]; exact hmb,⟨?_,?_,?_⟩,?_,rfl⟩
   ·simp at hkb ⊢
    have:1000≤maxLen:=by decide
    omega
   ·rw [Go.MapKept.stamped_iff]
    refine⟨?_,?_,?_⟩
    ·intro x hx
     obtain⟨e,he,rfl⟩:=List.mem_map.1 hx
     exact ok.1 e he
    ·have:=ok.2.1
     simpa [ME.ent,Function.comp_def] using this
    ·have:=ok.2.2
     rw [List.nodup_iff_pairwise_ne,List.pairwise_map] at this
     rw [List.pairwise_map]
     refine this.imp ?_
     intro a b hab e
     exact hab (by simpa [ME.ent] using e)
   ·intro x hx
    obtain⟨e,he,rfl⟩:=List.mem_map.1 hx
    exact⟨(.int .i64 e.key,.nil),by simp [Go.WideElems.rd,ME.ent,hkey e he]⟩
   ·simpa using hkb
  obtain⟨D0,hD0⟩ : ∃ D0:DataW Unit,D0 = .map (((l.map (ME.ent (Value.int .i64))).map (Go.WideElems.rg Tryz.prog 3 (fun _=>some (.nil,[])))).foldr DataW.insert []):=⟨_,rfl⟩
  rw [← hD0] at hown
  have hperm0:(((l.map (ME.ent (Value.int .i64))).map (Go.WideElems.rg (H:=Unit) Tryz.prog 3 (fun _=>some (.nil,[])))).foldr DataW.insert []).Perm (l.map fun e=>(Lit.int .i64 e.key,DataW.nil)):=by
   refine (Go.WideShapes.sorted_perm _).trans ?_
   rw [List.map_map]
   have:l.map (Go.WideElems.rg (H:=Unit) Tryz.prog 3 (fun _=>some (.nil,[])) ∘ ME.ent (Value.int .i64))=l.map fun e=>(Lit.int .i64 e.key,DataW.nil):=by
    apply List.map_congr_left; intro e he; rw [Function.comp_apply]; exact hrd e he
   rw [this]
  have hkeys:(intKeys D0).Perm (l.map (·.key)):=by
   rw [hD0]
   refine (hperm0.map (fun (p:Lit × DataW Unit)=>Go.intOf p.1)).trans ?_
   rw [List.map_map]
   exact .refl _
  have hsize:Go.Maps.size D0≤1000:=by
   have h1:=hkeys.length_eq
   rw [hD0] at h1 ⊢
   simp only [intKeys,List.length_map,Go.Maps.size] at h1 hkb ⊢
   omega
  have hseq:=AnyZI.keys_gives (ρ:=Tryz.keysA_ren) { Tryz.keysA with } Fence.wide 3 trivial rfl (by omega) B b 1000 D0 w hBlt hcell hown
  have hml:1000≤maxLen:=by decide
  have cC:=AnyZI.collect_in Tryz.collA Fence.wide 5 trivial trivial rfl (by omega) Gl1 #[.pointer (some ⟨B,0,none⟩)] trivial (enters_of Tryz.func202 (by kernel_rfl) rfl) _ _ (by omega) (by omega) w hseq
  refine ((callsIn_wide (n:=5)).1 cC).mono ?_
  rintro e w' ⟨v,ss,rfl,hp,hrow,hnil,hbl⟩
  exact fin _ _ ⟨v,ss,rfl,hp.trans hkeys,hrow,hnil,hbl⟩
section
open Go.Lib Go.Sort
theorem ltK (x y:Int):ltOf compareInt x y=decide (x<y):=by
 unfold ltOf compareInt
 by_cases h1:x<y
 ·simp [h1]
 ·by_cases h2:y<x <;> simp [h1,h2]
theorem swoK:SWO (ltOf compareInt) where
 irrefl x:=by rw [ltK]; simp
 trans x y z h1 h2:=by rw [ltK] at *; simp at *; omega
 ntrans x y z h1 h2:=by rw [ltK] at *; simp at *; omega
theorem cmp_lays (blk off size:Nat) (w:World):CmpLays1 Tryz.prog Ghm #[] (Value.int .i64) compareInt blk off size w:=
 fun m os dk _ x y=>(AnyG.cmp_Compare_int Tryz.cmpA x y _).mono fun _ _ ⟨he,hw⟩=>⟨he,0,#[],by rw [hw]; simp [World.drewN]⟩
theorem sortFunc_spec {h:Heap} {a:Option Addr} {cap:Nat} {ks:List Int} (s:Sl h ty_int 1 a ks.length cap (ks.map (Value.int .i64))) (hb:ks.length<1000000) :
  CallsH PR Gn7 #[.slice a ks.length cap,.func (.func Ghm) #[] #[]] h
   (fun v h'=>v = .tuple #[]∧∃ ks':List Int,ks'.Perm ks∧Sl h' ty_int 1 a ks'.length cap (ks'.map (Value.int .i64))∧Ch (blkOf a) h h'):=by
 intro w hw
 subst hw
 by_cases hz:ks = []
 ·subst hz
  have hc:=AnyF.slices_SortFunc_none (ρ:=Tryz.sortA_ren) { Tryz.sortA with } a cap (.func (.func Ghm) #[] #[]) w
  refine hc.mono ?_
  rintro e w' ⟨rfl,rfl⟩
  exact⟨_,rfl,⟨rfl,[],.refl _,s,Ch.refl _ _⟩,Same.refl _⟩
 ·rcases s.2 with⟨rfl,hn,rfl⟩ | ⟨blk,off,cur,rfl,hblk,hn,hc,hq⟩
  ·exact absurd (List.eq_nil_of_length_eq_zero hn) hz
  ·have hlt:blk<w.heap.size:=lt_of_get hblk
   simp only [Nat.mul_one] at hc hq
   have hcur : ∀ j,(hj:j<ks.length)→cur[off+j]? = some (.int .i64 ks[j]):=fun j hj=>by
    have h1:(ks.map (Value.int .i64))[j]? = some (.int .i64 ks[j]):=by simp [hj]
    rw [← hq,List.getElem?_take,if_pos hj,List.getElem?_drop] at h1
    exact h1
   have hH:Holds (Value.int .i64) w blk off ks.toArray:=fun j hj=>by
    have hj':j<ks.length:=by simpa using hj
    refine⟨?_,by simp [World.frozen?,hblk]⟩
    have:cur[off+j]? = some (.int .i64 ks.toArray[j]!):=by rw [hcur j hj']; simp [hj']
    simp only [World.cell?,hblk]
    simpa using this
   have cS:=Any.slices_SortFunc (ρ:=Tryz.sortA_ren) Tryz.sortA (Value.int .i64) (fun _=>rfl) compareInt swoK Ghm #[] blk off cap ks.toArray w (enters_of Tryz.func169 (by kernel_rfl) rfl) (cmp_lays _ _ _ _) hH hlt (by simp; omega)
   have e0:ks.toArray.size=ks.length:=by simp
   rw [e0] at cS
   refine cS.mono ?_
   rintro e w' ⟨rfl,d',n,os,hp,_,rfl⟩
   have hsz:d'.size=ks.length:=by rw [hp.1]; simp
   have hpm:d'.toList.Perm ks:=by
    have:=hp.2.2
    simpa [Array.extract_eq_self_of_le,hsz] using this
   have hls:d'.toList.length=ks.length:=hpm.length_eq
   have hheap : ∀ k,k<w.heap.size→k≠blk→(sortWorld (Value.int .i64) w blk off n d' os).heap[k]? = w.heap[k]?:=fun k hk hne=>by
    show ((w.heap.modify blk _) ++ os)[k]? = _
    rw [Array.getElem?_append_left (by simpa using hk),Array.getElem?_modify,if_neg (fun e=>hne e.symm)]
   have hblk':(sortWorld (Value.int .i64) w blk off n d' os).heap[blk]? = some (.cells (putCells (Value.int .i64) off d' cur.toArray) ty_int (0,0)):=by
    show ((w.heap.modify blk _) ++ os)[blk]? = _
    rw [Array.getElem?_append_left (by simpa using hlt),Array.getElem?_modify,if_pos rfl,hblk]; rfl
   refine⟨_,rfl,⟨rfl,d'.toList,hpm,⟨by simp,.inr ⟨blk,off,(putCells (Value.int .i64) off d' cur.toArray).toList,rfl,hblk',by omega,?_,?_⟩⟩,⟨?_,fun k hk hn=>hheap k hk fun e=>hn (blkOf_some.2 e)⟩⟩,⟨rfl,rfl,rfl⟩⟩
   ·simp [putCells]; omega
   ·apply List.ext_getElem?
    intro j
    rw [Nat.mul_one,hls,List.getElem?_take,List.getElem?_drop]
    by_cases hj:j<ks.length
    ·rw [if_pos hj]
     have h1:off+j<cur.length:=by omega
     have h2:j<d'.size:=by omega
     simp only [putCells,Array.getElem?_toList,Array.getElem?_mapIdx]
     simp [h1,h2]
    ·rw [if_neg hj,List.getElem?_eq_none (by simp; omega)]
   ·show w.heap.size≤((w.heap.modify blk _) ++ os).size
    simp
end
end Go.Proofs.Vf
namespace Go.Proofs.Vf
open Go Go.Proofs Go.VC
def prt (t:Int) (k:Nat):Nat:=t.toNat / 16 ^ k % 16
theorem prt_lt (t:Int) (k:Nat):prt t k<16:=Nat.mod_lt _ (by omega)
theorem wrap_mod16 (q:Nat):bitsAnd .i64 (IntKind.i64.wrap (q:Int)) 15=((q % 16:Nat):Int):=by
 have h1:(BitVec.ofInt 64 (IntKind.i64.wrap (q:Int)))=BitVec.ofNat 64 q:=by
  apply BitVec.eq_of_toNat_eq
  simp only [BitVec.toNat_ofInt,BitVec.toNat_ofNat,IntKind.wrap,IntKind.bits,IntKind.signed]
  simp
  split <;> omega
 unfold bitsAnd
 have h2:((BitVec.ofInt IntKind.i64.bits (IntKind.i64.wrap (q:Int))) &&& (BitVec.ofInt IntKind.i64.bits 15)).toNat=q % 16:=by
  show ((BitVec.ofInt 64 (IntKind.i64.wrap (q:Int))) &&& (BitVec.ofInt 64 15)).toNat=q % 16
  rw [h1]
  simp only [BitVec.toNat_and,BitVec.toNat_ofNat,BitVec.toNat_ofInt]
  have e15:((15:Int) % (((2 ^ 64:Nat)):Int)).toNat=2 ^ 4 - 1:=by decide
  rw [e15,Nat.and_two_pow_sub_one_eq_mod]
  omega
 rw [h2]
 exact wrap_i64 ⟨by omega,by omega⟩
theorem part_spec (t lv:Int) (h:Heap) (ht:0≤t) (ht':t<18446744073709551616) (h0:0≤lv) (h15:lv≤15) :
  CallsH PR Go3 #[.int .u64 t,.int .i64 lv] h (fun v h'=>v = .int .i64 (prt t lv.toNat:Nat)∧h'=h):=by
 apply Gff
 unfold Gfe
 refine⟨by omega,by omega,?_,rfl⟩
 obtain⟨n,rfl⟩:=Int.eq_ofNat_of_zero_le ht
 obtain⟨k,rfl⟩:=Int.eq_ofNat_of_zero_le h0
 have hk:k≤15:=by omega
 have e1:(min (4 * (k:Int)).toNat IntKind.u64.bits)=4 * k:=by
  show min (4 * (k:Int)).toNat 64=4 * k
  omega
 rw [e1]
 have e2:((2:Int) ^ (4 * k))=((16 ^ k:Nat):Int):=by
  rw [Int.pow_mul]; simp
 rw [e2]
 have e3:((n:Int).fdiv ((16 ^ k:Nat):Int))=((n / 16 ^ k:Nat):Int):=by
  rw [Int.fdiv_eq_ediv_of_nonneg _ (Int.natCast_nonneg _)]; simp
 rw [e3]
 congr 1
 rw [wrap_mod16]
 simp [prt]
structure Spot where
 t:Int
 lv:Nat
 pl:Nat
def Spot.v (s:Spot):Value:=.agg #[.int .u64 s.t,.int .i64 s.lv,.int .i64 s.pl]
def Spot.ix (s:Spot):Nat:=s.lv * 16+s.pl
abbrev ikey:Int→Value:=Value.int .i64
structure WheelP (Own:Nat→Prop) (h:Heap) (wb:Nat) (S:Int→Option Spot) (now:Int) (rows:List (Option Nat)) (ma:Nat) (l:List (ME Int)) (c:Nat):Prop where
 len:rows.length=256
 blk:h[wb]? = some (.cells ((rows.map Value.map) ++ [Value.map (some ma),Value.int .u64 now]).toArray ty_wheel_Wheel (0,0))
 all:h[ma]? = some (mobj ikey l c)
 ok:mapOk l c
 spots : ∀ id,mlook l id=(S id).map Spot.v
 rng : ∀ id s,S id=some s→s.lv<16∧s.pl<16∧0≤s.t∧s.t<4611686018427387904
 ids : ∀ id s,S id=some s→0≤id∧id<1000
 row : ∀ (i r:Nat),rows[i]? = some (some r)→∃ lr cr,h[r]? = some (mobj ikey lr cr)∧mapOk lr cr ∧
  ∀ k,(mlook lr k=some (.bool true)∧∃ s,S k=some s∧s.ix=i)∨(mlook lr k=none∧∀ s,S k=some s→s.ix≠i)
 has : ∀ id s,S id=some s→∃ r,rows[s.ix]? = some (some r)
 inj : ∀ (i j r:Nat),rows[i]? = some (some r)→rows[j]? = some (some r)→i=j
 nma : ∀ (i:Nat),rows[i]?≠some (some ma)
 own:Own wb∧Own ma∧∀ (i r:Nat),rows[i]? = some (some r)→Own r
 bnd : ∀ x,Own x→x<h.size
 nowr:0≤now∧now<4611686018427387904
def WheelS (Own:Nat→Prop) (h:Heap) (wb:Nat) (S:Int→Option Spot) (now:Int):Prop:=
 ∃ rows ma l c,WheelP Own h wb S now rows ma l c
theorem WheelP.mono {Own Own':Nat→Prop} {h:Heap} {wb:Nat} {S:Int→Option Spot} {now:Int} {rows ma l c} (W:WheelP Own h wb S now rows ma l c) (ho : ∀ x,Own x→Own' x) (hb : ∀ x,Own' x→x<h.size):WheelP Own' h wb S now rows ma l c:=
 {W with own:=⟨ho _ W.own.1,ho _ W.own.2.1,fun i r hr=>ho _ (W.own.2.2 i r hr)⟩,bnd:=hb }
theorem WheelS.mono {Own Own':Nat→Prop} {h:Heap} {wb:Nat} {S:Int→Option Spot} {now:Int} (W:WheelS Own h wb S now) (ho : ∀ x,Own x→Own' x) (hb : ∀ x,Own' x→x<h.size):WheelS Own' h wb S now:=by
 obtain⟨rows,ma,l,c,W⟩:=W; exact⟨rows,ma,l,c,W.mono ho hb⟩
theorem WheelS.bnd {Own:Nat→Prop} {h:Heap} {wb:Nat} {S:Int→Option Spot} {now:Int} (W:WheelS Own h wb S now) : ∀ x,Own x→x<h.size:=by
 obtain⟨rows,ma,l,c,W⟩:=W; exact W.bnd
theorem WheelP.keep {Own:Nat→Prop} {h h':Heap} {wb:Nat} {S:Int→Option Spot} {now:Int} {rows ma l c} (W:WheelP Own h wb S now rows ma l c) (hz:h.size≤h'.size) (hk : ∀ x,x<h.size→Own x→h'[x]? = h[x]?):WheelP Own h' wb S now rows ma l c:=
 {W with
  blk:=by rw [hk _ (lt_of_get W.blk) W.own.1]; exact W.blk
  all:=by rw [hk _ (lt_of_get W.all) W.own.2.1]; exact W.all
  bnd:=fun x hx=>Nat.lt_of_lt_of_le (W.bnd x hx) hz
  row:=fun i r hr=>by
   obtain⟨lr,cr,hb,h2⟩:=W.row i r hr
   exact⟨lr,cr,by rw [hk _ (lt_of_get hb) (W.own.2.2 i r hr)]; exact hb,h2⟩ }
theorem WheelS.keep {Own:Nat→Prop} {h h':Heap} {wb:Nat} {S:Int→Option Spot} {now:Int} (W:WheelS Own h wb S now) (hz:h.size≤h'.size) (hk : ∀ x,x<h.size→Own x→h'[x]? = h[x]?):WheelS Own h' wb S now:=by
 obtain⟨rows,ma,l,c,W⟩:=W; exact⟨rows,ma,l,c,W.keep hz hk⟩
theorem WheelS.ext {Own:Nat→Prop} {h h':Heap} {wb:Nat} {S:Int→Option Spot} {now:Int} (W:WheelS Own h wb S now) (e:Ext h h'):WheelS Own h' wb S now:=W.keep e.1 fun x hx _=>e.2 x hx
theorem WheelS.ch {Own F:Nat→Prop} {h h':Heap} {wb:Nat} {S:Int→Option Spot} {now:Int} (W:WheelS Own h wb S now) (e:Ch F h h') (hf : ∀ x,Own x→¬ F x):WheelS Own h' wb S now:=W.keep e.1 fun x hx ho=>e.2 x hx (hf x ho)
section
variable {Own:Nat→Prop} {h:Heap} {wb:Nat} {S:Int→Option Spot} {now:Int} {rows:List (Option Nat)} {ma:Nat} {l:List (ME Int)} {c:Nat}
theorem WheelP.cell_now (W:WheelP Own h wb S now rows ma l c):cellH h wb (0+257)=some (.int .u64 now):=
 cell_lst W.blk (by rw [List.getElem?_append_right (by simp [W.len])]; simp [W.len])
theorem WheelP.cell_all (W:WheelP Own h wb S now rows ma l c):cellH h wb (0+256)=some (.map (some ma)):=
 cell_lst W.blk (by rw [List.getElem?_append_right (by simp [W.len])]; simp [W.len])
theorem WheelP.cell_row (W:WheelP Own h wb S now rows ma l c) {i:Nat} {o:Option Nat} (hi:rows[i]? = some o):cellH h wb i=some (.map o):=by
 refine cell_lst W.blk ?_
 have hlt:i<rows.length:=(List.getElem?_eq_some_iff.1 hi).1
 rw [List.getElem?_append_left (by simpa using hlt),List.getElem?_map,hi]; rfl
theorem WheelP.row_at (W:WheelP Own h wb S now rows ma l c) {i:Nat} (hi:i<256) : ∃ o,rows[i]? = some o:=
 ⟨rows[i]'(by rw [W.len]; exact hi),List.getElem?_eq_getElem _⟩
end
theorem now_spec {Own:Nat→Prop} {h:Heap} {wb:Nat} {S:Int→Option Spot} {now:Int} (W:WheelS Own h wb S now) :
  CallsH PR Gnx #[.pointer (some ⟨wb,0,none⟩)] h (fun v h'=>v = .int .u64 now∧h'=h):=by
 obtain⟨rows,ma,l,c,W⟩:=W
 apply Gf3
 unfold Gf2
 exact⟨_,_,rfl,_,W.cell_now,rfl,rfl⟩
def lvlTo (t now:Int):Nat→Nat
 | 0=>0
 | k+1=>if prt t k≠prt now k then k else lvlTo t now k
def lvl (t now:Int):Nat:=lvlTo t now 16
theorem lvlTo_lt (t now:Int) : ∀ n,0<n→lvlTo t now n<n
 | 1,_=>by simp [lvlTo]
 | n+2,_=>by
  simp only [lvlTo]
  split
  ·omega
  ·have:=lvlTo_lt t now (n+1) (by omega); simp only [lvlTo] at this; omega
theorem lvl_lt (t now:Int):lvl t now<16:=lvlTo_lt t now 16 (by omega)
def spotOf (t now:Int):Spot:=⟨t,lvl t now,prt t (lvl t now)⟩
def upd {α : Type} (S:Int→Option α) (id:Int) (v:Option α) (k:Int):Option α:=if k=id then v else S k
theorem upd_same {α : Type} (S:Int→Option α) (id:Int) (v:Option α):upd S id v id=v:=by simp [upd]
theorem upd_other {α : Type} (S:Int→Option α) {id k:Int} (v:Option α) (h:k≠id):upd S id v k=S k:=by simp [upd,h]
end Go.Proofs.Vf
namespace Go.Proofs.Vf
open Go Go.Proofs Go.VC
theorem upd_none_spots {S:Int→Option Spot} {l:List (ME Int)} {c:Nat} (ho:mapOk l c) (hs : ∀ id,mlook l id=(S id).map Spot.v) (id:Int) : ∀ k,mlook (mdel l id) k=(upd S id none k).map Spot.v:=by
 intro k
 rw [mlook_mdel ho]
 unfold upd
 split
 ·rfl
 ·exact hs k
section
variable {Own:Nat→Prop} {h:Heap} {wb:Nat} {S:Int→Option Spot} {now:Int}
theorem WheelP.drop {h':Heap} {rows:List (Option Nat)} {ma:Nat} {l:List (ME Int)} {c:Nat} (W:WheelP Own h wb S now rows ma l c) {id:Int} {s:Spot} (hs:S id=some s) {r:Nat} (hr:rows[s.ix]? = some (some r)) {lr:List (ME Int)} {cr:Nat}
  (hlr:h[r]? = some (mobj ikey lr cr))
  (e1:h'[r]? = some (mobj ikey (mdel lr id) cr)) (e2:h'[ma]? = some (mobj ikey (mdel l id) c)) (e3 : ∀ x,x<h.size→x≠r→x≠ma→h'[x]? = h[x]?) (hz:h.size≤h'.size):WheelP Own h' wb (upd S id none) now rows ma (mdel l id) c:=by
 have hwr:wb≠r:=ne_map_cells W.blk hlr
 have hwm:wb≠ma:=ne_map_cells W.blk W.all
 exact
 {len:=W.len
  blk:=by rw [e3 _ (lt_of_get W.blk) hwr hwm]; exact W.blk
  all:=e2
  ok:=mdel_ok W.ok
  spots:=upd_none_spots W.ok W.spots id
  rng:=fun k s' h'=>by
   unfold upd at h'; split at h'
   ·cases h'
   ·exact W.rng k s' h'
  ids:=fun k s' h'=>by
   unfold upd at h'; split at h'
   ·cases h'
   ·exact W.ids k s' h'
  row:=fun i r' hi=>by
   obtain⟨lr',cr',g1,g2,g3⟩:=W.row i r' hi
   by_cases hrr:r'=r
   ·subst hrr
    have hi':=W.inj i s.ix r' hi hr
    subst hi'
    rw [hlr] at g1
    obtain⟨rfl,rfl⟩:lr=lr'∧cr=cr':=by
     exact mobj_int_inj (Option.some.inj g1)
    refine⟨_,_,e1,mdel_ok g2,fun k=>?_⟩
    rw [mlook_mdel g2]
    by_cases hk:k=id
    ·subst hk; right; simp [upd]
    ·simp only [hk,if_false,upd]; exact g3 k
   ·refine⟨lr',cr',?_,g2,fun k=>?_⟩
    ·rw [e3 _ (lt_of_get g1) hrr (fun e=>W.nma i (e ▸ hi))]; exact g1
    ·by_cases hk:k=id
     ·subst hk
      right
      refine⟨?_,by simp [upd]⟩
      rcases g3 k with⟨_,s',hs',hix⟩ | ⟨hn,_⟩
      ·rw [hs] at hs'; cases hs'
       rw [hix,hi] at hr; cases hr; exact absurd rfl hrr
      ·exact hn
     ·simp only [hk,if_false,upd]; exact g3 k
  has:=fun k s' h'=>by
   unfold upd at h'; split at h'
   ·cases h'
   ·exact W.has k s' h'
  inj:=W.inj
  nma:=W.nma
  own:=W.own
  bnd:=fun x hx=>Nat.lt_of_lt_of_le (W.bnd x hx) hz
  nowr:=W.nowr }
theorem drop_spec (W:WheelS Own h wb S now) {id:Int} {s:Spot} (hs:S id=some s) :
  CallsH PR Gnz #[.pointer (some ⟨wb,0,none⟩),.int .i64 id] h (fun v h'=>v = .tuple #[]∧Ch Own h h'∧WheelS Own h' wb (upd S id none) now):=by
 obtain⟨rows,ma,l,c,W⟩:=W
 obtain⟨r,hr⟩:=W.has id s hs
 obtain⟨q1,q2,q3,q4⟩:=W.rng id s hs
 obtain⟨lr,cr,g1,g2,g3⟩:=W.row _ r hr
 apply Gf7
 unfold Gf6
 refine⟨_,_,rfl,_,W.cell_all,l,c,W.all,s.t,s.lv,s.pl,by rw [W.spots,hs]; rfl,?_⟩
 intro h1 e1
 obtain⟨h2,s1,s2,s3,s4⟩:=st_tmp (zs:=[_,_,_]) e1 [.int .u64 s.t,.int .i64 s.lv,.int .i64 s.pl] rfl (by simp [Value.oneCell'])
 refine⟨h2,s1,_,cell_lst s2 rfl,_,cell_lst s2 rfl,⟨by omega,by omega⟩,⟨by omega,by omega⟩,_,?_,r,rfl,lr,cr,s3.get g1,?_⟩
 ·have:=W.cell_row hr
  have e:0+(s.lv:Int).toNat * 16+(s.pl:Int).toNat * 1=s.ix:=by simp [Spot.ix]
  rw [e]; exact s3.cell this
 intro h3 e3
 obtain⟨t1,t2,t3⟩:=set_get e3 (s3.get g1)
 have hmr:ma≠r:=fun e=>W.nma _ (e ▸ hr)
 have hwr:wb≠r:=ne_map_cells W.blk g1
 have hma3:h3[ma]? = some (mobj ikey l c):=by rw [t2 _ hmr]; exact s3.get W.all
 refine⟨some ma,?_,ma,rfl,l,c,hma3,?_⟩
 ·rw [cell_congr (t2 wb hwr)]; exact s3.cell W.cell_all
 intro h4 e4
 obtain⟨u1,u2,u3⟩:=set_get e4 hma3
 have hx : ∀ x,x<h.size→x≠r→x≠ma→h4[x]? = h[x]?:=fun x hx a b=>by rw [u2 x b,t2 x a,s3.2 x hx]
 refine⟨rfl,⟨by omega,fun x hx' ho=>hx x hx' (fun e=>ho (e ▸ W.own.2.2 _ _ hr)) (fun e=>ho (e ▸ W.own.2.1))⟩,rows,ma,_,c,W.drop hs hr g1 ?_ u1 hx (by omega)⟩
 rw [u2 r (fun e=>hmr e.symm)]; exact t1
end
end Go.Proofs.Vf
namespace Go.Proofs.Vf
open Go Go.Proofs Go.VC
section
variable {Own:Nat→Prop} {h:Heap} {wb:Nat} {S:Int→Option Spot} {now:Int}
theorem WheelP.newRow {h1 h2:Heap} {rows:List (Option Nat)} {ma:Nat} {l:List (ME Int)} {c:Nat} (W:WheelP Own h wb S now rows ma l c) {i:Nat} (hi:rows[i]? = some none)
  (e1:h1=h.push (.map #[] 0)) (e2:stCells wb h1 i [.map (some h.size)]=some h2) :
  WheelP (Grow Own h h2) h2 wb S now (rows.set i (some h.size)) ma l c∧Ch Own h h2:=by
 obtain⟨p1,p2,p3⟩:=push_get e1
 have hlt:i<rows.length:=(List.getElem?_eq_some_iff.1 hi).1
 obtain⟨h2',q1,q2,q3,q4⟩:=st_ex (o:=i) [.map (some h.size)] (p2.get W.blk) (by simp; omega) (by simp [Value.oneCell'])
 obtain rfl:h2'=h2:=by rw [q1] at e2; exact Option.some.inj e2
 have hwlt:=lt_of_get W.blk
 have hk : ∀ x,x<h.size→x≠wb→h2'[x]? = h[x]?:=fun x hx hw=>by rw [q3 x hw]; exact p2.2 x hx
 refine⟨?_,⟨by omega,fun x hx ho=>hk x hx (fun e=>ho (e ▸ W.own.1))⟩⟩
 have hnew : ∀ j r,(rows.set i (some h.size))[j]? = some (some r)→(j=i∧r=h.size)∨(j≠i∧rows[j]? = some (some r)):=by
  intro j r hj
  rw [List.getElem?_set] at hj
  split at hj
  ·rename_i e; subst e
   left; exact⟨rfl,by simpa using hj.symm⟩
  ·rename_i e; right; exact⟨fun q=>e q.symm,hj⟩
 exact
 {len:=by rw [List.length_set]; exact W.len
  blk:=by
   rw [q2,spl_one (by simp; omega)]
   rw [List.set_append_left _ _ (by simpa using hlt),List.map_set]
  all:=by
   rw [hk _ (lt_of_get W.all) (fun e=>ne_map_cells W.blk W.all e.symm)]; exact W.all
  ok:=W.ok
  spots:=W.spots
  rng:=W.rng
  ids:=W.ids
  row:=fun j r hj=>by
   rcases hnew j r hj with⟨rfl,rfl⟩ | ⟨hne,hj⟩
   ·refine⟨[],0,?_,mapOk_nil _ _,fun k=>Or.inr ⟨rfl,fun s hs hx=>?_⟩⟩
    ·rw [q3 _ (by omega)]; exact p1
    ·obtain⟨r,hr⟩:=W.has k s hs
     rw [hx,hi] at hr; cases hr
   ·obtain⟨lr,cr,g1,g2,g3⟩:=W.row j r hj
    refine⟨lr,cr,?_,g2,g3⟩
    rw [hk _ (lt_of_get g1) (fun e=>ne_map_cells W.blk g1 e.symm)]; exact g1
  has:=fun k s hs=>by
   obtain⟨r,hr⟩:=W.has k s hs
   have hne : ¬ i=s.ix:=fun e=>by rw [← e,hi] at hr; cases hr
   exact⟨r,by rw [List.getElem?_set,if_neg hne]; exact hr⟩
  inj:=fun a b r ha hb=>by
   rcases hnew a r ha with⟨e1,e2⟩ | ⟨n1,g1⟩ <;> rcases hnew b r hb with⟨e3,e4⟩ | ⟨n2,g2⟩
   ·omega
   ·obtain⟨lr,cr,g1,-⟩:=W.row b r g2
    have:=lt_of_get g1; omega
   ·obtain⟨lr,cr,g1,-⟩:=W.row a r g1
    have:=lt_of_get g1; omega
   ·exact W.inj a b r g1 g2
  nma:=fun j hj=>by
   rcases hnew j _ hj with⟨e1,e2⟩ | ⟨n1,g1⟩
   ·have:=lt_of_get W.all; omega
   ·exact W.nma j g1
  own:=⟨Or.inl W.own.1,Or.inl W.own.2.1,fun j r hj=>by
   rcases hnew j r hj with⟨e1,e2⟩ | ⟨n1,g1⟩
   ·right; omega
   ·exact Or.inl (W.own.2.2 j r g1)⟩
  bnd:=fun x hx=>by
   rcases hx with o | o
   ·have:=W.bnd x o; omega
   ·exact o.2
  nowr:=W.nowr }
theorem WheelP.put {h':Heap} {rows:List (Option Nat)} {ma:Nat} {l:List (ME Int)} {c:Nat} (W:WheelP Own h wb S now rows ma l c) {id:Int} {s:Spot} (hid:S id=none) {r:Nat} (hr:rows[s.ix]? = some (some r)) {lr:List (ME Int)} {cr:Nat}
  (hlr:h[r]? = some (mobj ikey lr cr)) (hrng:s.lv<16∧s.pl<16∧0≤s.t∧s.t<4611686018427387904)
  (e1:h'[r]? = some (mobj ikey (mput lr id (.bool true) cr) (mclk lr id cr))) (e2:h'[ma]? = some (mobj ikey (mput l id s.v c) (mclk l id c))) (e3 : ∀ x,x<h.size→x≠r→x≠ma→h'[x]? = h[x]?) (hz:h.size≤h'.size) (hir:0≤id∧id<1000) :
  WheelP Own h' wb (upd S id (some s)) now rows ma (mput l id s.v c) (mclk l id c):=by
 have hwr:wb≠r:=ne_map_cells W.blk hlr
 have hwm:wb≠ma:=ne_map_cells W.blk W.all
 exact
 {len:=W.len
  blk:=by rw [e3 _ (lt_of_get W.blk) hwr hwm]; exact W.blk
  all:=e2
  ok:=mput_ok W.ok
  spots:=fun k=>by
   rw [mlook_mput]; unfold upd
   split
   ·rfl
   ·exact W.spots k
  rng:=fun k s' h'=>by
   unfold upd at h'; split at h'
   ·cases h'; exact hrng
   ·exact W.rng k s' h'
  ids:=fun k s' h'=>by
   unfold upd at h'; split at h'
   ·rename_i e; rw [e]; exact hir
   ·exact W.ids k s' h'
  row:=fun i r' hi=>by
   obtain⟨lr',cr',g1,g2,g3⟩:=W.row i r' hi
   by_cases hrr:r'=r
   ·subst hrr
    have hi':=W.inj i s.ix r' hi hr
    subst hi'
    rw [hlr] at g1
    obtain⟨rfl,rfl⟩:lr=lr'∧cr=cr':=mobj_int_inj (Option.some.inj g1)
    refine⟨_,_,e1,mput_ok g2,fun k=>?_⟩
    rw [mlook_mput]
    by_cases hk:k=id
    ·subst hk; left; simp [upd]
    ·simp only [hk,if_false,upd]; exact g3 k
   ·refine⟨lr',cr',?_,g2,fun k=>?_⟩
    ·rw [e3 _ (lt_of_get g1) hrr (fun e=>W.nma i (e ▸ hi))]; exact g1
    ·by_cases hk:k=id
     ·subst hk
      right
      refine⟨?_,?_⟩
      ·rcases g3 k with⟨_,s',hs',hix⟩ | ⟨hn,_⟩
       ·rw [hid] at hs'; cases hs'
       ·exact hn
      ·intro s' hs' hx
       simp only [upd,if_true] at hs'
       cases hs'
       rw [hx,hi] at hr; cases hr; exact hrr rfl
     ·simp only [hk,if_false,upd]; exact g3 k
  has:=fun k s' h'=>by
   unfold upd at h'; split at h'
   ·cases h'; exact⟨r,hr⟩
   ·exact W.has k s' h'
  inj:=W.inj
  nma:=W.nma
  own:=W.own
  bnd:=fun x hx=>Nat.lt_of_lt_of_le (W.bnd x hx) hz
  nowr:=W.nowr }
theorem put_spec (W:WheelS Own h wb S now) {id t:Int} (hid:S id=none) (hir:0≤id∧id<1000) (ht:0≤t∧t<4611686018427387904) :
  CallsH PR Go2 #[.pointer (some ⟨wb,0,none⟩),.int .i64 id,.int .u64 t] h
   (fun v h'=>v = .tuple #[]∧Ch Own h h'∧WheelS (Grow Own h h') h' wb (upd S id (some (spotOf t now))) now):=by
 obtain⟨rows,ma,l,c,W⟩:=W
 have hnow:=W.nowr
 apply Gfd
 unfold Gfc
 refine⟨fun x1 x2 h'=>h'=h∧0≤x2∧x2≤16∧x1=(lvlTo t now x2.toNat:Nat),fun _ x2 _=>(16 - x2).toNat,⟨rfl,by omega,by omega,rfl⟩,?_⟩
 rintro x1 x2 h' ⟨rfl,hx0,hx1,rfl⟩
 refine⟨fun hlt=>?_,fun hge=>?_⟩
 ·refine⟨fun x8 h11=>h11=h'∧x8=(lvlTo t now (x2+1).toNat:Nat),?_,?_⟩
  ·rintro x8 h11 ⟨rfl,rfl⟩
   exact⟨⟨by omega,by omega⟩,⟨rfl,by omega,by omega,rfl⟩,by dsimp only; omega⟩
  ·refine⟨_,_,rfl,_,W.cell_now,?_⟩
   refine (part_spec t x2 h' ht.1 (by omega) (by omega) (by omega)).mono ?_
   rintro _ _ ⟨rfl,rfl⟩
   refine⟨_,rfl,W.cell_now,?_⟩
   refine (part_spec now x2 _ hnow.1 (by omega) (by omega) (by omega)).mono ?_
   rintro _ _ ⟨rfl,rfl⟩
   have e:(x2+1).toNat=x2.toNat+1:=by omega
   refine⟨_,rfl,fun hne=>⟨rfl,?_⟩,fun heq=>⟨rfl,?_⟩⟩
   ·rw [e]; simp only [lvlTo]
    rw [if_pos (fun q=>hne (by rw [q]))]; omega
   ·rw [e]; simp only [lvlTo]
    rw [if_neg (fun q=>q (by exact_mod_cast heq))]
 ·have e16:x2.toNat=16:=by omega
  rw [e16]
  have hl:=lvl_lt t now
  change CallsH PR Go3 #[_,.int .i64 (lvl t now:Nat)] _ _
  have el:((lvlTo t now 16:Nat):Int)=((lvl t now:Nat):Int):=rfl
  refine (part_spec t (lvl t now:Nat) h' ht.1 (by omega) (by omega) (by omega)).mono ?_
  rintro _ h2 ⟨rfl,rfl⟩
  rw [Int.toNat_natCast]
  refine⟨_,rfl,?_⟩
  have hp:=prt_lt t (lvl t now)
  have eix:0+((lvl t now:Nat):Int).toNat * 16+((prt t (lvl t now):Nat):Int).toNat * 1=(spotOf t now).ix:=by simp [Spot.ix,spotOf]
  rw [el]
  have hix:(spotOf t now).ix<256:=by simp only [Spot.ix,spotOf]; omega
  refine⟨fun h3=>∃ rows' r,WheelP (Grow Own h2 h3) h3 wb S now rows' ma l c∧rows'[(spotOf t now).ix]? = some (some r)∧Ch Own h2 h3,?_,?_⟩
  ·rintro h3 ⟨rows',r,W3,hr,hch⟩
   obtain⟨lr,cr,g1,g2,g3⟩:=W3.row _ r hr
   refine⟨_,_,rfl,⟨by omega,by omega⟩,⟨by omega,by omega⟩,_,?_,r,rfl,lr,cr,g1,?_⟩
   ·rw [eix]; exact W3.cell_row hr
   intro h4 e4
   obtain⟨t1,t2,t3⟩:=set_get e4 g1
   have hmr:ma≠r:=fun e=>W3.nma _ (e ▸ hr)
   have hwr:wb≠r:=ne_map_cells W3.blk g1
   have hma4:h4[ma]? = some (mobj ikey l c):=by rw [t2 _ hmr]; exact W3.all
   refine⟨some ma,?_,ma,rfl,l,c,hma4,?_⟩
   ·rw [cell_congr (t2 wb hwr)]; exact W3.cell_all
   intro h5 e5
   obtain⟨u1,u2,u3⟩:=set_get e5 hma4
   have hx : ∀ x,x<h3.size→x≠r→x≠ma→h5[x]? = h3[x]?:=fun x hx a b=>by rw [u2 x b,t2 x a]
   have W5:=W3.put (s:=spotOf t now) hid hr g1 ⟨hl,hp,ht.1,ht.2⟩ (by rw [u2 r (fun e=>hmr e.symm)]; exact t1) u1 hx (by omega) hir
   have hsz:h5.size=h3.size:=by omega
   refine⟨rfl,⟨by have:=hch.1; omega,fun x hx' ho=>?_⟩,_,_,_,_,W5.mono (fun x hg=>?_) ?_⟩
   ·have hsz:=hch.1
    rw [hx x (by omega) ?_ ?_]
    ·exact hch.2 x hx' ho
    ·intro e; subst e
     rcases W3.own.2.2 _ _ hr with o | o
     ·exact ho o
     ·omega
    ·intro e; subst e
     rcases W3.own.2.1 with o | o
     ·exact ho o
     ·omega
   ·rcases hg with o | o
    ·exact Or.inl o
    ·exact Or.inr (by omega)
   ·intro x hg
    rcases hg with o | o
    ·have:=W.bnd x o; have:=hch.1; omega
    ·exact o.2
  ·obtain⟨o,ho⟩:=W.row_at hix
   refine⟨_,_,rfl,⟨by omega,by omega⟩,⟨by omega,by omega⟩,o,by rw [eix]; exact W.cell_row ho,?_,?_⟩
   ·intro hn h3 e3
    obtain rfl:o=none:=by simpa using hn
    obtain⟨p1,p2,p3⟩:=push_get e3
    have hlt:(spotOf t now).ix<rows.length:=by rw [W.len]; exact hix
    obtain⟨h4,q1,-⟩:=st_ex (o:=(spotOf t now).ix) [.map (some h2.size)] (p2.get W.blk) (by simp; omega) (by simp [Value.oneCell'])
    obtain⟨W4,hch⟩:=W.newRow ho e3 q1
    refine⟨⟨by omega,by omega⟩,⟨by omega,by omega⟩,h4,by rw [eix]; exact q1,_,h2.size,W4,?_,hch⟩
    rw [List.getElem?_set,if_pos rfl,if_pos hlt]
   ·intro hn
    obtain⟨r,rfl⟩ : ∃ r,o=some r:=by cases o with
     | none=>simp at hn
     | some r=>exact⟨r,rfl⟩
    exact⟨rows,r,W.mono (fun x ho=>Or.inl ho) (fun x hg=>by rcases hg with o | o; exact W.bnd x o; exact o.2),ho,Ch.refl _ _⟩
end
end Go.Proofs.Vf
namespace Go.Proofs.Vf
open Go Go.Proofs Go.VC
theorem div_succ (n k:Nat):n / 16 ^ (k+1)=n / 16 ^ k / 16:=by rw [Nat.pow_succ,Nat.div_div_eq_div_mul]
theorem div_le_pow {a b:Nat} {k j:Nat} (h:a / 16 ^ k=b / 16 ^ k) (hj:k≤j):a / 16 ^ j=b / 16 ^ j:=by
 obtain⟨d,rfl⟩:=Nat.exists_eq_add_of_le hj
 rw [Nat.pow_add,← Nat.div_div_eq_div_mul,← Nat.div_div_eq_div_mul,h]
theorem lt_of_div {a b c:Nat} (h:a / c<b / c):a<b:=by
 apply Nat.lt_of_not_le
 intro hle
 have:=Nat.div_le_div_right (c:=c) hle
 omega
theorem lvlTo_top (t now:Int) : ∀ n,t.toNat / 16 ^ n=now.toNat / 16 ^ n→t.toNat≠now.toNat →
  t.toNat / 16 ^ (lvlTo t now n+1)=now.toNat / 16 ^ (lvlTo t now n+1)∧prt t (lvlTo t now n)≠prt now (lvlTo t now n)
 | 0,h,hn=>by simp at h; exact absurd h hn
 | n+1,h,hn=>by
  simp only [lvlTo]
  split
  ·rename_i hd; exact⟨h,hd⟩
  ·rename_i hd
   have hd:prt t n=prt now n:=by simpa using hd
   refine lvlTo_top t now n ?_ hn
   rw [div_succ,div_succ] at h
   unfold prt at hd
   omega
structure After (t now:Int):Prop where
 up:t.toNat / 16 ^ (lvl t now+1)=now.toNat / 16 ^ (lvl t now+1)
 gt:prt now (lvl t now)<prt t (lvl t now)
 at_:now.toNat / 16 ^ lvl t now<t.toNat / 16 ^ lvl t now
theorem small_pow {t:Int} (h:t<4611686018427387904):t.toNat / 16 ^ 16=0:=by
 apply Nat.div_eq_of_lt
 have:(16:Nat) ^ 16=18446744073709551616:=by decide
 omega
theorem after {t now:Int} (h0:0≤now) (hlt:now<t) (h1:t<4611686018427387904):After t now:=by
 obtain⟨a,b⟩:=lvlTo_top t now 16 (by rw [small_pow h1,small_pow (by omega)]) (by omega)
 change t.toNat / 16 ^ (lvl t now+1)=now.toNat / 16 ^ (lvl t now+1) at a
 change prt t (lvl t now)≠prt now (lvl t now) at b
 have hle:now.toNat / 16 ^ lvl t now≤t.toNat / 16 ^ lvl t now:=Nat.div_le_div_right (by omega)
 have a':=a
 rw [div_succ,div_succ] at a'
 unfold prt at b
 refine⟨a,?_,?_⟩ <;> (try unfold prt) <;> omega
theorem lvl_order {a b now:Int} (h0:0≤now) (ha:now<a) (hb:now<b) (ha1:a<4611686018427387904) (hb1:b<4611686018427387904)
  (h:lvl a now<lvl b now∨(lvl a now=lvl b now∧prt a (lvl a now)<prt b (lvl b now))):a<b:=by
 have A:=after h0 ha ha1
 have B:=after h0 hb hb1
 have:a.toNat<b.toNat:=by
  rcases h with h | ⟨e,h⟩
  ·have:=div_le_pow A.up (show lvl a now+1≤lvl b now from h)
   have hB:=B.at_
   exact lt_of_div (c:=16 ^ lvl b now) (by omega)
  ·have hA:=A.up
   have hB:=B.up
   rw [e] at hA h
   rw [div_succ] at hA hB
   rw [div_succ] at hA hB
   unfold prt at h
   exact lt_of_div (c:=16 ^ lvl b now) (by omega)
 omega
def Good (S:Int→Option Spot) (now:Int):Prop:=∀ id s,S id=some s→now<s.t∧s=spotOf s.t now
def IsMin (S:Int→Option Spot) (t:Int):Prop:=(∃ id s,S id=some s∧s.t=t)∧∀ id s,S id=some s→t≤s.t
section
variable {Own:Nat→Prop} {h:Heap} {wb:Nat} {S:Int→Option Spot} {now:Int} {rows:List (Option Nat)} {ma:Nat} {l:List (ME Int)} {c:Nat}
theorem WheelP.rowMap (W:WheelP Own h wb S now rows ma l c) {i:Nat} (hi:i<256) : ∃ o lr cr,rows[i]? = some o∧mapAt ikey h o lr cr∧mapOk lr cr∧(o=none→lr = []) ∧
  ∀ k,(mlook lr k=some (.bool true)∧∃ s,S k=some s∧s.ix=i)∨(mlook lr k=none∧∀ s,S k=some s→s.ix≠i):=by
 obtain⟨o,ho⟩:=W.row_at hi
 cases o with
 | some r=>
  obtain⟨lr,cr,g1,g2,g3⟩:=W.row i r ho
  exact⟨_,lr,cr,ho,g1,g2,fun e=>(by cases e),g3⟩
 | none=>
  refine⟨none,[],0,ho,rfl,mapOk_nil _ _,fun _=>rfl,fun k=>Or.inr ⟨rfl,fun s hs hx=>?_⟩⟩
  obtain⟨r,hr⟩:=W.has k s hs
  rw [hx,ho] at hr; cases hr
theorem first_spec (W:WheelS Own h wb S now) (hg:Good S now) :
  CallsH PR Go0 #[.pointer (some ⟨wb,0,none⟩)] h
   (fun v h'=>∃ t b,v = .tuple #[.int .u64 t,.bool b]∧Ext h h'∧(b=true→IsMin S t)∧(b=false→∀ id,S id=none)):=by
 obtain⟨rows,ma,l,c,W⟩:=W
 have hnow:=W.nowr
 apply Gf9
 unfold Gf8
 refine⟨fun x h'=>h'=h∧0≤x∧x≤16∧∀ id s,S id=some s→x≤s.lv,fun x _=>(16 - x).toNat,⟨rfl,by omega,by omega,fun _ _ _=>by omega⟩,?_⟩
 rintro x h' ⟨rfl,hx0,hx1,hx⟩
 refine⟨fun hlt=>?_,fun hge=>?_⟩
 ·refine⟨_,_,rfl,_,W.cell_now,?_⟩
  refine (part_spec now x _ hnow.1 (by omega) (by omega) (by omega)).mono ?_
  rintro _ h2 ⟨rfl,rfl⟩
  have hpl:=prt_lt now x.toNat
  refine⟨_,rfl,fun y h3=>h3=h2∧0≤y∧y≤16∧∀ id s,S id=some s→(s.lv:Int)=x→y≤s.pl,fun y _=>(16 - y).toNat,⟨rfl,by omega,by omega,?_⟩,?_⟩
  ·intro id s hs he
   obtain⟨q1,q2⟩:=hg id s hs
   obtain⟨r1,r2,r3,r4⟩:=W.rng id s hs
   have A:=(after hnow.1 q1 r4).gt
   have e1:lvl s.t now=s.lv:=by rw [q2]; rfl
   have e2:prt s.t s.lv=s.pl:=by rw [q2]; rfl
   rw [e1,e2] at A
   have:x.toNat=s.lv:=by omega
   rw [this]; omega
  rintro y h3 ⟨rfl,hy0,hy1,hy⟩
  refine⟨fun hylt=>?_,fun hyge=>?_⟩
  ·have hix:x.toNat * 16+y.toNat<256:=by omega
   obtain⟨o,lr,cr,ho,hm,hok,hnil,hrow⟩:=W.rowMap hix
   have hc:cellH h3 wb (0+x.toNat * 16+y.toNat * 1)=some (.map o):=by
    have:=W.cell_row ho
    have e:0+x.toNat * 16+y.toNat * 1=x.toNat * 16+y.toNat:=by omega
    rw [e]; exact this
   refine⟨⟨by omega,by omega⟩,⟨by omega,by omega⟩,o,hc,lr,cr,hm,fun hz=>?_,fun hnz=>?_⟩
   ·refine⟨⟨by omega,by omega⟩,⟨rfl,by omega,by omega,?_⟩,by dsimp only; omega⟩
    intro id s hs he
    have h1:=hy id s hs he
    have : ¬ (s.pl:Int)=y:=by
     intro e
     rcases hrow id with⟨g,_⟩ | ⟨_,g⟩
     ·have:lr = []:=by
       cases lr with
       | nil=>rfl
       | cons a b=>simp at hz; omega
      rw [this] at g; simp [mlook_nil] at g
     ·exact g s hs (by simp only [Spot.ix]; omega)
    omega
   ·refine⟨⟨by omega,by omega⟩,⟨by omega,by omega⟩,o,hc,lr,cr,hm,?_⟩
    rintro h4 ⟨k1,k2,k3⟩
    have hmem : ∀ e∈lr,e.val = .bool true∧∃ s,S e.key=some s∧s.ix=x.toNat * 16+y.toNat:=by
     intro e he
     have:=mem_mlook hok he
     rcases hrow e.key with⟨g,g'⟩ | ⟨g,_⟩
     ·rw [this] at g; exact⟨Option.some.inj g,g'⟩
     ·rw [this] at g; cases g
    have hmin : ∀ id s,S id=some s→∀ id' s',S id'=some s'→s'.ix=x.toNat * 16+y.toNat→s.ix≠x.toNat * 16+y.toNat→s'.t≤s.t:=by
     intro id s hs id' s' hs' e' ne
     obtain⟨q1,q2⟩:=hg id s hs
     obtain⟨r1,r2,r3,r4⟩:=W.rng id s hs
     obtain⟨q1',q2'⟩:=hg id' s' hs'
     obtain⟨r1',r2',r3',r4'⟩:=W.rng id' s' hs'
     have e1:lvl s.t now=s.lv:=by rw [q2]; rfl
     have e2:prt s.t s.lv=s.pl:=by rw [q2]; rfl
     have e1':lvl s'.t now=s'.lv:=by rw [q2']; rfl
     have e2':prt s'.t s'.lv=s'.pl:=by rw [q2']; rfl
     have a1:=hx id s hs
     have a2:=hy id s hs
     simp only [Spot.ix] at e' ne
     have b1:s'.lv=x.toNat:=by omega
     have b2:s'.pl=y.toNat:=by omega
     refine Int.le_of_lt (lvl_order hnow.1 q1' q1 r4' r4 ?_)
     rw [e1,e2,e1',e2']
     by_cases hc:s'.lv<s.lv
     ·exact Or.inl hc
     ·right
      have hh:s.lv=x.toNat:=by omega
      have:=a2 (by omega)
      omega
    refine⟨fun m h5=>Ext h3 h5∧∃ sn,iterAt ikey h5 h3.size lr cr sn∧(m=18446744073709551615∨∃ e∈lr,∃ s,S e.key=some s∧s.t=m)∧(∀ e∈lr,e.born∈sn→∀ s,S e.key=some s→m≤s.t),fun _ h5=>unseen lr h5 h3.size,⟨⟨by omega,k1⟩,#[],k3,Or.inl rfl,fun _ _ hc=>by simp at hc⟩,?_⟩
    rintro m h5 ⟨x5,sn,it,hm5,hs5⟩
    refine⟨lr,cr,sn,it,hok.1,fun hall=>?_,?_⟩
    ·refine⟨m,true,rfl,x5,fun _=>?_,fun q=>(by cases q)⟩
     obtain⟨e0,he0⟩ : ∃ e,e∈lr:=by
      cases lr with
      | nil=>simp at hnz
      | cons a b=>exact⟨a,by simp⟩
     obtain⟨_,s0,hs0,hi0⟩:=hmem e0 he0
     have hmm:=hs5 e0 he0 (hall e0 he0) s0 hs0
     obtain⟨e1,he1,s1,hs1,hm1⟩ : ∃ e∈lr,∃ s,S e.key=some s∧s.t=m:=by
      rcases hm5 with rfl | q
      ·have:=(W.rng _ _ hs0).2.2.2; omega
      ·exact q
     refine⟨⟨_,_,hs1,hm1⟩,fun id s hs=>?_⟩
     by_cases hi:s.ix=x.toNat * 16+y.toNat
     ·rcases hrow id with⟨g,_⟩ | ⟨_,g⟩
      ·obtain⟨e,he,hk,_⟩:=mlook_mem g
       exact hs5 e he (hall e he) s (by rw [hk]; exact hs)
      ·exact absurd hi (g s hs)
     ·obtain⟨_,s1',hs1',hi1⟩:=hmem e1 he1
      rw [hs1] at hs1'; cases hs1'
      have:=hmin id s hs _ _ hs1 hi1 hi
      omega
    ·rintro e he hns h6 ⟨y1,y2,y3⟩
     refine⟨⟨y3,hok.2.1⟩,?_⟩
     obtain⟨hv,s,hs,hi⟩:=hmem e he
     have x6:Ext h3 h6:=⟨by have:=x5.1; omega,fun z hz=>by rw [y1 z (by omega)]; exact x5.2 z hz⟩
     have hall6:=x6.get W.all
     refine⟨true,hv,some ma,x6.cell W.cell_all,l,c,hall6,s.t,s.lv,s.pl,by rw [W.spots,hs]; rfl,⟨x6,sn.push e.born,y3,?_,?_⟩,unseen_lt it y3 he hns⟩
     ·split
      ·exact Or.inr ⟨e,he,s,hs,rfl⟩
      ·exact hm5
     ·intro e2 he2 hin s2 hs2
      rcases Array.mem_push.1 hin with g | g
      ·have:=hs5 e2 he2 g s2 hs2; split <;> omega
      ·have:e2.key=e.key:=by rw [ok_born_inj hok he2 he g]
       rw [this,hs] at hs2; cases hs2
       split <;> omega
  ·refine⟨⟨by omega,by omega⟩,⟨rfl,by omega,by omega,?_⟩,by dsimp only; omega⟩
   intro id s hs
   have h1:=hx id s hs
   have h2:=hy id s hs
   have:=(W.rng id s hs).2.1
   omega
 ·refine⟨0,false,rfl,Ext.refl _,fun q=>(by cases q),fun _ id=>?_⟩
  cases hs:S id with
  | none=>rfl
  | some s=>
   have:=hx id s hs
   have:=(W.rng id s hs).1
   omega
end
end Go.Proofs.Vf
namespace Go.VC
theorem Ch.grow_trans {F:Nat→Prop} {h h1 h2:Heap} (a:Ch F h h1) (b:Ch (Grow F h h1) h1 h2):Ch F h h2:=
 ⟨Nat.le_trans a.1 b.1,fun x hx hf=>(b.2 x (Nat.lt_of_lt_of_le hx a.1) (fun g=>g.elim hf (fun q=>absurd hx (by omega)))).trans (a.2 x hx hf)⟩
theorem Grow.trans {F:Nat→Prop} {h h1 h2:Heap} (a:h.size≤h1.size) (b:h1.size≤h2.size) {x:Nat} (g:Grow (Grow F h h1) h1 h2 x):Grow F h h2 x:=by
 rcases g with (g | g) | g
 ·exact .inl g
 ·exact .inr (by omega)
 ·exact .inr (by omega)
theorem Grow.bnd {F:Nat→Prop} {h h1:Heap} (a:h.size≤h1.size) (hb : ∀ x,F x→x<h.size) {x:Nat} (g:Grow F h h1 x):x<h1.size:=by
 rcases g with g | g
 ·have:=hb x g; omega
 ·exact g.2
end Go.VC
namespace Go.Proofs.Vf
open Go Go.Proofs Go.VC
theorem lvlTo_eq {t now:Int} {k:Nat} (h1:t.toNat / 16 ^ (k+1)=now.toNat / 16 ^ (k+1)) (h2:prt t k≠prt now k) : ∀ n,k<n→lvlTo t now n=k
 | 0,h=>by omega
 | n+1,h=>by
  simp only [lvlTo]
  by_cases hk:n=k
  ·subst hk; rw [if_pos h2]
  ·have e:prt t n=prt now n:=by
    unfold prt; rw [div_le_pow h1 (show k+1≤n by omega)]
   rw [if_neg (fun q=>q e)]
   exact lvlTo_eq h1 h2 n (by omega)
theorem mid_up {t was now:Int} (h0:0≤was) (h1:was≤now) (h2:now≤t) (h3:was<t) (ht:t<4611686018427387904) :
  t.toNat / 16 ^ (lvl t was+1)=now.toNat / 16 ^ (lvl t was+1):=by
 have A:=(after h0 h3 ht).up
 have a:now.toNat / 16 ^ (lvl t was+1)≤t.toNat / 16 ^ (lvl t was+1):=Nat.div_le_div_right (by omega)
 have b:was.toNat / 16 ^ (lvl t was+1)≤now.toNat / 16 ^ (lvl t was+1):=Nat.div_le_div_right (by omega)
 omega
theorem mid_same {t was now:Int} (h0:0≤was) (h1:was≤now) (h2:now≤t) (h3:was<t) (ht:t<4611686018427387904) (hne:prt t (lvl t was)≠prt now (lvl t was)):spotOf t now=spotOf t was:=by
 have e:lvl t now=lvl t was:=lvlTo_eq (mid_up h0 h1 h2 h3 ht) hne 16 (lvl_lt t was)
 unfold spotOf; rw [e]
section
variable {Own:Nat→Prop} {h:Heap} {wb:Nat} {S:Int→Option Spot} {now:Int} {rows:List (Option Nat)} {ma:Nat} {l:List (ME Int)} {c:Nat}
theorem WheelP.setNow (W:WheelP Own h wb S now rows ma l c) {t:Int} (ht:0≤t∧t<4611686018427387904) :
  ∃ h',stCells wb h (0+257) [.int .u64 t]=some h'∧WheelP Own h' wb S t rows ma l c∧Ch Own h h':=by
 have hl:=W.len
 obtain⟨h',q1,q2,q3,q4⟩:=st_ex (o:=0+257) [.int .u64 t] W.blk (by simp; omega) (by simp [Value.oneCell'])
 have hk : ∀ x,x<h.size→x≠wb→h'[x]? = h[x]?:=fun x _ hw=>q3 x hw
 refine⟨h',q1,?_,⟨by omega,fun x hx ho=>q3 x (fun e=>ho (e ▸ W.own.1))⟩⟩
 exact { W with
  blk:=by
   rw [q2,spl_one (by simp; omega),List.set_append_right _ _ (by simp; omega)]
   simp [hl]
  all:=by rw [q3 _ (fun e=>ne_map_cells W.blk W.all e.symm)]; exact W.all
  row:=fun i r hr=>by
   obtain⟨lr,cr,g1,g2⟩:=W.row i r hr
   exact⟨lr,cr,by rw [q3 _ (fun e=>ne_map_cells W.blk g1 e.symm)]; exact g1,g2⟩
  bnd:=fun x hx=>by have:=W.bnd x hx; omega
  nowr:=ht }
theorem WheelS.congr {S':Int→Option Spot} (W:WheelS Own h wb S now) (e : ∀ k,S k=S' k):WheelS Own h wb S' now:=by
 have:S=S':=funext e
 rw [← this]; exact W
def moved (S:Int→Option Spot) (now:Int) (id:Int):Option Spot:=(S id).map fun s=>spotOf s.t now
theorem row_nodup {lr:List (ME Int)} {cr:Nat} (ok:mapOk lr cr) {ks:List Int} (hp:ks.Perm (lr.map (·.key))):ks.Nodup:=hp.nodup_iff.2 ok.2.2
theorem move_spec (W:WheelS Own h wb S now) (hg:Good S now) {t:Int} (h1:now≤t) (h2:t<4611686018427387904) (hmin : ∀ id s,S id=some s→t≤s.t) :
  CallsH PR Go1 #[.pointer (some ⟨wb,0,none⟩),.int .u64 t] h
   (fun v h'=>v = .tuple #[]∧Ch Own h h'∧WheelS (Grow Own h h') h' wb (moved S t) t):=by
 have hbnd:=W.bnd
 obtain⟨rows,ma,l,c,W⟩:=W
 have hnow:=W.nowr
 have hrng:=W.rng
 have hids:=W.ids
 apply Gfb
 unfold Gfa
 obtain⟨h7,q1,W7,c7⟩:=W.setNow (t:=t) ⟨by omega,h2⟩
 refine⟨_,_,rfl,_,W.cell_now,h7,q1,fun x hh=>-1≤x∧x≤15∧Ch Own h hh∧∃ Sx,WheelS (Grow Own h hh) hh wb Sx t∧(∀ id,(S id=none→Sx id=none)∧∀ s,S id=some s→Sx id=some (spotOf s.t t)∨(Sx id=some s∧(s.lv:Int)≤x)),
  fun x _=>(x+1).toNat,⟨by omega,by omega,c7,S,⟨rows,ma,l,c,W7.mono (fun x=>.inl) (fun x=>Grow.bnd c7.1 hbnd)⟩,fun id=>⟨fun q=>q,fun s hs=>.inr ⟨hs,by have:=(hrng id s hs).1; omega⟩⟩⟩,?_⟩
 rintro x hh ⟨hx0,hx1,ch,Sx,Wx,hS⟩
 refine⟨fun hlt=>?_,fun hge=>?_⟩
 ·refine⟨fun h16=>Ch Own h h16∧∃ Sx,WheelS (Grow Own h h16) h16 wb Sx t∧(∀ id,(S id=none→Sx id=none)∧∀ s,S id=some s→Sx id=some (spotOf s.t t)∨(Sx id=some s∧(s.lv:Int)≤x - 1)),?_,?_⟩
  ·rintro h16 ⟨c16,Sy,Wy,hSy⟩
   exact⟨⟨by omega,by omega⟩,⟨by omega,by omega,c16,Sy,Wy,hSy⟩,by dsimp only; omega⟩
  have hstay : ∀ id s,S id=some s→(s.lv:Int)=x→prt s.t s.lv≠prt t s.lv→spotOf s.t t=s:=by
   intro id s hs hl hne
   obtain⟨a1,a2⟩:=hg id s hs
   have r:=hrng id s hs
   have e1:lvl s.t now=s.lv:=by rw [a2]; rfl
   rw [← e1] at hne
   rw [mid_same hnow.1 h1 (hmin id s hs) a1 r.2.2.2 hne]; exact a2.symm
  refine (part_spec now x hh hnow.1 (by omega) (by omega) (by omega)).mono ?_
  rintro _ hh ⟨rfl,rfl⟩
  refine⟨_,rfl,?_⟩
  refine (part_spec t x hh (by omega) (by omega) (by omega) (by omega)).mono ?_
  rintro _ hh ⟨rfl,rfl⟩
  refine⟨_,rfl,fun heq=>⟨ch,Sx,Wx,fun id=>⟨(hS id).1,fun s hs=>?_⟩⟩,fun hne=>?_⟩
  ·rcases (hS id).2 s hs with g | ⟨g1,g2⟩
   ·exact .inl g
   ·by_cases hl:(s.lv:Int)=x
    ·left
     obtain⟨a1,a2⟩:=hg id s hs
     have e1:lvl s.t now=s.lv:=by rw [a2]; rfl
     have A:=(after hnow.1 a1 (hrng id s hs).2.2.2).gt
     rw [e1] at A
     have ex:x.toNat=s.lv:=by omega
     rw [ex] at heq
     rw [hstay id s hs hl (by omega)]; exact g1
    ·exact .inr ⟨g1,by omega⟩
  ·refine⟨⟨by omega,by omega⟩,?_⟩
   refine (part_spec t x hh (by omega) (by omega) (by omega) (by omega)).mono ?_
   rintro _ hh ⟨rfl,rfl⟩
   have hpl:=prt_lt t x.toNat
   have hix:x.toNat * 16+prt t x.toNat<256:=by omega
   obtain⟨rows',ma',l',c',Wp⟩:=Wx
   obtain⟨o,lr,cr,ho,hm,hok,hnil,hrow⟩:=Wp.rowMap hix
   refine⟨_,rfl,⟨by omega,by omega⟩,o,?_,?_⟩
   ·have e:0+x.toNat * 16+((prt t x.toNat:Nat):Int).toNat * 1=x.toNat * 16+prt t x.toNat:=by omega
    rw [e]; exact Wp.cell_row ho
   have hrk : ∀ e∈lr,∃ s,Sx e.key=some s∧s.ix=x.toNat * 16+prt t x.toNat:=fun e he=>by
    rcases hrow e.key with⟨_,g⟩ | ⟨g,_⟩
    ·exact g
    ·rw [mem_mlook hok he] at g; cases g
   apply Gc3
   unfold Gc2
   intro h8 e8
   obtain⟨p1,p2,p3⟩:=push_get e8
   have hm8:mapAt ikey h8 o lr cr:=by
    cases o with
    | none=>exact hm
    | some r=>exact p2.get hm
   refine (collect_spec hm8 hok (fun e he=>by obtain⟨s,hs,_⟩:=hrk e he; exact Wp.ids _ s hs) p1).mono ?_
   rintro _ h9 ⟨a,cap,ks,rfl,hperm,hkl,x9,sl,hfr⟩
   have x9':Ext hh h9:=p2.trans x9
   have hnd:=row_nodup hok hperm
   have hbk : ∀ y,blkOf a y→hh.size≤y:=fun y hy=>by have:=hfr y hy; omega
   have Wb:WheelS (Grow Own h hh) h9 wb Sx t:=WheelS.ext ⟨rows',ma',l',c',Wp⟩ x9'
   refine⟨a,ks.length,cap,rfl,fun j hj=>0≤j∧j≤ks.length∧Ch (Grow Own h hh) h9 hj∧WheelS (Grow (Grow Own h hh) h9 hj) hj wb (fun id=>if id∈ks.take j.toNat then moved S t id else Sx id) t,
    fun j _=>(ks.length - j).toNat,⟨by omega,by omega,Ch.refl _ _,?_⟩,?_⟩
   ·have:(fun id=>if id∈ks.take (0:Int).toNat then moved S t id else Sx id)=Sx:=by funext id; simp
    rw [this]
    exact Wb.mono (fun y=>.inl) (fun y=>Grow.bnd (Nat.le_refl _) Wb.bnd)
   rintro j hj ⟨hj0,hj1,cj,Wj⟩
   have slj:Sl hj ty_int 1 a ks.length cap (ks.map (Value.int .i64)):=sl.ch cj fun y hy hf=>by
    have:=hbk y hy; have:=Wp.bnd y hf; omega
   refine⟨fun hjl=>?_,fun hjg=>?_⟩
   ·have hjn:j.toNat<ks.length:=by omega
    obtain⟨b,o',rfl,hcell⟩:=slj.get (i:=j.toNat) (v:=.int .i64 ks[j.toNat]) (by simp [hjn])
    obtain⟨id,hid⟩ : ∃ id,ks[j.toNat]=id:=⟨_,rfl⟩
    rw [hid] at hcell
    have hmem:id∈ks:=hid ▸ List.getElem_mem hjn
    have hnt:id ∉ ks.take j.toNat:=by
     intro hin
     rw [List.mem_take_iff_getElem] at hin
     obtain⟨q,hq,he⟩:=hin
     have:=List.pairwise_iff_getElem.1 hnd q j.toNat (by omega) hjn (by omega)
     exact this (he.trans hid.symm)
    obtain⟨e,he,hek⟩:=List.mem_map.1 (hperm.mem_iff.1 hmem)
    obtain⟨s',hs',hix'⟩:=hrk e he
    rw [hek] at hs'
    have hSj:(fun id=>if id∈ks.take j.toNat then moved S t id else Sx id) id=some s':=by
     simp only [hnt,if_false]; exact hs'
    obtain⟨s,hs,hst⟩ : ∃ s,S id=some s∧s'.t=s.t:=by
     cases hs:S id with
     | none=>rw [(hS id).1 hs] at hs'; cases hs'
     | some s=>
      refine⟨s,rfl,?_⟩
      rcases (hS id).2 s hs with g | ⟨g,_⟩
      ·rw [hs'] at g; cases g; rfl
      ·rw [hs'] at g; cases g; rfl
    obtain⟨rows2,ma2,l2,c2,Wq⟩:=Wj
    refine⟨b,o',rfl,⟨by omega,by omega⟩,id,by rw [Nat.mul_one]; exact hcell,some ma2,Wq.cell_all,l2,c2,Wq.all,s'.t,s'.lv,s'.pl,by rw [Wq.spots]; simp only [hnt,if_false,hs']; rfl,?_⟩
    refine (drop_spec ⟨rows2,ma2,l2,c2,Wq⟩ hSj).mono ?_
    rintro _ h10 ⟨rfl,c10,W10⟩
    refine⟨rfl,?_⟩
    have r:=Wq.rng id s' hSj
    refine (put_spec W10 (id:=id) (t:=s'.t) (upd_same _ _ _) (hids id s hs) r.2.2).mono ?_
    rintro _ h11 ⟨rfl,c11,W11⟩
    have c12:Ch (Grow (Grow Own h hh) h9 hj) hj h11:=c10.trans c11
    refine⟨rfl,⟨by omega,by omega⟩,⟨by omega,by omega,cj.grow_trans c12,?_⟩,by dsimp only; omega⟩
    have c13:=(cj.grow_trans c12).1
    refine (W11.mono (Own':=Grow (Grow Own h hh) h9 h11) (fun y hy=>?_) (fun y=>Grow.bnd c13 Wb.bnd)).congr fun k=>?_
    ·rcases hy with hy | hy
     ·rcases hy with hy | hy
      ·exact .inl hy
      ·have:=c12.1; exact .inr (by omega)
     ·have:=c10.1; have:=cj.1; exact .inr (by omega)
    ·have ej:(j+1).toNat=j.toNat+1:=by omega
     rw [ej,List.take_add_one,List.getElem?_eq_getElem hjn,hid]
     simp only [List.mem_append,Option.toList_some,List.mem_singleton]
     by_cases hk:k=id
     ·subst hk
      rw [upd_same,if_pos (.inr rfl)]
      simp only [moved,hs,Option.map_some,hst]
     ·rw [upd_other _ _ hk,upd_other _ _ hk]
      by_cases hkt:k∈ks.take j.toNat
      ·rw [if_pos hkt,if_pos (.inl hkt)]
      ·rw [if_neg hkt,if_neg (by simp [hkt,hk])]
   ·have ej:j.toNat=ks.length:=by omega
    rw [ej,List.take_length] at Wj
    have c9:Ch Own h h9:=ch.trans (x9'.ch)
    have c14:Ch Own h hj:=ch.grow_trans ((x9'.ch).trans cj)
    refine⟨c14,_,Wj.mono (fun y hy=>?_) (fun y=>Grow.bnd c14.1 hbnd),fun id=>⟨fun hn=>?_,fun s hs=>?_⟩⟩
    ·rcases hy with (hy | hy) | hy
     ·exact .inl hy
     ·have:=c14.1; have:=cj.1; have:=x9'.1; exact .inr (by omega)
     ·have:=ch.1; have:=x9'.1; exact .inr (by omega)
    ·show (if id∈ks then moved S t id else Sx id)=none
     split
     ·simp [moved,hn]
     ·exact (hS id).1 hn
    ·show (if id∈ks then moved S t id else Sx id)=some (spotOf s.t t)∨((if id∈ks then moved S t id else Sx id)=some s∧(s.lv:Int)≤x - 1)
     split
     ·left; simp [moved,hs]
     ·rename_i hnk
      rcases (hS id).2 s hs with g | ⟨g1,g2⟩
      ·exact .inl g
      ·by_cases hl:(s.lv:Int)=x
       ·left
        rw [g1,hstay id s hs hl ?_]
        intro heq
        have a2:=(hg id s hs).2
        have e2:s.pl=prt s.t s.lv:=by
         have e1:lvl s.t now=s.lv:=by rw [a2]; rfl
         conv=>lhs; rw [a2]
         show prt s.t (lvl s.t now)=_
         rw [e1]
        have ex:x.toNat=s.lv:=by omega
        have hixs:s.ix=x.toNat * 16+prt t x.toNat:=by
         simp only [Spot.ix]; rw [e2,heq,ex]
        rcases hrow id with⟨g,_⟩ | ⟨_,g⟩
        ·obtain⟨e,he,hk,_⟩:=mlook_mem g
         exact hnk (hperm.mem_iff.2 (List.mem_map.2 ⟨e,he,hk⟩))
        ·exact g s g1 hixs
       ·exact .inr ⟨g1,by omega⟩
 ·refine⟨rfl,ch,Wx.congr fun id=>?_⟩
  cases hs:S id with
  | none=>rw [(hS id).1 hs]; simp [moved,hs]
  | some s=>
   rcases (hS id).2 s hs with g | ⟨g1,g2⟩
   ·rw [g]; simp [moved,hs]
   ·omega
end
end Go.Proofs.Vf
namespace Go.VC
theorem oneCell_ints (k:IntKind) (ks:List Int) : ∀ v∈ks.map (Value.int k),v.oneCell'=true:=by
 intro v hv
 obtain⟨x,_,rfl⟩:=List.mem_map.1 hv
 rfl
theorem key_inj {κ : Type} {l:List (ME κ)} {c:Nat} (ho:mapOk l c) {a b:ME κ} (ha:a∈l) (hb:b∈l) (e:a.key=b.key):a=b:=by
 have hn:=ho.2.2
 clear ho
 induction l with
 | nil=>cases ha
 | cons x l ih=>
  simp only [List.map_cons,List.nodup_cons] at hn
  rcases List.mem_cons.1 ha with rfl | ha' <;> rcases List.mem_cons.1 hb with rfl | hb'
  ·rfl
  ·exact (hn.1 (List.mem_map.2 ⟨b,hb',e.symm⟩)).elim
  ·exact (hn.1 (List.mem_map.2 ⟨a,ha',e⟩)).elim
  ·exact ih ha' hb' hn.2
end Go.VC
namespace Go.Proofs.Vf
open Go Go.Proofs Go.VC
theorem may_spec (t:Int) (h:Heap):CallsH PR Gnq #[.int .u64 t] h (fun v h'=>v = .bool (decide (t<4611686018427387904))∧h'=h):=by
 apply Gev
 unfold Geu
 exact⟨rfl,rfl⟩
def left (S:Int→Option Spot) (nw:Int) (id:Int):Option Spot:=(S id).bind fun s=>if s.t≤nw then none else some (spotOf s.t nw)
theorem left_some {S:Int→Option Spot} {nw id:Int} {s:Spot} (h:left S nw id=some s) : ∃ s0,S id=some s0∧nw<s0.t∧s=spotOf s0.t nw:=by
 unfold left at h
 cases hs:S id with
 | none=>rw [hs] at h; cases h
 | some s0=>
  rw [hs] at h
  simp only [Option.bind_some] at h
  split at h
  ·cases h
  ·cases h; exact⟨s0,rfl,by omega,rfl⟩
theorem left_of {S:Int→Option Spot} {nw id:Int} {s:Spot} (h:S id=some s) (ht:nw<s.t):left S nw id=some (spotOf s.t nw):=by
 unfold left; rw [h]; simp only [Option.bind_some]; rw [if_neg (by omega)]
theorem left_none {S:Int→Option Spot} {nw id:Int} {s:Spot} (h:S id=some s) (ht:s.t≤nw):left S nw id=none:=by
 unfold left; rw [h]; simp only [Option.bind_some]; rw [if_pos ht]
theorem left_good (S:Int→Option Spot) (nw:Int):Good (left S nw) nw:=fun id s hs=>by
 obtain⟨s0,_,h2,rfl⟩:=left_some hs
 exact⟨h2,rfl⟩
theorem left_self {S:Int→Option Spot} {now:Int} (hg:Good S now):left S now=S:=by
 funext id
 cases hs:S id with
 | none=>simp [left,hs]
 | some s=>
  obtain⟨a1,a2⟩:=hg id s hs
  rw [left_of hs a1,← a2]
structure GoInv (Own:Nat→Prop) (h:Heap) (wb:Nat) (S:Int→Option Spot) (nw:Int) (a:Option Addr) (n c:Nat) (hh:Heap) (F:Nat→Prop) (ids:List Int):Prop where
 wheel:WheelS F hh wb (left S nw) nw
 ch:Ch Own h hh
 foot : ∀ x,F x→Own x∨h.size≤x
 len:ids.length=n
 out:Sl hh ty_int 1 a n c (ids.map (Value.int .i64))
 fresh : ∀ x,blkOf a x→h.size≤x∧¬ F x
 nodup:ids.Nodup
 mem : ∀ id,id∈ids↔∃ s,S id=some s∧s.t≤nw
def timeAt (hh:Heap) (wb:Nat):Int:=match cellH hh wb (0+257) with | some (.int _ t)=>t | _=>0
theorem timeAt_of {Own:Nat→Prop} {h:Heap} {wb:Nat} {S:Int→Option Spot} {now:Int} (W:WheelS Own h wb S now):timeAt h wb=now:=by
 obtain⟨rows,ma,l,c,W⟩:=W
 simp only [timeAt,W.cell_now]
theorem go_spec {Own:Nat→Prop} {h:Heap} {wb:Nat} {S:Int→Option Spot} {now:Int} (W:WheelS Own h wb S now) (hg:Good S now) {t:Int} (h0:0≤t) :
  CallsH PR Gnv #[.pointer (some ⟨wb,0,none⟩),.int .u64 t] h
   (fun v h'=>(4611686018427387904≤t∧v = .tuple #[.slice none 0 0,.int .i64 2]∧h'=h)∨(t<4611686018427387904∧t<now∧v = .tuple #[.slice none 0 0,.int .i64 1]∧h'=h) ∨
    (t<4611686018427387904∧now≤t∧∃ a n c F ids,v = .tuple #[.slice a n c,.int .i64 0]∧GoInv Own h wb S t a n c h' F ids)):=by
 have hW:=W
 have hbnd:=W.bnd
 obtain⟨rows,ma,l,c,W⟩:=W
 have hrng:=W.rng
 have hids:=W.ids
 have hnow:=W.nowr
 apply Gf1
 unfold Gf0
 refine (may_spec t h).mono ?_
 rintro _ _ ⟨rfl,rfl⟩
 refine⟨_,rfl,fun hm=>?_,fun hm=>?_⟩
 ·exact .inl ⟨by simpa using hm,rfl,rfl⟩
 have ht:t<4611686018427387904:=by simpa using hm
 refine⟨_,_,rfl,now,W.cell_now,fun hlt=>?_,fun hge=>?_⟩
 ·exact .inr (.inl ⟨ht,hlt,rfl,rfl⟩)
 rename_i h
 refine⟨fun a n c hh=>∃ nw F ids,now≤nw∧nw≤t∧GoInv Own h wb S nw a n c hh F ids,fun _ _ _ hh=>(t - timeAt hh wb).toNat,⟨now,Own,[],by omega,by omega,?_⟩,?_⟩
 ·exact⟨by rw [left_self hg]; exact hW,Ch.refl _ _,fun x hx=>.inl hx,rfl,Sl.nil _ _ _,fun x hx=>absurd hx not_blkOf_none,List.nodup_nil,fun id=>by
   constructor
   ·intro q; cases q
   ·rintro⟨s,hs,hle⟩
    have:=(hg id s hs).1; omega⟩
 rintro a n c hh ⟨nw,F,ids,hn1,hn2,I⟩
 refine (first_spec I.wheel (left_good S nw)).mono ?_
 rintro _ h15 ⟨at_,ok,rfl,x15,hmin,hnone⟩
 have W15:=I.wheel.ext x15
 have bF:=I.wheel.bnd
 refine⟨at_,ok,rfl,fun hfin=>?_,fun hgo=>?_⟩
 ·-- the last one
  have hlast : ∀ id s,left S nw id=some s→t<s.t:=by
   intro id s hs
   cases ok with
   | false=>rw [hnone rfl id] at hs; cases hs
   | true=>
    have:t<at_:=by simpa using hfin
    have:=(hmin rfl).2 id s hs
    omega
  refine (move_spec W15 (left_good S nw) hn2 ht (fun id s hs=>by have:=hlast id s hs; omega)).mono ?_
  rintro _ h20 ⟨rfl,c20,W20⟩
  have ch2:Ch F hh h20:=(x15.ch).trans c20
  refine⟨rfl,.inr (.inr ⟨ht,by omega,a,n,c,Grow F h15 h20,ids,rfl,W20.congr fun id=>?_,?_,?_,I.len,?_,?_,I.nodup,fun id=>?_⟩)⟩
  ·cases hs:S id with
   | none=>simp [moved,left,hs]
   | some s=>
    by_cases hle:s.t≤nw
    ·rw [moved,left_none hs hle,left_none hs (by omega)]; rfl
    ·have hl:=left_of hs (show nw<s.t by omega)
     have:=hlast id _ hl
     rw [moved,hl,left_of hs this]; rfl
  ·refine⟨Nat.le_trans I.ch.1 ch2.1,fun x hx ho=>(ch2.2 x (Nat.lt_of_lt_of_le hx I.ch.1) fun hf=>?_).trans (I.ch.2 x hx ho)⟩
   rcases I.foot x hf with q | q
   ·exact ho q
   ·omega
  ·intro x hx
   rcases hx with q | q
   ·exact I.foot x q
   ·have:=I.ch.1; have:=x15.1; exact .inr (by omega)
  ·exact I.out.ch ch2 fun x hx=>(I.fresh x hx).2
  ·intro x hx
   have:=I.fresh x hx
   have hlt:=I.out.blk_lt hx
   refine⟨this.1,fun q=>?_⟩
   rcases q with q | q
   ·exact this.2 q
   ·have:=x15.1; omega
  ·rw [I.mem]
   constructor
   ·rintro⟨s,hs,hle⟩; exact⟨s,hs,by omega⟩
   ·rintro⟨s,hs,hle⟩
    refine⟨s,hs,?_⟩
    by_cases hlt:nw<s.t
    ·have:=hlast id _ (left_of hs hlt)
     simp only [spotOf] at this; omega
    ·omega
 ·have ok1:ok=true:=by cases ok with
   | true=>rfl
   | false=>simp at hgo
  subst ok1
  have hat:at_≤t:=by simpa using hgo
  obtain⟨⟨id0,s0,hs0,ht0⟩,hmin⟩:=hmin rfl
  have hnat:nw<at_:=by rw [← ht0]; exact (left_good S nw id0 s0 hs0).1
  refine (move_spec W15 (left_good S nw) (by omega) (by omega) hmin).mono ?_
  rintro _ h22 ⟨rfl,c22,W22⟩
  have ch2:Ch F hh h22:=(x15.ch).trans c22
  have hF22 : ∀ x,Grow F h15 h22 x→F x∨hh.size≤x:=fun x hx=>by
   rcases hx with q | q
   ·exact .inl q
   ·have:=x15.1; exact .inr (by omega)
  obtain⟨F2,hF2⟩ : ∃ F2,F2=Grow F h15 h22:=⟨_,rfl⟩
  rw [← hF2] at W22 hF22
  have bF2:=W22.bnd
  obtain⟨Sm,hSm⟩ : ∃ Sm,Sm=moved (left S nw) at_:=⟨_,rfl⟩
  rw [← hSm] at W22
  have hSmS : ∀ id s,Sm id=some s→∃ s1,S id=some s1∧nw<s1.t∧s1.t=s.t∧at_≤s.t∧s=spotOf s.t at_:=by
   intro id s hs
   rw [hSm] at hs
   unfold moved at hs
   obtain⟨s1,h1,rfl⟩:=Option.map_eq_some_iff.1 hs
   obtain⟨s2,h2,h3,rfl⟩:=left_some h1
   exact⟨s2,h2,h3,rfl,(show at_≤(spotOf s2.t nw).t from hmin id _ h1),rfl⟩
  have hSSm : ∀ id s,S id=some s→nw<s.t→Sm id=some (spotOf s.t at_):=by
   intro id s hs hlt
   rw [hSm,moved,left_of hs hlt]; rfl
  have hW22:=W22
  obtain⟨rows2,ma2,l2,c2,W2⟩:=W22
  refine⟨rfl,some ma2,W2.cell_all,l2,c2,W2.all,?_⟩
  rintro h28 ⟨k1,k2,k3⟩
  have ent : ∀ e∈l2,∃ s,Sm e.key=some s∧e.val=s.v:=fun e he=>by
   have:=mem_mlook W2.ok he
   rw [W2.spots] at this
   obtain⟨s,h1,h2⟩:=Option.map_eq_some_iff.1 this
   exact⟨s,h1,h2.symm⟩
  have ent' : ∀ id s,Sm id=some s→∃ e∈l2,e.key=id:=fun id s hs=>by
   have:=W2.spots id
   rw [hs] at this
   obtain⟨e,he,hk,_⟩:=mlook_mem this
   exact⟨e,he,hk⟩
  refine⟨fun a1 n1 c1 h3=>Ext h22 h3∧∃ sn due,iterAt ikey h3 h22.size l2 c2 sn∧due.length=n1∧Sl h3 ty_int 1 a1 n1 c1 (due.map (Value.int .i64))∧(∀ x,blkOf a1 x→h22.size<x)∧due.Nodup ∧
    (∀ id,id∈due↔∃ e∈l2,e.born∈sn∧e.key=id∧∃ s,Sm id=some s∧s.t=at_),
   fun _ _ _ h3=>unseen l2 h3 h22.size,⟨⟨by omega,k1⟩,#[],[],k3,rfl,Sl.nil _ _ _,fun x hx=>absurd hx not_blkOf_none,List.nodup_nil,fun id=>by simp⟩,?_⟩
  rintro a1 n1 c1 h35 ⟨x35,sn,due,it,hdl,hds,hdf,hdn,hdm⟩
  have hdb:n1≤1000:=by
   rw [← hdl]
   refine nodup_int_bound hdn fun x hx=>?_
   obtain⟨e,_,_,hk,s,hs,_⟩:=(hdm x).1 hx
   exact W2.ids x s hs
  refine⟨l2,c2,sn,it,W2.ok.1,fun hall=>?_,?_⟩
  ·-- all are seen
   have hdm' : ∀ id,id∈due↔∃ s,S id=some s∧s.t=at_:=fun id=>by
    rw [hdm]
    constructor
    ·rintro⟨e,he,_,hk,s,hs,hst⟩
     obtain⟨s1,h1,h2,h3,_⟩:=hSmS id s hs
     exact⟨s1,h1,by omega⟩
    ·rintro⟨s,hs,hst⟩
     have h1:=hSSm id s hs (by omega)
     obtain⟨e,he,hk⟩:=ent' id _ h1
     exact⟨e,he,hall e he,hk,_,h1,hst⟩
   subst hdl
   refine (sortFunc_spec hds (by omega)).mono ?_
   rintro _ h41 ⟨rfl,ks,hperm,hks,c41⟩
   have hkl:ks.length=due.length:=hperm.length_eq
   have hkn:ks.Nodup:=hperm.nodup_iff.2 hdn
   have hkm : ∀ id,id∈ks↔∃ s,S id=some s∧s.t=at_:=fun id=>by rw [hperm.mem_iff]; exact hdm' id
   have W41:WheelS F2 h41 wb Sm at_:=(hW22.ext x35).ch c41 fun x hx hb=>by have:=bF2 x hx; have:=hdf x hb; omega
   have ch41:Ch F hh h41:=by
    refine⟨by have:=ch2.1; have:=x35.1; have:=c41.1; omega,fun x hx hf=>?_⟩
    have:=ch2.1; have hx35:=x35.1
    rw [c41.2 x (by omega) (fun hb=>by have:=hdf x hb; omega),x35.2 x (by omega),ch2.2 x hx hf]
   refine⟨rfl,fun j hj=>0≤j∧j≤ks.length∧Ch F2 h41 hj∧WheelS F2 hj wb (fun id=>if id∈ks.take j.toNat then none else Sm id) at_,fun j _=>(ks.length - j).toNat,⟨by omega,by omega,Ch.refl _ _,?_⟩,?_⟩
   ·refine W41.congr fun id=>?_
    simp
   rintro j hj ⟨hj0,hj1,cj,Wj⟩
   have slj:Sl hj ty_int 1 a1 ks.length c1 (ks.map (Value.int .i64)):=hks.ch cj fun y hy hf=>by
    have:=hdf y hy; have:=bF2 y hf; omega
   refine⟨fun hjl=>?_,fun hjg=>?_⟩
   ·have hjn:j.toNat<ks.length:=by omega
    obtain⟨b,o',rfl,hcell⟩:=slj.get (i:=j.toNat) (v:=.int .i64 ks[j.toNat]) (by simp [hjn])
    obtain⟨id,hid⟩ : ∃ id,ks[j.toNat]=id:=⟨_,rfl⟩
    rw [hid] at hcell
    have hmem:id∈ks:=hid ▸ List.getElem_mem hjn
    have hnt:id ∉ ks.take j.toNat:=by
     intro hin
     rw [List.mem_take_iff_getElem] at hin
     obtain⟨q,hq,he⟩:=hin
     have:=List.pairwise_iff_getElem.1 hkn q j.toNat (by omega) hjn (by omega)
     exact this (he.trans hid.symm)
    obtain⟨s1,hs1,hst1⟩:=(hkm id).1 hmem
    have hsm1:=hSSm id s1 hs1 (by omega)
    refine⟨b,o',rfl,⟨by omega,by omega⟩,id,by rw [Nat.mul_one]; exact hcell,?_⟩
    refine (drop_spec Wj (id:=id) (s:=spotOf s1.t at_) (by simp only [hnt,if_false]; exact hsm1)).mono ?_
    rintro _ h55 ⟨rfl,c55,W55⟩
    refine⟨rfl,⟨by omega,by omega⟩,⟨by omega,by omega,cj.trans c55,W55.congr fun k=>?_⟩,by dsimp only; omega⟩
    have ej:(j+1).toNat=j.toNat+1:=by omega
    rw [ej,List.take_add_one,List.getElem?_eq_getElem hjn,hid]
    simp only [List.mem_append,Option.toList_some,List.mem_singleton]
    by_cases hk:k=id
    ·subst hk
     rw [upd_same,if_pos (.inr rfl)]
    ·rw [upd_other _ _ hk]
     by_cases hkt:k∈ks.take j.toNat
     ·rw [if_pos hkt,if_pos (.inl hkt)]
     ·rw [if_neg hkt,if_neg (by simp [hkt,hk])]
   ·have ej:j.toNat=ks.length:=by omega
    rw [ej,List.take_length] at Wj
    refine⟨ks.length,ks.map (Value.int .i64),by rw [← hkl]; exact slj.firstB,?_⟩
    have chj:Ch (fun x=>F x∨hh.size≤x) hh hj:=(ch41.mono fun x _ q=>.inl q).trans (cj.mono fun x hx q=>by
     rcases hF22 x q with q | q
     ·exact .inl q
     ·exact .inr q)
    have chj':Ch F hh hj:=⟨chj.1,fun x hx hf=>chj.2 x hx (fun q=>q.elim hf (fun q=>by omega))⟩
    have outj:Sl hj ty_int 1 a n c (ids.map (Value.int .i64)):=I.out.ch chj' fun x hx=>(I.fresh x hx).2
    have hall:(ids ++ ks).Nodup:=by
     rw [List.nodup_append]
     refine⟨I.nodup,hkn,fun x hx y hy e=>?_⟩
     subst e
     obtain⟨s1,hs1,hl1⟩:=(I.mem x).1 hx
     obtain⟨s2,hs2,hl2⟩:=(hkm x).1 hy
     rw [hs1] at hs2; cases hs2; omega
    have hmem : ∀ id,id∈ids ++ ks↔∃ s,S id=some s∧s.t≤at_:=fun id=>by
     rw [List.mem_append,I.mem,hkm]
     constructor
     ·rintro (⟨s,hs,hl⟩ | ⟨s,hs,hl⟩)
      ·exact⟨s,hs,by omega⟩
      ·exact⟨s,hs,by omega⟩
     ·rintro⟨s,hs,hl⟩
      by_cases hq:s.t≤nw
      ·exact .inl ⟨s,hs,hq⟩
      ·have:=hmin id _ (left_of hs (show nw<s.t by omega))
       simp only [spotOf] at this
       exact .inr ⟨s,hs,by omega⟩
    have hlen:(ids ++ ks).length≤1000:=nodup_int_bound hall fun x hx=>by
     obtain⟨s,hs,_⟩:=(hmem x).1 hx
     exact hids x s hs
    rw [List.length_append] at hlen
    have hnl:=I.len
    refine outj.append (by simp) (oneCell_ints _ _) rfl ⟨by omega,by omega,by omega⟩ ?_
    intro a' c' h65 s65 c65 hf65
    have Wend:WheelS F2 h65 wb (left S at_) at_:=by
     refine (Wj.ch c65 fun x hx hb=>?_).congr fun id=>?_
     ·have:=I.fresh x hb
      rcases hF22 x hx with q | q
      ·exact this.2 q
      ·have:=I.out.blk_lt hb; omega
     ·by_cases hk:id∈ks
      ·rw [if_pos hk]
       obtain⟨s,hs,hl⟩:=(hkm id).1 hk
       rw [left_none hs (by omega)]
      ·rw [if_neg hk]
       cases hs:S id with
       | none=>simp [hSm,moved,left,hs]
       | some s=>
        by_cases hq:s.t≤nw
        ·rw [hSm,moved,left_none hs hq,left_none hs (by omega)]; rfl
        ·have h1:=hmin id _ (left_of hs (show nw<s.t by omega))
         simp only [spotOf] at h1
         have h2:s.t≠at_:=fun q=>hk ((hkm id).2 ⟨s,hs,q⟩)
         rw [hSSm id s hs (by omega),left_of hs (by omega)]
    refine⟨⟨at_,F2,ids ++ ks,by omega,hat,Wend,?_,?_,by simp [I.len],by simpa using s65,?_,hall,hmem⟩,?_⟩
    ·have hz:=I.ch.1
     refine⟨by have:=chj.1; have:=c65.1; omega,fun x hx ho=>?_⟩
     rw [c65.2 x (by have:=chj.1; omega) (fun hb=>by have:=(I.fresh x hb).1; omega),chj'.2 x (by omega) (fun hf=>?_),I.ch.2 x hx ho]
     rcases I.foot x hf with q | q
     ·exact ho q
     ·omega
    ·intro x hx
     rcases hF22 x hx with q | q
     ·exact I.foot x q
     ·have:=I.ch.1; exact .inr (by omega)
    ·intro x hx
     rcases hf65 x hx with q | q
     ·have:=I.fresh x q
      refine⟨this.1,fun hf=>?_⟩
      rcases hF22 x hf with r | r
      ·exact this.2 r
      ·have:=I.out.blk_lt q; omega
     ·have hc:=chj.1; have hz:=I.ch.1
      refine⟨by omega,fun hf=>?_⟩
      have:=Wj.bnd x hf; omega
    ·dsimp only
     rw [timeAt_of Wend,timeAt_of I.wheel]; omega
  ·-- one more
   rintro e he hns h40 ⟨y1,y2,y3⟩
   refine⟨⟨y3,W2.ok.2.1⟩,?_⟩
   obtain⟨s,hs,hv⟩:=ent e he
   have x40:Ext h22 h40:=⟨by have:=x35.1; omega,fun z hz=>by rw [y1 z (by omega)]; exact x35.2 z hz⟩
   refine⟨s.t,s.lv,s.pl,hv,?_⟩
   intro h69 e69
   obtain⟨h72,q1,q2,q3,q4⟩:=st_tmp (zs:=[_,_,_]) e69 [.int .u64 s.t,.int .i64 s.lv,.int .i64 s.pl] rfl (by simp [Value.oneCell'])
   have hz35:=x35.1
   have keepit : ∀ h',(∀ x,x<h40.size→x≠h22.size∨True→h'[x]? = h40[x]?)→iterAt ikey h' h22.size l2 c2 (sn.push e.born):=by
    intro h' hk
    rcases y3 with⟨r1,r2,r3⟩ | ⟨r,r1,r2⟩
    ·exact .inl ⟨r1,r2,by rw [hk _ (lt_of_get r3) (.inr trivial)]; exact r3⟩
    ·exact .inr ⟨r,by rw [hk _ (lt_of_get r1) (.inr trivial)]; exact r1,by rw [hk _ (lt_of_get r2) (.inr trivial)]; exact r2⟩
   have s40:Sl h40 ty_int 1 a1 n1 c1 (due.map (Value.int .i64)):=hds.keep fun x hx hb=>y1 x (by have:=hdf x hb; omega)
   refine⟨h72,q1,s.t,cell_lst q2 rfl,fun heq=>?_,fun hne=>?_⟩
   ·intro h76 e76
    obtain⟨p1,p2,p3⟩:=push_get e76
    have x76:Ext h40 h76:=q3.trans p2
    refine (s40.ext x76).append (m:=1) rfl (by simp [Value.oneCell']) rfl ⟨by omega,by omega,by omega⟩ ?_
    intro a' c' h85 s85 c85 hf85
    have hk85 : ∀ x,x<h40.size→(x≠h22.size→¬ blkOf a1 x)→h85[x]? = h40[x]?:=fun x hx hb=>by
     have hz:=x76.1
     rw [c85.2 x (by omega) (fun q=>by have:=hdf x q; exact hb (by omega) q),x76.2 x hx]
    have hit:iterAt ikey h85 h22.size l2 c2 (sn.push e.born):=by
     have hne : ∀ x,x≤h22.size→¬ blkOf a1 x:=fun x hx q=>by have:=hdf x q; omega
     rcases y3 with⟨r1,r2,r3⟩ | ⟨r,r1,r2⟩
     ·exact .inl ⟨r1,r2,by rw [hk85 _ (lt_of_get r3) (fun _=>hne _ (by omega))]; exact r3⟩
     ·have hr:r<h22.size∨h22.size≤r:=by omega
      refine .inr ⟨r,by rw [hk85 _ (lt_of_get r1) (fun _=>hne _ (by omega))]; exact r1,?_⟩
      have : ¬ blkOf a1 r:=by
       rintro⟨b,o,rfl,rfl⟩
       rcases s40.2 with⟨q,_⟩ | ⟨b',o',cur,q,hb,_⟩
       ·cases q
       ·cases q; exact ne_map_cells hb r2 rfl
      rw [hk85 _ (lt_of_get r2) (fun _=>this)]; exact r2
    refine⟨⟨⟨by have:=x40.1; have:=x76.1; have:=c85.1; omega,fun x hx=>?_⟩,sn.push e.born,due ++ [e.key],hit,by simp [hdl],by simpa using s85,?_,?_,?_⟩,unseen_lt it hit he hns⟩
    ·rw [hk85 x (by have:=x40.1; omega) (fun _ q=>by have:=hdf x q; omega),x40.2 x hx]
    ·intro x hx
     rcases hf85 x hx with q | q
     ·exact hdf x q
     ·have:=x76.1; omega
    ·rw [List.nodup_append]
     refine⟨hdn,by simp,fun x hx y hy exy=>?_⟩
     simp only [List.mem_singleton] at hy
     subst exy
     obtain⟨e',he',hb',hk',_⟩:=(hdm x).1 hx
     have:=key_inj W2.ok he' he (hk'.trans hy)
     subst this; exact hns hb'
    ·intro id
     rw [List.mem_append,List.mem_singleton,hdm]
     constructor
     ·rintro (⟨e',h1,h2,h3,h4⟩ | h1)
      ·exact⟨e',h1,Array.mem_push.2 (.inl h2),h3,h4⟩
      ·exact⟨e,he,Array.mem_push.2 (.inr rfl),h1.symm,s,by rw [h1]; exact hs,heq⟩
     ·rintro⟨e',h1,h2,h3,h4⟩
      rcases Array.mem_push.1 h2 with g | g
      ·exact .inl ⟨e',h1,g,h3,h4⟩
      ·right; rw [← h3,ok_born_inj W2.ok h1 he g]
   ·have hk72 : ∀ x,x<h40.size→h72[x]? = h40[x]?:=q3.2
    have hit:iterAt ikey h72 h22.size l2 c2 (sn.push e.born):=keepit h72 fun x hx _=>hk72 x hx
    refine⟨⟨x40.trans q3,sn.push e.born,due,hit,hdl,s40.ext q3,hdf,hdn,fun id=>?_⟩,unseen_lt it hit he hns⟩
    rw [hdm]
    constructor
    ·rintro⟨e',h1,h2,h3,h4⟩
     exact⟨e',h1,Array.mem_push.2 (.inl h2),h3,h4⟩
    ·rintro⟨e',h1,h2,h3,h4⟩
     rcases Array.mem_push.1 h2 with g | g
     ·exact⟨e',h1,g,h3,h4⟩
     ·exfalso
      have:=ok_born_inj W2.ok h1 he g
      subst this
      obtain⟨s',h5,h6⟩:=h4
      rw [← h3,hs] at h5; cases h5
      exact hne h6
end Go.Proofs.Vf
namespace Go.Proofs.Vf
open Go Go.Proofs Go.VC
set_option maxRecDepth 8000 in
theorem new_spec (h:Heap) :
  CallsH PR Gnt #[] h (fun v h'=>∃ wb,v = .pointer (some ⟨wb,0,none⟩)∧h.size≤wb∧Ext h h'∧WheelS (fun x=>h.size≤x∧x<h'.size) h' wb (fun _=>none) 0):=by
 apply Gex
 unfold Gew
 intro h1 e1 h3 e3
 obtain⟨p1,p2,p3⟩:=push_get e1
 obtain⟨q1,q2,q3⟩:=push_get e3
 have hr : ∀ (i r:Nat),(List.replicate 256 (none:Option Nat))[i]?≠some (some r):=fun i r hi=>by
  rw [List.getElem?_replicate] at hi
  split at hi <;> cases hi
 refine⟨h1.size,rfl,by omega,p2.trans q2,List.replicate 256 none,h.size,[],0,?_⟩
 exact
 {len:=by simp
  blk:=q1
  all:=q2.get p1
  ok:=mapOk_nil _ _
  spots:=fun _=>rfl
  rng:=fun _ _ h=>by cases h
  ids:=fun _ _ h=>by cases h
  row:=fun i r hi=>absurd hi (hr i r)
  has:=fun _ _ h=>by cases h
  inj:=fun i _ r hi=>absurd hi (hr i r)
  nma:=fun i=>hr i _
  own:=⟨⟨by omega,by omega⟩,⟨by omega,by omega⟩,fun i r hi=>absurd hi (hr i r)⟩
  bnd:=fun x hx=>hx.2
  nowr:=⟨by omega,by omega⟩ }
section
variable {Own:Nat→Prop} {h:Heap} {wb:Nat} {S:Int→Option Spot} {now:Int}
theorem set_spec (W:WheelS Own h wb S now) {id t:Int} (hir:0≤id∧id<1000) (hid:S id=none) (h1:now<t) (h2:t<4611686018427387904) :
  CallsH PR Gny #[.pointer (some ⟨wb,0,none⟩),.int .i64 id,.int .u64 t] h
   (fun v h'=>v = .int .i64 0∧Ch Own h h'∧WheelS (Grow Own h h') h' wb (upd S id (some (spotOf t now))) now):=by
 have hW:=W
 obtain⟨rows,ma,l,c,W⟩:=W
 have hnow:=W.nowr
 apply Gf5
 unfold Gf4
 refine⟨_,_,fun _=>rfl,now,fun _=>W.cell_now,fun hb=>?_,fun _=>?_⟩
 ·simp at hb; omega
 refine (may_spec t h).mono ?_
 rintro _ h ⟨rfl,rfl⟩
 refine⟨_,rfl,fun hb=>by simp at hb; omega,fun _=>?_⟩
 refine⟨fun h14=>Ext h h14,?_,?_⟩
 ·intro h14 x14
  refine (put_spec (hW.ext x14) hid hir ⟨by omega,h2⟩).mono ?_
  rintro _ h15 ⟨rfl,c15,W15⟩
  refine⟨rfl,rfl,(x14.ch).trans c15,W15.mono (fun x hx=>?_) (fun x=>Grow.bnd (((x14.ch).trans c15).1) W.bnd)⟩
  rcases hx with q | q
  ·exact .inl q
  ·have:=x14.1; exact .inr (by omega)
 ·refine⟨_,_,rfl,_,W.cell_all,l,c,W.all,0,0,0,by rw [W.spots,hid]; rfl,?_⟩
  intro h27 e27
  obtain⟨h30,q1,q2,q3,q4⟩:=st_tmp (zs:=[_,_,_]) e27 [.int .u64 0,.int .i64 0,.int .i64 0] rfl (by simp [Value.oneCell'])
  refine⟨h30,q1,fun hs=>?_,fun _=>q3⟩
  rw [W.spots,hid] at hs; cases hs
theorem cancel_spec (W:WheelS Own h wb S now) {id:Int} {s:Spot} (hs:S id=some s) :
  CallsH PR Gnu #[.pointer (some ⟨wb,0,none⟩),.int .i64 id] h
   (fun v h'=>v = .int .i64 0∧Ch Own h h'∧WheelS Own h' wb (upd S id none) now):=by
 have hW:=W
 obtain⟨rows,ma,l,c,W⟩:=W
 apply Gez
 unfold Gey
 refine⟨_,_,rfl,_,W.cell_all,l,c,W.all,s.t,s.lv,s.pl,by rw [W.spots,hs]; rfl,?_⟩
 intro h11 e11
 obtain⟨h14,q1,q2,q3,q4⟩:=st_tmp (zs:=[_,_,_]) e11 [.int .u64 s.t,.int .i64 s.lv,.int .i64 s.pl] rfl (by simp [Value.oneCell'])
 refine⟨h14,q1,fun hn=>?_,fun _=>?_⟩
 ·rw [W.spots,hs] at hn; cases hn
 refine (drop_spec (hW.ext q3) hs).mono ?_
 rintro _ h15 ⟨rfl,c15,W15⟩
 exact⟨rfl,rfl,(q3.ch).trans c15,W15⟩
end
end Go.Proofs.Vf
