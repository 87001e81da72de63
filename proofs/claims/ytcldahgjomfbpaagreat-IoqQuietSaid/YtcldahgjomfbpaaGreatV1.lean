/- A library of this claim: rules that lead a call of a Go function to a formula over the heap alone, and laws on lists, maps and slices in the heap. No conditions. -/
import Derived.WalkKit
import Derived.WalkSpells
import Derived.WalkLawsBesides
import Derived.MapKept
import Derived.Maps.RangeRun
namespace Go.VC
abbrev Heap:=Array Obj
abbrev Fr:=Nat→Value
def fput (f:Fr) (d:Nat) (v:Value):Fr:=fun t=>bif Nat.beq t d then v else f t
def fputO (f:Fr):Option Nat→Value→Fr
 | some d,v=>fput f d v
 | none,_=>f
def ev (f:Fr):Operand→Value
 | .tmp t=>f t
 | .const v=>v
 | .global g=>.pointer (some ⟨g,0,none⟩)
 | .func g=>.func (.func g) #[] #[]
structure Rel (n:Nat) (a:Act) (f:Fr):Prop where
 size:a.tmps.size=n
 defers:a.defers = []
 get : ∀ t,a.tmps.getD t undef=f t
theorem Rel.eval {n:Nat} {a:Act} {f:Fr} (r:Rel n a f) (x:Operand):a.eval x=ev f x:=by
 cases x with
 | tmp t=>exact r.get t
 | _=>rfl
theorem Rel.eval' {n:Nat} {a:Act} {f:Fr} (r:Rel n a f):a.eval=ev f:=funext r.eval
theorem beq_false_of {a b:Nat} (h : ¬ a=b):Nat.beq a b=false:=by
 cases e:Nat.beq a b with
 | false=>rfl
 | true=>exact absurd (Nat.eq_of_beq_eq_true e) h
def dstOk (n:Nat):Option Nat→Bool
 | some d=>Nat.blt d n
 | none=>true
theorem Rel.put {n:Nat} {a:Act} {f:Fr} (r:Rel n a f) {dst:Option Nat} (hd:dstOk n dst=true) (v:Value):Rel n (a.put dst v) (fputO f dst v):=by
 cases dst with
 | none=>exact r
 | some d=>
  have hd':d<n:=by simpa [dstOk] using hd
  have hs:=r.size
  refine⟨by simp [Act.put,hs],r.defers,fun t=>?_⟩
  have hg:=r.get t
  simp only [Act.put,fputO,fput]
  by_cases h:t=d
  ·subst h
   simp [Array.getD_eq_getD_getElem?,hs,hd']
  ·have hb:Nat.beq t d=false:=beq_false_of h
   have h' : ¬ d=t:=fun e=>h e.symm
   rw [hb,cond_false,← hg]
   simp only [Array.getD_eq_getD_getElem?]
   rw [Array.getElem?_setIfInBounds_ne h']
def Same (w w':World):Prop:=w'.tape=w.tape∧w'.os=w.os∧w'.output=w.output
theorem Same.refl (w:World):Same w w:=⟨rfl,rfl,rfl⟩
theorem Same.trans {w w' w'':World} (h:Same w w') (h':Same w' w''):Same w w'':=
 ⟨h'.1.trans h.1,h'.2.1.trans h.2.1,h'.2.2.trans h.2.2⟩
def CallsH (P:Program) (g:FuncId) (args:Array Value) (h:Heap) (R:Value→Heap→Prop):Prop:=
 ∀ w:World,w.heap=h→Calls P g args w fun e w'=>∃ v,e = .returned v∧R v w'.heap∧Same w w'
theorem CallsH.mono {P:Program} {g:FuncId} {args:Array Value} {h:Heap} {R R':Value→Heap→Prop} (H:CallsH P g args h R)
  (hr : ∀ v h',R v h'→R' v h'):CallsH P g args h R':=
 fun w hw=>(H w hw).mono fun _ _ ⟨v,he,hR,hs⟩=>⟨v,he,hr _ _ hR,hs⟩
abbrev Post:=Exit→Fr→Heap→Prop
def wpf (P:Program) (n:Nat) (c:Code) (Q:Post) (f:Fr) (h:Heap):Prop:=
 ∀ a w,Rel n a f→w.heap=h→c.wp P (fun e a' w'=>Same w w'∧∃ f',Rel n a' f'∧Q e f' w'.heap) a w
abbrev thenQ (next:Fr→Heap→Prop) (Q:Post):Post
 | .normal,f,h=>next f h
 | e,f,h=>Q e f h
abbrev blockQ (id:Nat) (Q:Post):Post
 | .exit id',f,h=>bif Nat.beq id' id then Q .normal f h else Q (.exit id') f h
 | e,f,h=>Q e f h
section rules
variable {P:Program} {n:Nat} {Q:Post} {f:Fr} {h:Heap}
theorem wpf_mono {c:Code} {Q':Post} (H:wpf P n c Q f h) (hq : ∀ e f h,Q e f h→Q' e f h):wpf P n c Q' f h:=
 fun a w r hw=>wp_mono (H a w r hw) fun _ _ _ ⟨hs,f',r',q⟩=>⟨hs,f',r',hq _ _ _ q⟩
theorem wpf_skip (H:Q .normal f h):wpf P n .skip Q f h:=fun _ w r hw=>wp_skip ⟨Same.refl w,f,r,by rw [hw]; exact H⟩
theorem wpf_exit {id:Nat} (H:Q (.exit id) f h):wpf P n (.exit id) Q f h:=fun _ w r hw=>wp_exit ⟨Same.refl w,f,r,by rw [hw]; exact H⟩
theorem wpf_ret (H:Q .ret f h):wpf P n .ret Q f h:=fun _ w r hw=>wp_ret ⟨Same.refl w,f,r,by rw [hw]; exact H⟩
theorem wpf_seq {x y:Code} (H:wpf P n x (thenQ (wpf P n y Q) Q) f h):wpf P n (.seq x y) Q f h:=by
 intro a w r hw
 refine wp_seq (wp_mono (H a w r hw) ?_)
 rintro e a' w' ⟨hs,f',r',q⟩
 cases e with
 | normal=>exact wp_mono (q a' w' r' rfl) fun _ _ _ ⟨hs',f'',r'',q'⟩=>⟨hs.trans hs',f'',r'',q'⟩
 | _=>exact⟨hs,f',r',q⟩
theorem wpf_seq_cut {x y:Code} (J:Fr→Heap→Prop) (H:wpf P n x (thenQ J Q) f h) (H' : ∀ f h,J f h→wpf P n y Q f h):wpf P n (.seq x y) Q f h:=
 wpf_seq (wpf_mono H fun e f h q=>by cases e <;> first | exact H' f h q | exact q)
theorem wpf_cond {c:Operand} {x y:Code} (t:Bool) (hc:ev f c = .bool t) (ht:t=true→wpf P n x Q f h) (hf:t=false→wpf P n y Q f h) :
  wpf P n (.cond c x y) Q f h:=by
 intro a w r hw
 refine wp_cond_split (t:=t) (by rw [r.eval]; exact hc) (fun e=>ht e a w r hw) (fun e=>hf e a w r hw)
theorem wpf_block {id:Nat} {c:Code} (H:wpf P n c (blockQ id Q) f h):wpf P n (.block id c) Q f h:=by
 intro a w r hw
 refine wp_block (wp_mono (H a w r hw) ?_)
 rintro e a' w' ⟨hs,f',r',q⟩
 cases e with
 | exit id'=>
  simp only [Exit.inBlock]
  simp only [blockQ] at q
  by_cases hid:id'=id
  ·subst hid
   have hb:Nat.beq id' id'=true:=by simp
   rw [hb,cond_true] at q
   simp only [if_true]; exact⟨hs,f',r',q⟩
  ·have hb:Nat.beq id' id=false:=beq_false_of hid
   rw [hb,cond_false] at q
   simp only [hid,if_false]; exact⟨hs,f',r',q⟩
 | _=>exact⟨hs,f',r',q⟩
theorem wpf_loop {c:Code} (I:Fr→Heap→Prop) (μ : Fr→Heap→Nat) (h0:I f h)
  (round : ∀ f h,I f h→wpf P n c (thenQ (fun f' h'=>I f' h'∧μ f' h' < μ f h) Q) f h):wpf P n (.loop c) Q f h:=by
 intro a w r hw
 refine wp_loop (fun a' w'=>Same w w'∧∃ f',Rel n a' f'∧I f' w'.heap) (fun a' w'=>μ (fun t=>a'.tmps.getD t undef) w'.heap) ⟨Same.refl w,f,r,by rw [hw]; exact h0⟩ ?_
 rintro a1 w1 ⟨hs1,f1,r1,hI⟩
 have e1:(fun t=>a1.tmps.getD t undef)=f1:=funext r1.get
 refine wp_mono (round f1 w1.heap hI a1 w1 r1 rfl) ?_
 rintro e a2 w2 ⟨hs2,f2,r2,q⟩
 cases e with
 | normal=>
  have e2:(fun t=>a2.tmps.getD t undef)=f2:=funext r2.get
  exact⟨⟨hs1.trans hs2,f2,r2,q.1⟩,by rw [e1,e2]; exact q.2⟩
 | _=>exact⟨hs1.trans hs2,f2,r2,q⟩
def opUpon (P:Program) (K:Value→Heap→Prop) (w:World):Result Next→Prop
 | .ok (.value v) w'=>Same w w'∧K v w'.heap
 | .ok .skip w'=>Same w w'∧K undef w'.heap
 | .ok (.enter g args) w'=>Same w w'∧CallsH P g args w'.heap K
 | _=>False
def bareOp (op:Op) (ty:TypeId):Oper:=⟨none,op,ty,"",#[],none⟩
def opH (P:Program) (op:Op) (ty:TypeId) (f:Fr) (K:Value→Heap→Prop) (h:Heap):Prop:=
 ∀ w:World,w.heap=h→opUpon P K w ((execOp (ev f) (bareOp op ty)).run P w)
theorem execOp_bare (ρ : Operand→Value) (o:Oper):execOp ρ o=execOp ρ (bareOp o.op o.type):=rfl
theorem opH.wp {o:Oper} {K:Value→Heap→Prop} {next:Act→World→Prop} {Q':Exit→Act→World→Prop} {a:Act} {w:World} {w0:World}
  (H:opH P o.op o.type f K h) (r:Rel n a f) (hw:w.heap=h) (hs:Same w0 w)
  (hk : ∀ v w',Same w0 w'→K v w'.heap→next (a.put o.dst v) w'):o.wp P a w next Q':=by
 have H':=H w hw
 unfold Oper.wp
 rw [execOp_bare,r.eval']
 generalize (execOp (ev f) (bareOp o.op o.type)).run P w=R at H'
 cases R with
 | halt x w'=>simp only [opUpon] at H'
 | ok x w'=>
  cases x <;> simp only [opUpon] at H'
  case value v=>exact hk v w' (hs.trans H'.1) H'.2
  case skip=>exact hk _ w' (hs.trans H'.1) H'.2
  case enter g args=>
   refine (H'.2 w' rfl).mono ?_
   rintro e w'' ⟨v,rfl,hK,hs'⟩
   exact hk v w'' ((hs.trans H'.1).trans hs') hK
theorem opH.mono {op:Op} {ty:TypeId} {K K':Value→Heap→Prop} (H:opH P op ty f K h) (hk : ∀ v h,K v h→K' v h):opH P op ty f K' h:=by
 intro w hw
 have H':=H w hw
 generalize (execOp (ev f) (bareOp op ty)).run P w=R at H' ⊢
 cases R with
 | halt x w'=>simp only [opUpon] at H'
 | ok x w'=>
  cases x <;> simp only [opUpon] at H' ⊢
  case value v=>exact⟨H'.1,hk _ _ H'.2⟩
  case skip=>exact⟨H'.1,hk _ _ H'.2⟩
  case enter g args=>exact⟨H'.1,H'.2.mono hk⟩
def guardOk (ops:List Oper) (f:Fr):Option (Nat × Bool)→Option Bool
 | none=>some true
 | some (j,want)=>
  match (ops[j]?).bind (·.dst) with
  | none=>some false
  | some t=>match f t with
   | .bool b=>some (bif want then b else !b)
   | _=>some false
theorem guardOk_spec {ops:List Oper} {o:Oper} {a:Act} {b:Bool} (r:Rel n a f) (hg:guardOk ops f o.guard=some b)
  (hd : ∀ x∈ops,dstOk n x.dst=true):Region.wanted o (yielded ops.toArray a.tmps)=b:=by
 unfold Region.wanted
 cases hgd:o.guard with
 | none=>rw [hgd] at hg; simpa [guardOk] using hg
 | some jw=>
  obtain⟨j,want⟩:=jw
  rw [hgd] at hg
  simp only [guardOk] at hg
  simp only [yielded,List.getElem?_toArray]
  cases hj:(ops[j]?).bind (·.dst) with
  | none=>rw [hj] at hg; simp at hg ⊢; rw [hg]
  | some t=>
   rw [hj] at hg
   have htn:t<n:=by
    cases ho:ops[j]? with
    | none=>rw [ho] at hj; simp at hj
    | some x=>
     rw [ho] at hj
     have:=hd x (List.mem_of_getElem? ho)
     simp at hj
     rw [hj] at this
     simpa [dstOk] using this
   have hlt:t<a.tmps.size:=by rw [r.size]; exact htn
   have hft:=r.get t
   rw [Array.getD_eq_getD_getElem?,Array.getElem?_eq_getElem hlt] at hft
   simp only [Option.getD_some] at hft
   simp only [Option.bind_some,Array.getElem?_eq_getElem hlt]
   simp only at hg
   rw [← hft] at hg
   generalize a.tmps[t]=v at hg ⊢
   cases v <;> simp only [Option.some.injEq] at hg <;> subst hg <;> first | rfl | (simp; done) | (rename_i bb; cases bb <;> cases want <;> rfl)
def wpL (P:Program) (n:Nat) (ops:List Oper) (K:Fr→Heap→Prop):List Oper→Fr→Heap→Prop
 | [],f,h=>K f h
 | o :: rest,f,h=>∃ b,guardOk ops f o.guard=some b ∧
   (b=true→opH P o.op o.type f (fun v h'=>wpL P n ops K rest (fputO f o.dst v) h') h)∧(b=false→wpL P n ops K rest (fputO f o.dst undef) h)
theorem wpL_sound {ops:List Oper} {K:Fr→Heap→Prop} {Q':Exit→Act→World→Prop} {w0:World} (hd : ∀ x∈ops,dstOk n x.dst=true)
  (hQ : ∀ a w f,Same w0 w→Rel n a f→K f w.heap→Q' .normal a w) : ∀ (l:List Oper) (k:Nat) (_ : ∀ j,l[j]? = ops[k+j]?) (f:Fr) (a:Act) (w:World),
   Same w0 w→Rel n a f→wpL P n ops K l f w.heap→wpOps P ops.toArray Q' (List.range' k l.length) a w:=by
 intro l
 induction l with
 | nil=>intro k _ f a w hs r H; exact hQ a w f hs r H
 | cons o rest ih=>
  intro k hl f a w hs r H
  obtain⟨b,hg,ht,hf⟩:=H
  have h0:ops[k]? = some o:=by simpa using (hl 0).symm
  have hmem:o∈ops:=List.mem_of_getElem? h0
  have hl' : ∀ j,rest[j]? = ops[k+1+j]?:=fun j=>by have:=hl (j+1); simpa [Nat.add_assoc,Nat.add_comm 1 j] using this
  have hw:=guardOk_spec r hg hd
  simp only [List.length_cons,List.range'_succ,wpOps,List.getElem?_toArray,h0]
  cases b with
  | true=>
   rw [hw,if_pos rfl]
   exact .inl ((ht rfl).wp r rfl hs fun v w' hs' hK=>ih (k+1) hl' _ _ w' hs' (r.put (hd o hmem) v) hK)
  | false=>
   rw [hw]
   exact ih (k+1) hl' _ _ w hs (r.put (hd o hmem) undef) (hf rfl)
def dstsOk (n:Nat) (ops:List Oper):Bool:=ops.all fun o=>dstOk n o.dst
theorem dstsOk_spec {ops:List Oper} (hd:dstsOk n ops=true) : ∀ x∈ops,dstOk n x.dst=true:=fun x hx=>List.all_eq_true.1 hd x hx
theorem wpf_region {id:Nat} {ops:List Oper} (hd:dstsOk n ops=true) (H:wpL P n ops (Q .normal) ops f h):wpf P n (.region id ops.toArray false) Q f h:=by
 intro a w r hw
 refine wp_region ?_
 have:=wpL_sound (P:=P) (w0:=w) (Q':=fun e a' w'=>Same w w'∧∃ f',Rel n a' f'∧Q e f' w'.heap) (dstsOk_spec hd) (fun a' w' f' hs r' hK=>⟨hs,f',r',hK⟩) ops 0 (by simp) f a w (Same.refl w) r (by rw [hw]; exact H)
 simpa [List.range_eq_range'] using this
theorem wpL_nil {ops:List Oper} {K:Fr→Heap→Prop} (H:K f h):wpL P n ops K [] f h:=H
theorem wpL_op {ops:List Oper} {K:Fr→Heap→Prop} {dst:Option Nat} {op:Op} {ty:TypeId} {pos:String} {after:Array Edge} {rest:List Oper}
  (H:opH P op ty f (fun v h'=>wpL P n ops K rest (fputO f dst v) h') h):wpL P n ops K (⟨dst,op,ty,pos,after,none⟩ :: rest) f h:=
 ⟨true,rfl,fun _=>H,fun e=>by cases e⟩
theorem gv {α : Type} {b:Bool} {v u : α} (hb:b=true):(bif b then v else u)=v:=by rw [hb]; rfl
theorem wpL_gq {ops:List Oper} {K:Fr→Heap→Prop} {dst:Option Nat} {op:Op} {ty:TypeId} {pos:String} {after:Array Edge} {rest:List Oper} {g:Nat × Bool} {b:Bool}
  (hg:guardOk ops f (some g)=some b) (v:Value) (hop:b=true→∀ N:Value→Heap→Prop,N v h→opH P op ty f N h) (H:wpL P n ops K rest (fputO f dst (bif b then v else undef)) h) :
  wpL P n ops K (⟨dst,op,ty,pos,after,some g⟩ :: rest) f h:=by
 cases b with
 | true=>exact⟨true,hg,fun _=>hop rfl _ H,fun e=>by cases e⟩
 | false=>exact⟨false,hg,(fun e=>by cases e),fun _=>H⟩
theorem wpL_gl {ops:List Oper} {K:Fr→Heap→Prop} {dst:Option Nat} {op:Op} {ty:TypeId} {pos:String} {after:Array Edge} {rest:List Oper} {g:Nat × Bool} {b:Bool}
  (hg:guardOk ops f (some g)=some b) (J:Value→Heap→Prop) (hout : ∀ v h',J v h'→wpL P n ops K rest (fputO f dst v) h') (ht:b=true→opH P op ty f J h) (hf:b=false→J undef h) :
  wpL P n ops K (⟨dst,op,ty,pos,after,some g⟩ :: rest) f h:=by
 cases b with
 | true=>exact⟨true,hg,fun _=>(ht rfl).mono hout,fun e=>by cases e⟩
 | false=>exact⟨false,hg,(fun e=>by cases e),fun _=>hout _ _ (hf rfl)⟩
theorem guard_slot {ops:List Oper} {t j:Nat} {want b:Bool} (hj:(ops[j]?).bind (·.dst)=some t) (hf:f t = .bool b):guardOk ops f (some (j,want))=some (bif want then b else !b):=by
 simp only [guardOk,hj,hf]
theorem guard_cond {ops:List Oper} {t j:Nat} {want b c:Bool} (hj:(ops[j]?).bind (·.dst)=some t) (hf:f t=(bif c then .bool b else undef)):guardOk ops f (some (j,want))=some (c && (bif want then b else !b)):=by
 simp only [guardOk,hj,hf]
 cases c <;> rfl
end rules
end Go.VC
namespace Go.VC
def cellH (h:Heap) (b o:Nat):Option Value:=
 match h[b]? with
 | some (.cells c _ _)=>c[o]?
 | _=>none
def frozH (h:Heap) (b o:Nat):Bool:=
 match h[b]? with
 | some (.cells _ _ (lo,hi))=>lo≤o && o<hi
 | _=>false
def setH (h:Heap) (b o:Nat) (v:Value):Heap:=
 h.modify b fun
  | .cells c elem frozen=>.cells (c.setIfInBounds o v) elem frozen
  | x=>x
theorem cell_of (w:World) (b o:Nat):w.cell? ⟨b,o,none⟩=cellH w.heap b o:=by
 unfold World.cell? cellH; rfl
theorem frozen_of (w:World) (b o:Nat):w.frozen? ⟨b,o,none⟩=frozH w.heap b o:=rfl
theorem setCell_heap (w:World) (b o:Nat) (v:Value):(w.setCell ⟨b,o,none⟩ v).heap=setH w.heap b o v:=rfl
def ldCells (h:Heap) (b:Nat):Nat→Nat→Option (List Value)
 | _,0=>some []
 | o,n+1=>match cellH h b o with
  | some v=>(ldCells h b (o+1) n).map (v :: ·)
  | none=>none
def stCells (b:Nat):Heap→Nat→List Value→Option Heap
 | h,_,[]=>some h
 | h,o,v :: vs=>if (cellH h b o).isSome && !frozH h b o && v.oneCell' then stCells b (setH h b o v) (o+1) vs else none
def aggSize (P:Program) (t:TypeId):Option (Option Nat):=
 match P.info? t,P.underlying t with
 | some i,some (.struct _)=>some (some i.size)
 | some i,some (.array _ _)=>some (some i.size)
 | some i,some _=>if i.size=1 then some none else none
 | _,_=>none
def fieldOff (P:Program) (s:TypeId) (i:Nat):Option Nat:=
 match P.underlying s with
 | some (.struct fs)=>match fs[i]? with
  | some f=>match P.info? f.type with
   | some ti=>if ti.size=0 then none else some f.offset
   | none=>none
  | none=>none
 | _=>none
def fieldPart (P:Program) (s:TypeId) (i:Nat):Option (Nat × Option Nat):=
 match P.underlying s with
 | some (.struct fs)=>match fs[i]? with
  | some f=>(aggSize P f.type).map fun n=>(f.offset,n)
  | none=>none
 | _=>none
def elemInfo (P:Program) (t:TypeId):Option (Option Nat × TypeId × Nat):=
 match P.underlying t with
 | some (.array n e)=>(P.info? e).map fun i=>(some n,e,i.size)
 | some (.slice e)=>(P.info? e).map fun i=>(none,e,i.size)
 | _=>none
def zeroOf (P:Program) (t:TypeId):Option Value:=(P.info? t).bind (·.zero)
section
variable {P:Program} {f:Fr} {h:Heap} {K:Value→Heap→Prop} {ty:TypeId}
theorem op_move {x:Operand} {v:Value} (hx:ev f x=v) (H:K v h):opH P (.move x) ty f K h:=by
 intro w hw; subst hw; subst hx; exact⟨Same.refl w,H⟩
theorem op_assign {x:Operand} {v:Value} (hx:ev f x=v) (H:K v h):opH P (.assign x) ty f K h:=by
 intro w hw; subst hw; subst hx; exact⟨Same.refl w,H⟩
theorem opH_of_run {op:Op} {v:Value} (hr : ∀ w:World,w.heap=h→(execOp (ev f) (bareOp op ty)).run P w = .ok (.value v) w) (H:K v h):opH P op ty f K h:=by
 intro w hw
 rw [hr w hw]
 exact⟨Same.refl w,by rw [hw]; exact H⟩
theorem op_pick {c a b:Operand} {t:Bool} (hc:ev f c = .bool t) (H:K (bif t then ev f a else ev f b) h):opH P (.pick c a b) ty f K h:=by
 refine opH_of_run (fun w _=>?_) H
 simp only [execOp,bareOp,hc,go_sem]
 cases t <;> rfl
theorem op_pick_or {c a b:Operand} {t u:Bool} (hc:ev f c = .bool t) (ha:ev f a = .bool true) (hb:t=false→ev f b = .bool u) (H:K (.bool (t || u)) h):opH P (.pick c a b) ty f K h:=by
 refine op_pick hc ?_
 cases t with
 | true=>rw [cond_true,ha]; exact H
 | false=>rw [cond_false,hb rfl]; exact H
theorem op_pick_and {c a b:Operand} {t u:Bool} (hc:ev f c = .bool t) (ha:t=true→ev f a = .bool u) (hb:ev f b = .bool false) (H:K (.bool (t && u)) h):opH P (.pick c a b) ty f K h:=by
 refine op_pick hc ?_
 cases t with
 | true=>rw [cond_true,ha rfl]; exact H
 | false=>rw [cond_false,hb]; exact H
theorem op_nilCheck {x:Operand} {a:Addr} (hx:ev f x = .pointer (some a)) (H:K (.pointer (some a)) h):opH P (.nilCheck x) ty f K h:=by
 refine opH_of_run (fun w _=>?_) H
 simp only [execOp,bareOp,hx]; rfl
theorem op_fieldAddr {s:TypeId} {x:Operand} {i b o off:Nat} (hx:ev f x = .pointer (some ⟨b,o,none⟩)) (hf:fieldOff P s i=some off)
  (H:K (.pointer (some ⟨b,o+off,none⟩)) h):opH P (.fieldAddr s x i) ty f K h:=by
 refine opH_of_run (fun w _=>?_) H
 unfold fieldOff at hf
 split at hf <;> try simp at hf
 rename_i fs hu
 split at hf <;> try simp at hf
 rename_i fd hfd
 split at hf <;> try simp at hf
 rename_i ti hti
 obtain⟨hne,rfl⟩:=hf
 simp [execOp,bareOp,hx,Instr.fieldAt,run_underlying hu,hfd,Instr.sureAddr,fieldPlace,sizeOf,typeInfo,hti,hne,Addr.add_lit]
theorem run_loadCells (w:World) (b:Nat) : ∀ (n o i:Nat) (acc:Array Value) (vs:List Value),ldCells w.heap b (o+i) n=some vs →
  (loadCellsFrom ⟨b,o,none⟩ i n acc).run P w = .ok (acc ++ vs.toArray) w:=by
 intro n
 induction n with
 | zero=>intro o i acc vs hv; simp [ldCells] at hv; subst hv; simp [loadCellsFrom]
 | succ n ih=>
  intro o i acc vs hv
  simp only [ldCells] at hv
  split at hv
  ·rename_i v hc
   cases hr:ldCells w.heap b (o+i+1) n with
   | none=>rw [hr] at hv; simp at hv
   | some rest=>
    rw [hr] at hv; simp at hv; subst hv
    have hadd:Addr.add ⟨b,o,none⟩ i=⟨b,o+i,none⟩:=Addr.add_lit b o i
    have hc':w.cell? ⟨b,o+i,none⟩=some v:=by rw [cell_of]; exact hc
    have:=ih o (i+1) (acc.push v) rest (by rw [← Nat.add_assoc]; exact hr)
    simp only [loadCellsFrom,Sem.run_bind,hadd,run_load,hc',Result.andThen_ok,this]
    simp
  ·simp at hv
theorem agg_yes {t:TypeId} {n:Nat} (ha:aggSize P t=some (some n)) (w:World):(isAgg t).run P w = .ok true w∧∃ i,P.info? t=some i∧i.size=n:=by
 unfold aggSize at ha
 cases hi:P.info? t with
 | none=>rw [hi] at ha; simp at ha
 | some i=>
  cases hu:P.underlying t with
  | none=>rw [hi,hu] at ha; simp at ha
  | some d=>
   rw [hi,hu] at ha
   refine⟨?_,i,rfl,?_⟩
   ·cases d <;> simp_all [isAgg,run_underlying hu]
   ·cases d <;> simp_all
theorem agg_no {t:TypeId} (ha:aggSize P t=some none) (w:World):(isAgg t).run P w = .ok false w∧∃ i,P.info? t=some i∧i.size=1:=by
 unfold aggSize at ha
 cases hi:P.info? t with
 | none=>rw [hi] at ha; simp at ha
 | some i=>
  cases hu:P.underlying t with
  | none=>rw [hi,hu] at ha; simp at ha
  | some d=>
   rw [hi,hu] at ha
   refine⟨?_,i,rfl,?_⟩
   ·cases d <;> simp_all [isAgg,run_underlying hu]
   ·cases d <;> simp_all
theorem run_loadVar (w:World) (t:TypeId) (b o:Nat) (n:Nat) (vs:List Value) (ha:aggSize P t=some (some n)) (hv:ldCells w.heap b o n=some vs) :
  (loadVar t ⟨b,o,none⟩).run P w = .ok (.agg vs.toArray) w:=by
 obtain⟨h1,i,hi,rfl⟩:=agg_yes ha w
 have:=run_loadCells (P:=P) w b i.size o 0 #[] vs (by simpa using hv)
 simp [loadVar,h1,sizeOf,typeInfo,hi,loadCells,this]
theorem run_loadVar1 (w:World) (t:TypeId) (b o:Nat) (v:Value) (ha:aggSize P t=some none) (hv:cellH w.heap b o=some v) :
  (loadVar t ⟨b,o,none⟩).run P w = .ok v w:=by
 have hc:w.cell? ⟨b,o,none⟩=some v:=by rw [cell_of]; exact hv
 obtain⟨h1,-⟩:=agg_no ha w
 simp [loadVar,h1,hc]
theorem op_load1 {t:TypeId} {x:Operand} {b o:Nat} {v:Value} (hx:ev f x = .pointer (some ⟨b,o,none⟩)) (ha:aggSize P t=some none)
  (hc:cellH h b o=some v) (H:K v h):opH P (.load t x) ty f K h:=by
 refine opH_of_run (fun w hw=>?_) H
 subst hw
 simp [execOp,bareOp,hx,Instr.loadAt,Instr.sureAddr,run_loadVar1 w t b o v ha hc]
theorem op_loadN {t:TypeId} {x:Operand} {b o n:Nat} {vs:List Value} (hx:ev f x = .pointer (some ⟨b,o,none⟩)) (ha:aggSize P t=some (some n))
  (hc:ldCells h b o n=some vs) (H:K (.agg vs.toArray) h):opH P (.load t x) ty f K h:=by
 refine opH_of_run (fun w hw=>?_) H
 subst hw
 simp [execOp,bareOp,hx,Instr.loadAt,Instr.sureAddr,run_loadVar w t b o n vs ha hc]
theorem run_storeCells (b:Nat) : ∀ (vs:List Value) (o i:Nat) (w:World) (h':Heap),stCells b w.heap (o+i) vs=some h' →
  ∃ w',(storeCells ⟨b,o,none⟩ vs i).run P w = .ok () w'∧Same w w'∧w'.heap=h':=by
 intro vs
 induction vs with
 | nil=>intro o i w h' hs; simp [stCells] at hs; subst hs; exact⟨w,by simp [storeCells],Same.refl w,rfl⟩
 | cons v vs ih=>
  intro o i w h' hs
  simp only [stCells] at hs
  split at hs
  ·rename_i hc
   simp only [Bool.and_eq_true,Bool.not_eq_true'] at hc
   obtain⟨⟨hc1,hc2⟩,hc3⟩:=hc
   obtain⟨u,hu⟩:=Option.isSome_iff_exists.1 hc1
   have hcell:w.cell? ⟨b,o+i,none⟩=some u:=by rw [cell_of]; exact hu
   have hfz:w.frozen? ⟨b,o+i,none⟩=false:=by rw [frozen_of]; exact hc2
   obtain⟨w',hr,hsame,hh⟩:=ih o (i+1) (w.setCell ⟨b,o+i,none⟩ v) h' (by rw [setCell_heap,← Nat.add_assoc]; exact hs)
   refine⟨w',?_,hsame,hh⟩
   have hadd:Addr.add ⟨b,o,none⟩ i=⟨b,o+i,none⟩:=Addr.add_lit b o i
   simp only [storeCells,Sem.run_bind,hadd,run_store P w _ v .plain hc3,hcell,hfz]
   simpa using hr
  ·simp at hs
theorem run_storeVar (w:World) (t:TypeId) (b o:Nat) (v:Value) (n:Nat) (h':Heap) (ha:(P.info? t).map (·.size)=some n) (hn:v.cells.size=n)
  (hs:stCells b w.heap o v.cells.toList=some h') : ∃ w',(storeVar t ⟨b,o,none⟩ v).run P w = .ok () w'∧Same w w'∧w'.heap=h':=by
 obtain⟨w',hr,hsame,hh⟩:=run_storeCells (P:=P) b v.cells.toList o 0 w h' (by simpa using hs)
 refine⟨w',?_,hsame,hh⟩
 obtain⟨i,hi,rfl⟩:=Option.map_eq_some_iff.1 ha
 simp [storeVar,sizeOf,typeInfo,hi,hn,hr]
def sizeT (P:Program) (t:TypeId):Option Nat:=(P.info? t).map (·.size)
theorem op_store {t:TypeId} {x y:Operand} {b o n:Nat} {v:Value} {h':Heap} (hx:ev f x = .pointer (some ⟨b,o,none⟩)) (hy:ev f y=v) (ha:sizeT P t=some n)
  (hn:v.cells.size=n) (hs:stCells b h o v.cells.toList=some h') (H:K undef h'):opH P (.store t x y) ty f K h:=by
 intro w hw
 subst hw
 obtain⟨w',hr,hsame,hh⟩:=run_storeVar (P:=P) w t b o v n h' ha hn hs
 subst hh
 simp [execOp,bareOp,hx,hy,Instr.storeAt,Instr.sureAddr,hr,opUpon]
 exact⟨hsame,H⟩
theorem opH_of_new {op:Op} {v:Value} {ob:Obj} (hr : ∀ w:World,w.heap=h→(execOp (ev f) (bareOp op ty)).run P w = .ok (.value v) { w with heap:=w.heap.push ob }) (H:K v (h.push ob)):opH P op ty f K h:=by
 intro w hw
 rw [hr w hw]
 exact⟨Same.refl w,by show K v (w.heap.push ob); rw [hw]; exact H⟩
theorem op_alloc {t:TypeId} {z:Value} {h1:Heap} (hz:zeroOf P t=some z) (hh:h1=h.push (.cells z.cells t (0,0))) (H:K (.pointer (some ⟨h.size,0,none⟩)) h1):opH P (.alloc t) ty f K h:=by
 subst hh
 refine opH_of_new (fun w hw=>?_) H
 subst hw
 obtain⟨i,hi,hiz⟩:=Option.bind_eq_some_iff.1 hz
 simp [execOp,bareOp,Instr.alloc,zeroValue,typeInfo,hi,hiz,newVar,newRow]
theorem op_box {t:TypeId} {x:Operand} {v:Value} {h1:Heap} (hx:ev f x=v) (hh:h1=h.push (.cells v.cells t (0,0))) (H:K (.pointer (some ⟨h.size,0,none⟩)) h1):opH P (.box t x) ty f K h:=by
 subst hh
 refine opH_of_new (fun w hw=>?_) H
 subst hw
 simp [execOp,bareOp,Instr.box,hx,newVar,newRow]
theorem op_extract {x:Operand} {i:Nat} {vs:List Value} {v:Value} (hx:ev f x = .tuple vs.toArray) (hv:vs[i]? = some v) (H:K v h):opH P (.extract x i) ty f K h:=by
 refine opH_of_run (fun w _=>?_) H
 simp [execOp,bareOp,hx,Instr.extract,hv]
theorem run_part1 (w:World) {t:TypeId} {cs:Array Value} {off:Nat} {v:Value} (ha:aggSize P t=some none) (hv:cs[off]? = some v):(part t cs off).run P w = .ok v w:=by
 obtain⟨h1,-⟩:=agg_no ha w
 simp [part,h1,hv]
theorem fieldPart_spec {s:TypeId} {i off:Nat} {r:Option Nat} (hf:fieldPart P s i=some (off,r)) : ∃ fs fd,P.underlying s=some (.struct fs)∧fs[i]? = some fd∧fd.offset=off∧aggSize P fd.type=some r:=by
 unfold fieldPart at hf
 split at hf <;> try simp at hf
 rename_i fs hu
 split at hf <;> simp at hf
 rename_i fd hfd
 obtain⟨ha,rfl⟩:=hf
 exact⟨fs,fd,hu,hfd,rfl,ha⟩
theorem op_field1 {s:TypeId} {x:Operand} {i off:Nat} {cs:List Value} {v:Value} (hx:ev f x = .agg cs.toArray) (hf:fieldPart P s i=some (off,none)) (hv:cs[off]? = some v) (H:K v h) :
  opH P (.field s x i) ty f K h:=by
 obtain⟨fs,fd,hu,hfd,rfl,ha⟩:=fieldPart_spec hf
 refine opH_of_run (fun w _=>?_) H
 simp [execOp,bareOp,hx,Instr.field,run_underlying hu,hfd,asAgg,run_part1 (cs:=cs.toArray) w ha (by simpa using hv)]
theorem op_add {t u:TypeId} {x y:Operand} {k:IntKind} {a b c:Int} (hx:ev f x = .int k a) (hy:ev f y = .int k b) (e:k.wrap (a+b)=c) (H:K (.int k c) h):opH P (.binOp .add t x y u) ty f K h:=by
 refine opH_of_run (fun w _=>?_) H
 subst e; simp [execOp,bareOp,hx,hy,go_sem,Op.intArith]
theorem op_sub {t u:TypeId} {x y:Operand} {k:IntKind} {a b c:Int} (hx:ev f x = .int k a) (hy:ev f y = .int k b) (e:k.wrap (a - b)=c) (H:K (.int k c) h):opH P (.binOp .sub t x y u) ty f K h:=by
 refine opH_of_run (fun w _=>?_) H
 subst e; simp [execOp,bareOp,hx,hy,go_sem,Op.intArith]
theorem op_mul {t u:TypeId} {x y:Operand} {k:IntKind} {a b c:Int} (hx:ev f x = .int k a) (hy:ev f y = .int k b) (e:k.wrap (a * b)=c) (H:K (.int k c) h):opH P (.binOp .mul t x y u) ty f K h:=by
 refine opH_of_run (fun w _=>?_) H
 subst e; simp [execOp,bareOp,hx,hy,go_sem,Op.intArith]
theorem op_eql {t u:TypeId} {x y:Operand} {k:IntKind} {a b:Int} (hx:ev f x = .int k a) (hy:ev f y = .int k b) (H:K (.bool (decide (a=b))) h):opH P (.binOp .eql t x y u) ty f K h:=by
 refine opH_of_run (fun w _=>?_) H
 have e:decide (a=b)=(a == b):=rfl
 rw [e]; simp [execOp,bareOp,hx,hy,go_sem]
theorem op_neq {t u:TypeId} {x y:Operand} {k:IntKind} {a b:Int} (hx:ev f x = .int k a) (hy:ev f y = .int k b) (H:K (.bool (!decide (a=b))) h):opH P (.binOp .neq t x y u) ty f K h:=by
 refine opH_of_run (fun w _=>?_) H
 have e:(!decide (a=b))=(a != b):=rfl
 rw [e]; simp [execOp,bareOp,hx,hy,go_sem]
theorem op_lss {t u:TypeId} {x y:Operand} {k:IntKind} {a b:Int} (hx:ev f x = .int k a) (hy:ev f y = .int k b) (H:K (.bool (decide (a<b))) h):opH P (.binOp .lss t x y u) ty f K h:=by
 refine opH_of_run (fun w _=>?_) H
 simp [execOp,bareOp,hx,hy,go_sem]
theorem op_leq {t u:TypeId} {x y:Operand} {k:IntKind} {a b:Int} (hx:ev f x = .int k a) (hy:ev f y = .int k b) (H:K (.bool (decide (a≤b))) h):opH P (.binOp .leq t x y u) ty f K h:=by
 refine opH_of_run (fun w _=>?_) H
 simp [execOp,bareOp,hx,hy,go_sem]
theorem op_gtr {t u:TypeId} {x y:Operand} {k:IntKind} {a b:Int} (hx:ev f x = .int k a) (hy:ev f y = .int k b) (H:K (.bool (decide (b<a))) h):opH P (.binOp .gtr t x y u) ty f K h:=by
 refine opH_of_run (fun w _=>?_) H
 simp [execOp,bareOp,hx,hy,go_sem]
theorem op_geq {t u:TypeId} {x y:Operand} {k:IntKind} {a b:Int} (hx:ev f x = .int k a) (hy:ev f y = .int k b) (H:K (.bool (decide (b≤a))) h):opH P (.binOp .geq t x y u) ty f K h:=by
 refine opH_of_run (fun w _=>?_) H
 simp [execOp,bareOp,hx,hy,go_sem]
theorem op_not {t:TypeId} {x:Operand} {a:Bool} (hx:ev f x = .bool a) (H:K (.bool (!a)) h):opH P (.unOp .not t x) ty f K h:=by
 refine opH_of_run (fun w _=>?_) H
 simp [execOp,bareOp,hx,go_sem,Op.unary]
theorem op_rem {t u:TypeId} {x y:Operand} {k:IntKind} {a b c:Int} (hx:ev f x = .int k a) (hy:ev f y = .int k b) (hb:b≠0) (e:a.tmod b=c) (H:K (.int k c) h):opH P (.binOp .rem t x y u) ty f K h:=by
 refine opH_of_run (fun w _=>?_) H
 subst e; simp [execOp,bareOp,hx,hy,go_sem,Op.intDiv,hb]
def bitsAnd (k:IntKind) (a b:Int):Int:=k.wrap (((BitVec.ofInt k.bits a) &&& (BitVec.ofInt k.bits b)).toNat:Nat)
theorem op_and {t u:TypeId} {x y:Operand} {k:IntKind} {a b c:Int} (hx:ev f x = .int k a) (hy:ev f y = .int k b) (e:bitsAnd k a b=c) (H:K (.int k c) h):opH P (.binOp .and t x y u) ty f K h:=by
 refine opH_of_run (fun w _=>?_) H
 subst e; simp [execOp,bareOp,hx,hy,binOp,Op.intBits,bitsAnd,eqGuard]
theorem op_shr {t u:TypeId} {x y:Operand} {k k':IntKind} {a b c:Int} (hx:ev f x = .int k a) (hy:ev f y = .int k' b) (hb:0≤b) (e:a.fdiv (2 ^ (min b.toNat k.bits))=c) (H:K (.int k c) h):opH P (.binOp .shr t x y u) ty f K h:=by
 refine opH_of_run (fun w _=>?_) H
 have : ¬ b<0:=by omega
 subst e; simp [execOp,bareOp,hx,hy,binOp,Op.shift,this,eqGuard]
theorem op_conv {s d:TypeId} {x:Operand} {k k':IntKind} {a c:Int} (hx:ev f x = .int k a) (hs:(P.underlying s).map (fun _=>())=some ()) (hd:P.underlying d=some (.int k')) (e:k'.wrap a=c) (H:K (.int k' c) h):opH P (.convert s d x) ty f K h:=by
 refine opH_of_run (fun w _=>?_) H
 obtain⟨ds,hus,-⟩:=Option.map_eq_some_iff.1 hs
 subst e; simp [execOp,bareOp,hx,convert,run_underlying hus,run_underlying hd,Conv.intToInt]
theorem op_eq_map_nil {t u tk te:TypeId} {x y:Operand} {m:Option Nat} (hx:ev f x = .map m) (hy:ev f y = .map none) (ht:P.underlying t=some (.map tk te)) (H:K (.bool m.isNone) h):opH P (.binOp .eql t x y u) ty f K h:=by
 refine opH_of_run (fun w _=>?_) H
 simp [execOp,bareOp,hx,hy,go_sem,run_eql_map_nil w t tk te m ht]
theorem op_eq_sl_nil {t u te:TypeId} {x y:Operand} {a:Option Addr} {n c:Nat} (hx:ev f x = .slice a n c) (hy:ev f y = .slice none 0 0) (ht:P.underlying t=some (.slice te)) (H:K (.bool a.isNone) h):opH P (.binOp .eql t x y u) ty f K h:=by
 refine opH_of_run (fun w _=>?_) H
 simp [execOp,bareOp,hx,hy,go_sem,Lib.run_eql_slice_nil w t te a n c 0 0 ht]
theorem pointee_of {t te:TypeId} (ht:P.underlying t=some (.pointer te)):P.underlying t=some (.pointer (P.pointee t)):=by
 rw [ht]; simp [Program.pointee,ht]
theorem op_eq_ptr_nil {t u te:TypeId} {x y:Operand} {a:Option Addr} (hx:ev f x = .pointer a) (hy:ev f y = .pointer none) (ht:P.underlying t=some (.pointer te)) (H:K (.bool a.isNone) h):opH P (.binOp .eql t x y u) ty f K h:=by
 refine opH_of_run (fun w _=>?_) H
 simp [execOp,bareOp,hx,hy,go_sem,run_eql_pointer_nil w t a (pointee_of ht)]
theorem elem_array {t e:TypeId} {n sz:Nat} (he:elemInfo P t=some (some n,e,sz)):P.underlying t=some (.array n e)∧sizeT P e=some sz:=by
 unfold elemInfo at he
 split at he <;> simp at he
 ·obtain⟨i,hi,rfl,rfl,rfl⟩:=he
  rename_i hu
  exact⟨hu,by simp [sizeT,hi]⟩
theorem elem_slice {t e:TypeId} {sz:Nat} (he:elemInfo P t=some (none,e,sz)):P.underlying t=some (.slice e)∧sizeT P e=some sz:=by
 unfold elemInfo at he
 split at he <;> simp at he
 ·obtain⟨i,hi,rfl,rfl⟩:=he
  rename_i hu
  exact⟨hu,by simp [sizeT,hi]⟩
theorem run_sizeOf {t:TypeId} {n:Nat} (ha:sizeT P t=some n) (w:World):(sizeOf t).run P w = .ok n w:=by
 obtain⟨i,hi,rfl⟩:=Option.map_eq_some_iff.1 ha
 simp [sizeOf,typeInfo,hi]
theorem op_indexAddr_array {t e:TypeId} {x y:Operand} {b o n sz:Nat} {k:IntKind} {i:Int} (hx:ev f x = .pointer (some ⟨b,o,none⟩)) (hy:ev f y = .int k i) (he:elemInfo P t=some (some n,e,sz))
  (hi:0≤i∧i<n) (H:K (.pointer (some ⟨b,o+i.toNat * sz,none⟩)) h):opH P (.indexAddr t x y) ty f K h:=by
 obtain⟨hu,hs⟩:=elem_array he
 refine opH_of_run (fun w _=>?_) H
 simp [execOp,bareOp,hx,hy,Instr.indexAt,asIntOf,run_underlying hu,Instr.sureAddr,hi,run_sizeOf hs,Addr.add_lit]
theorem op_indexAddr_slice {t e:TypeId} {x y:Operand} {b o n c sz:Nat} {k:IntKind} {i:Int} (hx:ev f x = .slice (some ⟨b,o,none⟩) n c) (hy:ev f y = .int k i) (he:elemInfo P t=some (none,e,sz))
  (hi:0≤i∧i<n) (H:K (.pointer (some ⟨b,o+i.toNat * sz,none⟩)) h):opH P (.indexAddr t x y) ty f K h:=by
 obtain⟨hu,hs⟩:=elem_slice he
 refine opH_of_run (fun w _=>?_) H
 simp [execOp,bareOp,hx,hy,Instr.indexAt,asIntOf,run_underlying hu,hi,run_sizeOf hs,Addr.add_lit]
theorem op_index_array1 {t e:TypeId} {x y:Operand} {n sz:Nat} {cs:List Value} {k:IntKind} {i:Int} {v:Value} (hx:ev f x = .agg cs.toArray) (hy:ev f y = .int k i) (he:elemInfo P t=some (some n,e,sz)) (ha:aggSize P e=some none)
  (hi:0≤i∧i<n) (hv:cs[i.toNat * sz]? = some v) (H:K v h):opH P (.index t x y) ty f K h:=by
 obtain⟨hu,hs⟩:=elem_array he
 refine opH_of_run (fun w _=>?_) H
 simp [execOp,bareOp,hx,hy,Instr.index,asIntOf,run_underlying hu,hi,run_sizeOf hs,run_part1 (cs:=cs.toArray) w ha (by simpa using hv)]
theorem op_len_slice {t:TypeId} {x:Operand} {e:TypeId} {a:Option Addr} {n c:Nat} (hx:ev f x = .slice a n c) (hu:P.underlying t=some (.slice e)) (H:K (.int .i64 n) h) :
  opH P (.call ⟨.builtin .len,#[x],#[t]⟩) ty f K h:=by
 refine opH_of_run (fun w _=>?_) H
 simp [execOp,bareOp,resolve,invoke,builtin,hx,Builtin.len_,run_underlying hu,goInt]
theorem op_cap_slice {t:TypeId} {x:Operand} {e:TypeId} {a:Option Addr} {n c:Nat} (hx:ev f x = .slice a n c) (hu:P.underlying t=some (.slice e)) (H:K (.int .i64 c) h) :
  opH P (.call ⟨.builtin .cap,#[x],#[t]⟩) ty f K h:=by
 refine opH_of_run (fun w _=>?_) H
 simp [execOp,bareOp,resolve,invoke,builtin,hx,Builtin.cap_,run_underlying hu,goInt]
theorem op_min {x y:Operand} {ts:Array TypeId} {k k':IntKind} {a b:Int} (hx:ev f x = .int k a) (hy:ev f y = .int k' b) (H:K (.int k (if b<a then b else a)) h) :
  opH P (.call ⟨.builtin .min,#[x,y],ts⟩) ty f K h:=by
 refine opH_of_run (fun w _=>?_) H
 simp [execOp,bareOp,resolve,invoke,builtin,Builtin.min_,Builtin.min2,hx,hy]
theorem op_makeInterface {t:TypeId} {x:Operand} (ht:P.concrete t=true) (H:K (.iface t (ev f x)) h):opH P (.makeInterface t x) ty f K h:=by
 refine opH_of_run (fun w _=>?_) H
 simp [execOp,bareOp,run_makeInterface w t _ ht]
theorem op_makeFunc {fn:Fn} {fi ca:Array Operand} (H:K (.func fn (fi.map (ev f)) (ca.map (ev f))) h):opH P (.makeFunc fn fi ca) ty f K h:=by
 refine opH_of_run (fun w _=>?_) H
 simp [execOp,bareOp,Instr.makeFunc]
theorem op_makeMap {t:TypeId} (H:K (.map (some h.size)) (h.push (.map #[] 0))):opH P (.makeMap t none) ty f K h:=by
 refine opH_of_new (fun w hw=>?_) H
 subst hw
 simp [execOp,bareOp,Instr.makeMap]
theorem args_nil:([]:List Operand).map (ev f) = []:=rfl
theorem args_cons {x:Operand} {xs:List Operand} {v:Value} {vs:List Value} (e:ev f x=v) (H:xs.map (ev f)=vs):(x :: xs).map (ev f)=v :: vs:=by
 rw [List.map_cons,e,H]
theorem op_call {g:FuncId} {args:List Operand} {ts:Array TypeId} {vs:List Value} (he : ∀ args w,(callFunc g args).run P w = .ok (.enter g args) w) (ha:args.map (ev f)=vs) (H:CallsH P g vs.toArray h K) :
  opH P (.call ⟨.value (.func g),args.toArray,ts⟩) ty f K h:=by
 intro w hw
 have e1:args.toArray.map (ev f)=vs.toArray:=by rw [List.map_toArray,ha]
 simp only [execOp,bareOp,resolve,Deferred.ofValue,ev,pure_bind,invoke,e1,he,opUpon,Array.empty_append,Array.append_empty]
 exact⟨Same.refl w,by rw [hw]; exact H⟩
theorem op_callv {g:FuncId} {x:Operand} {args:List Operand} {ts:Array TypeId} {vs:List Value} {fi ca:List Value} (hx:ev f x = .func (.func g) fi.toArray ca.toArray) (he : ∀ args w,(callFunc g args).run P w = .ok (.enter g args) w) (ha:args.map (ev f)=vs)
  (H:CallsH P g (fi ++ vs ++ ca).toArray h K):opH P (.call ⟨.value x,args.toArray,ts⟩) ty f K h:=by
 intro w hw
 have e1:args.toArray.map (ev f)=vs.toArray:=by rw [List.map_toArray,ha]
 simp only [execOp,bareOp,resolve,hx,Deferred.ofValue,pure_bind,invoke,e1,he,opUpon]
 exact⟨Same.refl w,by rw [hw]; simpa using H⟩
theorem parts_nil:([]:List (Nat × Operand)).map (fun p=>(p.1,ev f p.2)) = []:=rfl
theorem parts_cons {i:Nat} {x:Operand} {xs:List (Nat × Operand)} {v:Value} {vs:List (Nat × Value)} (e:ev f x=v) (H:xs.map (fun p=>(p.1,ev f p.2))=vs):((i,x) :: xs).map (fun p=>(p.1,ev f p.2))=(i,v) :: vs:=by
 rw [List.map_cons,H]; simp only [e]
theorem op_build {t:TypeId} {parts:List (Nat × Operand)} {vs:List (Nat × Value)} {z cs:Array Value} {fs:Array Field} {pl:List (Nat × Nat)} (hz:zeroOf P t=some (.agg z)) (hu:P.underlying t=some (.struct fs))
  (hp:fs.toList.map (fun fd=>(sizeT P fd.type).map fun n=>(fd.offset,n))=pl.map some)
  (hps:parts.map (fun p=>(p.1,ev f p.2))=vs) (hf:Instr.fill (pl[·]?) z vs=some cs) (H:K (.agg cs) h):opH P (.build t parts.toArray) ty f K h:=by
 refine opH_of_run (fun w _=>?_) H
 obtain⟨i,hi,hiz⟩:=Option.bind_eq_some_iff.1 hz
 have key : ∀ (l:List Field) (q:List (Nat × Nat)),l.map (fun fd=>(sizeT P fd.type).map fun n=>(fd.offset,n))=q.map some →
   (l.mapM (fun fd=>do pure (fd.offset,← sizeOf fd.type):Field→Sem (Nat × Nat))).run P w = .ok q w:=by
  intro l
  induction l with
  | nil=>intro q hq; cases q <;> simp at hq; simp
  | cons a l ih=>
   intro q hq
   cases q with
   | nil=>simp at hq
   | cons b q=>
    simp only [List.map_cons,List.cons.injEq] at hq
    obtain⟨h1,h2⟩:=hq
    obtain⟨m,hm,rfl⟩:=Option.map_eq_some_iff.1 h1
    have ih':=ih q h2
    simp only [bind_pure_comp] at ih'
    simp [List.mapM_cons,run_sizeOf hm,ih']
 have hk:=key fs.toList pl hp
 have hps':(parts.toArray.map fun (p:Nat × Operand)=>(p.1,ev f p.2)).toList=vs:=by simp [hps]
 have hpl:(fun x:Nat=>pl.toArray[x]?)=(fun x:Nat=>pl[x]?):=by funext x; simp
 have hk':(fs.mapM (fun fd=>do pure (fd.offset,← sizeOf fd.type):Field→Sem (Nat × Nat))).run P w = .ok pl.toArray w:=by
  rw [Array.mapM_eq_mapM_toList]
  simp only [bind_pure_comp] at hk ⊢
  simp [hk]
 simp only [execOp,bareOp,Instr.build,Sem.run_bind,zeroValue,typeInfo,run_program,Result.andThen_ok,hi,hiz,Sem.run_pure,Value.cells,run_underlying hu,hk',hps',hpl,hf]
end
end Go.VC
namespace Go.VC
open Go.MapKept Go.Maps
structure KeyEnc {κ : Type} [DecidableEq κ] (d:TypeDesc) (ek : κ→Value):Prop where
 isKey : ∀ a,IsKey d (ek a)
 inj : ∀ a b,ek a=ek b→a=b
structure ME (κ : Type) where
 key : κ
 val:Value
 born:Nat
def ME.ent {κ : Type} (ek : κ→Value) (e:ME κ):MapEntry:=⟨ek e.key,e.val,e.born⟩
def mobj {κ : Type} (ek : κ→Value) (l:List (ME κ)) (c:Nat):Obj:=.map (l.map (ME.ent ek)).toArray c
theorem int_enc (k:IntKind):KeyEnc (.int k) (fun n:Int=>Value.int k n):=⟨fun a=>by simp [IsKey],fun a b h=>by simpa using h⟩
section
variable {κ : Type} [DecidableEq κ]
def mfind (l:List (ME κ)) (n : κ):Option (ME κ):=l.find? fun e=>decide (e.key=n)
def mlook (l:List (ME κ)) (n : κ):Option Value:=(mfind l n).map (·.val)
def midx (l:List (ME κ)) (n : κ):Option Nat:=l.findIdx? fun e=>decide (e.key=n)
def mput (l:List (ME κ)) (n : κ) (v:Value) (c:Nat):List (ME κ):=
 match midx l n with
 | some i=>l.modify i fun e=>{ e with val:=v }
 | none=>l ++ [⟨n,v,c⟩]
def mclk (l:List (ME κ)) (n : κ) (c:Nat):Nat:=if (midx l n).isSome then c else c+1
def mdel (l:List (ME κ)) (n : κ):List (ME κ):=
 match midx l n with
 | some i=>l.eraseIdx i
 | none=>l
theorem findNow_enc {d:TypeDesc} {ek : κ→Value} (he:KeyEnc d ek) (n : κ) : ∀ (l:List (ME κ)) (i:Nat),
  Instr.findNow d (ek n) (l.map (ME.ent ek)) i=some (match midx l n with | some j=>(mlook l n).map fun v=>(i+j,v) | none=>none):=by
 intro l
 induction l with
 | nil=>intro i; rfl
 | cons e l ih=>
  intro i
  obtain⟨r,hr,hiff⟩:=sameNow_of_keys (he.isKey n) (he.isKey e.key)
  simp only [List.map_cons,Instr.findNow,ME.ent,hr]
  by_cases h:e.key=n
  ·have hrt:r=true:=hiff.2 (by rw [h])
   subst hrt
   simp [midx,mlook,mfind,List.findIdx?_cons,h]
  ·have hrf:r=false:=by
    cases r with
    | false=>rfl
    | true=>exact absurd (he.inj _ _ (hiff.1 rfl)).symm h
   subst hrf
   have ih':=ih (i+1)
   simp only [ih']
   have hn:(e :: l).find? (fun e=>decide (e.key=n))=l.find? (fun e=>decide (e.key=n)):=by simp [h]
   simp only [midx,mlook,mfind,List.findIdx?_cons,h,decide_false,Bool.false_eq_true,if_false,hn]
   cases l.findIdx? (fun e=>decide (e.key=n)) with
   | none=>simp
   | some j=>simp [Nat.add_assoc,Nat.add_comm 1 j]
theorem midx_mfind (l:List (ME κ)) (n : κ):(midx l n).bind (l[·]?)=mfind l n:=by
 induction l with
 | nil=>rfl
 | cons e l ih=>
  simp only [midx,mfind,List.findIdx?_cons]
  by_cases h:e.key=n
  ·simp [h]
  ·have hn:(e :: l).find? (fun e=>decide (e.key=n))=mfind l n:=by simp [mfind,h]
   rw [hn,← ih,midx]
   simp only [h,decide_false,Bool.false_eq_true,if_false]
   cases l.findIdx? (fun e=>decide (e.key=n)) <;> simp
theorem mfind_key {l:List (ME κ)} {n : κ} {e:ME κ} (h:mfind l n=some e):e.key=n:=by
 have:=List.find?_some h; simpa using this
variable {P:Program} {f:Fr} {h:Heap} {K:Value→Heap→Prop} {ty:TypeId} {d:TypeDesc} {ek : κ→Value}
def mapAt (ek : κ→Value) (h:Heap) (m:Option Nat) (l:List (ME κ)) (c:Nat):Prop:=
 match m with
 | none=>l = []
 | some r=>h[r]? = some (mobj ek l c)
theorem op_lookup {t kt et:TypeId} {x y:Operand} {m:Option Nat} {l:List (ME κ)} {c:Nat} {n : κ} {z:Value} (he:KeyEnc d ek) (ht:P.underlying t=some (.map kt et)∧P.underlying kt=some d) (hz:zeroOf P et=some z)
  (hx:ev f x = .map m) (hy:ev f y=ek n) (hm:mapAt ek h m l c)
  (H:K ((mlook l n).getD z) h):opH P (.lookup t x y false) ty f K h:=by
 obtain⟨hu,hk⟩:=ht
 obtain⟨i,hi,hiz⟩:=Option.bind_eq_some_iff.1 hz
 refine opH_of_run (fun w hw=>?_) H
 subst hw
 have hzv:(zeroValue et).run P w = .ok z w:=by simp [zeroValue,typeInfo,hi,hiz]
 cases m with
 | none=>
  simp only [mapAt] at hm; subst hm
  have hf:=run_findKey (P:=P) (w:=w) (kt:=kt) (k:=ek n) (l:=[]) hk (a:=none) rfl
  have hc:=run_checkKey (P:=P) (w:=w) hk (he.isKey n) true 9999
  simp [execOp,bareOp,hx,hy,Instr.lookup,run_underlying hu,hf,hc,hzv,mlook,mfind]
 | some r=>
  simp only [mapAt,mobj] at hm
  have hf:=run_findKey (P:=P) (w:=w) (kt:=kt) hk (findNow_enc he n l 0)
  have hc:=run_checkKey (P:=P) (w:=w) hk (he.isKey n) (l.map (ME.ent ek)).toArray.isEmpty 9999
  have hg:(getObj r).run P w = .ok (.map (l.map (ME.ent ek)).toArray c) w:=by simp [getObj,Sem.run,hm]
  simp only [execOp,bareOp,hx,hy,Instr.lookup,Sem.run_bind,run_underlying hu,Result.andThen_ok,hg,hc,Sem.run_pure,hf]
  cases hmi:midx l n with
  | none=>
   have:=midx_mfind l n; rw [hmi] at this; simp at this
   simp [hzv,mlook,← this]
  | some j=>
   have:=midx_mfind l n; rw [hmi] at this; simp at this
   cases hmf:mfind l n with
   | none=>
    rw [hmf] at this
    have hlt:=(List.findIdx?_eq_some_iff_getElem.1 hmi).1
    rw [List.getElem?_eq_getElem hlt] at this; simp at this
   | some e=>simp [mlook,hmf]
theorem op_lookup_ok {t kt et:TypeId} {x y:Operand} {m:Option Nat} {l:List (ME κ)} {c:Nat} {n : κ} {z:Value} (he:KeyEnc d ek) (ht:P.underlying t=some (.map kt et)∧P.underlying kt=some d) (hz:zeroOf P et=some z)
  (hx:ev f x = .map m) (hy:ev f y=ek n) (hm:mapAt ek h m l c)
  (H:K (.tuple #[(mlook l n).getD z,.bool (mlook l n).isSome]) h):opH P (.lookup t x y true) ty f K h:=by
 obtain⟨hu,hk⟩:=ht
 obtain⟨i,hi,hiz⟩:=Option.bind_eq_some_iff.1 hz
 refine opH_of_run (fun w hw=>?_) H
 subst hw
 have hzv:(zeroValue et).run P w = .ok z w:=by simp [zeroValue,typeInfo,hi,hiz]
 cases m with
 | none=>
  simp only [mapAt] at hm; subst hm
  have hf:=run_findKey (P:=P) (w:=w) (kt:=kt) (k:=ek n) (l:=[]) hk (a:=none) rfl
  have hc:=run_checkKey (P:=P) (w:=w) hk (he.isKey n) true 9999
  simp [execOp,bareOp,hx,hy,Instr.lookup,run_underlying hu,hf,hc,hzv,mlook,mfind]
 | some r=>
  simp only [mapAt,mobj] at hm
  have hf:=run_findKey (P:=P) (w:=w) (kt:=kt) hk (findNow_enc he n l 0)
  have hc:=run_checkKey (P:=P) (w:=w) hk (he.isKey n) (l.map (ME.ent ek)).toArray.isEmpty 9999
  have hg:(getObj r).run P w = .ok (.map (l.map (ME.ent ek)).toArray c) w:=by simp [getObj,Sem.run,hm]
  simp only [execOp,bareOp,hx,hy,Instr.lookup,Sem.run_bind,run_underlying hu,Result.andThen_ok,hg,hc,Sem.run_pure,hf]
  cases hmi:midx l n with
  | none=>
   have:=midx_mfind l n; rw [hmi] at this; simp at this
   simp [hzv,mlook,← this]
  | some j=>
   have:=midx_mfind l n; rw [hmi] at this; simp at this
   cases hmf:mfind l n with
   | none=>
    rw [hmf] at this
    have hlt:=(List.findIdx?_eq_some_iff_getElem.1 hmi).1
    rw [List.getElem?_eq_getElem hlt] at this; simp at this
   | some e=>simp [mlook,hmf]
theorem opH_of_set {op:Op} {v:Value} {r:Nat} {ob:Obj} {nx:Next} (hnx:nx = .value v∨(nx = .skip∧v=undef))
  (hr : ∀ w:World,w.heap=h→(execOp (ev f) (bareOp op ty)).run P w = .ok nx { w with heap:=w.heap.setIfInBounds r ob }) (H:K v (h.setIfInBounds r ob)):opH P op ty f K h:=by
 intro w hw
 rw [hr w hw]
 subst hw
 rcases hnx with rfl | ⟨rfl,rfl⟩
 ·exact⟨Same.refl w,H⟩
 ·exact⟨Same.refl w,H⟩
theorem run_mapUpdate_enc {t kt et:TypeId} {r:Nat} {l:List (ME κ)} {c:Nat} {n : κ} {v:Value} (he:KeyEnc d ek) (ht:P.underlying t=some (.map kt et)∧P.underlying kt=some d) (w:World)
  (hm:w.heap[r]? = some (mobj ek l c)) :
  (Instr.mapUpdate t (.map (some r)) (ek n) v).run P w = .ok () { w with heap:=w.heap.setIfInBounds r (mobj ek (mput l n v c) (mclk l n c)) }:=by
 obtain⟨hu,hk⟩:=ht
 have hf:=run_findKey (P:=P) (w:=w) (kt:=kt) hk (findNow_enc he n l 0)
 have hc:=run_checkKey (P:=P) (w:=w) hk (he.isKey n) false 9999
 have hm':=hm
 simp only [mobj] at hm
 have hg:(getObj r).run P w = .ok (.map (l.map (ME.ent ek)).toArray c) w:=by simp [getObj,Sem.run,hm]
 simp only [Instr.mapUpdate,Sem.run_bind,run_underlying hu,Result.andThen_ok,hg,hc,hf]
 have hset : ∀ ob,(setObj r ob).run P w = .ok () { w with heap:=w.heap.setIfInBounds r ob }:=by
  intro ob; simp [setObj,Sem.run,hm]
 cases hmi:midx l n with
 | none=>
  simp only [hset]
  simp [mput,mclk,hmi,mobj,ME.ent]
 | some j=>
  have hjl:=midx_mfind l n; rw [hmi] at hjl; simp only [Option.bind_some] at hjl
  cases hmf:mfind l n with
  | none=>
   rw [hmf] at hjl
   have hlt:=(List.findIdx?_eq_some_iff_getElem.1 hmi).1
   rw [List.getElem?_eq_getElem hlt] at hjl; simp at hjl
  | some e=>
   have hek:=mfind_key hmf
   rw [hmf] at hjl
   have hkk:(((((l.map (ME.ent ek)).toArray[j]?).map (·.key)).getD (ek n)))=ek n:=by
    simp [hjl,ME.ent,hek]
   simp only [mlook,hmf,Option.map_some,Nat.zero_add]
   rw [hkk]
   simp only [run_keyThatStays (he.isKey n),Sem.run_bind,Result.andThen_ok,hset]
   simp only [mput,mclk,hmi,mobj,Option.isSome_some,if_true]
   have harr:((l.map (ME.ent ek)).toArray.modify j fun e=>{ e with key:=ek n,val:=v })=((l.modify j fun e=>{ e with val:=v }).map (ME.ent ek)).toArray:=by
    apply Array.ext'
    simp only [Array.toList_modify]
    apply List.ext_getElem?
    intro q
    simp only [List.getElem?_modify,List.getElem?_map]
    by_cases hq:j=q
    ·subst hq; simp [hjl,ME.ent,hek]
    ·simp [hq]
   rw [harr]
theorem op_mapUpdate {t kt et:TypeId} {x y z:Operand} {r:Nat} {l:List (ME κ)} {c:Nat} {n : κ} {v:Value} (he:KeyEnc d ek) (ht:P.underlying t=some (.map kt et)∧P.underlying kt=some d)
  (hx:ev f x = .map (some r)) (hy:ev f y=ek n) (hv:ev f z=v) (hm:h[r]? = some (mobj ek l c))
  (H:K undef (h.setIfInBounds r (mobj ek (mput l n v c) (mclk l n c)))):opH P (.mapUpdate t x y z) ty f K h:=by
 refine opH_of_set (nx:=.skip) (.inr ⟨rfl,rfl⟩) (fun w hw=>?_) H
 subst hw
 simp [execOp,bareOp,hx,hy,hv,run_mapUpdate_enc he ht w hm]
theorem op_delete {t kt et:TypeId} {x y:Operand} {ts:Array TypeId} {r:Nat} {l:List (ME κ)} {c:Nat} {n : κ} (he:KeyEnc d ek) (hts:ts[0]? = some t) (ht:P.underlying t=some (.map kt et)∧P.underlying kt=some d)
  (hx:ev f x = .map (some r)) (hy:ev f y=ek n) (hm:h[r]? = some (mobj ek l c))
  (H:K (.tuple #[]) (h.setIfInBounds r (mobj ek (mdel l n) c))):opH P (.call ⟨.builtin .delete,#[x,y],ts⟩) ty f K h:=by
 obtain⟨hu,hk⟩:=ht
 refine opH_of_set (nx:=.value (.tuple #[])) (.inl rfl) (fun w hw=>?_) H
 subst hw
 have hf:=run_findKey (P:=P) (w:=w) (kt:=kt) hk (findNow_enc he n l 0)
 have hc:=run_checkKey (P:=P) (w:=w) hk (he.isKey n) (l.map (ME.ent ek)).toArray.isEmpty 9999
 simp only [mobj] at hm
 have hg:(getObj r).run P w = .ok (.map (l.map (ME.ent ek)).toArray c) w:=by simp [getObj,Sem.run,hm]
 have hset : ∀ ob,(setObj r ob).run P w = .ok () { w with heap:=w.heap.setIfInBounds r ob }:=by
  intro ob; simp [setObj,Sem.run,hm]
 simp only [execOp,bareOp,resolve,invoke,builtin,pure_bind,List.map_toArray,List.map_cons,List.map_nil,hx,hy,Builtin.delete_,hts,List.getElem?_toArray,List.getElem?_cons_zero,List.getElem?_cons_succ,Sem.run_bind,run_underlying hu,Result.andThen_ok,hg,hc,hf]
 cases hmi:midx l n with
 | none=>simp [hset,mdel,hmi,mobj]
 | some j=>
  have hjl:=midx_mfind l n; rw [hmi] at hjl; simp only [Option.bind_some] at hjl
  have hlt:=(List.findIdx?_eq_some_iff_getElem.1 hmi).1
  cases hmf:mfind l n with
  | none=>rw [hmf,List.getElem?_eq_getElem hlt] at hjl; simp at hjl
  | some e=>
   simp [hset,mlook,hmf,mdel,hmi,mobj,Array.eraseIdxIfInBounds,hlt,Go.ChangeMaps.map_eraseIdx]
end
section
variable {κ : Type} {P:Program} {f:Fr} {h:Heap} {K:Value→Heap→Prop} {ty:TypeId} {ek : κ→Value}
theorem op_len_map {t kt et:TypeId} {x:Operand} {m:Option Nat} {l:List (ME κ)} {c:Nat} (hu:P.underlying t=some (.map kt et)) (hx:ev f x = .map m) (hm:mapAt ek h m l c) (H:K (.int .i64 l.length) h) :
  opH P (.call ⟨.builtin .len,#[x],#[t]⟩) ty f K h:=by
 refine opH_of_run (fun w hw=>?_) H
 subst hw
 cases m with
 | none=>simp only [mapAt] at hm; subst hm; simp [execOp,bareOp,resolve,invoke,builtin,hx,Builtin.len_,run_underlying hu,goInt]
 | some r=>
  simp only [mapAt,mobj] at hm
  have hg:(getObj r).run P w = .ok (.map (l.map (ME.ent ek)).toArray c) w:=by simp [getObj,Sem.run,hm]
  simp [execOp,bareOp,resolve,invoke,builtin,hx,Builtin.len_,run_underlying hu,goInt,hg]
theorem op_range_map {t kt et:TypeId} {x:Operand} {r:Nat} {l:List (ME κ)} {c:Nat} (hu:P.underlying t=some (.map kt et)) (hx:ev f x = .map (some r)) (hm:h[r]? = some (mobj ek l c))
  (H:K (.pointer (some ⟨h.size,0,none⟩)) (h.push (.mapIter (some r) c #[] c))):opH P (.range t x) ty f K h:=by
 refine opH_of_new (fun w hw=>?_) H
 subst hw
 simp only [mobj] at hm
 have hg:(getObj r).run P w = .ok (.map (l.map (ME.ent ek)).toArray c) w:=by simp [getObj,Sem.run,hm]
 simp [execOp,bareOp,hx,Instr.range,run_underlying hu,hg]
theorem op_range_nilMap {t kt et:TypeId} {x:Operand} (hu:P.underlying t=some (.map kt et)) (hx:ev f x = .map none)
  (H:K (.pointer (some ⟨h.size,0,none⟩)) (h.push (.mapIter none 0 #[] 0))):opH P (.range t x) ty f K h:=by
 refine opH_of_new (fun w hw=>?_) H
 subst hw
 simp [execOp,bareOp,hx,Instr.range,run_underlying hu]
theorem op_next_nilMap {x:Operand} {it:Nat} (hx:ev f x = .pointer (some ⟨it,0,none⟩)) (hi:h[it]? = some (.mapIter none 0 #[] 0)) (H:K (.tuple #[.bool false]) h):opH P (.next x false) ty f K h:=by
 refine opH_of_run (fun w hw=>?_) H
 subst hw
 have hg:(getObj it).run P w = .ok (.mapIter none 0 #[] 0) w:=by simp [getObj,Sem.run,hi]
 simp [execOp,bareOp,hx,Instr.next,hg]
theorem op_next_map {x:Operand} {it r c:Nat} {seen:Array Nat} {l:List (ME κ)} (hx:ev f x = .pointer (some ⟨it,0,none⟩)) (hi:h[it]? = some (.mapIter (some r) c seen c)) (hm:h[r]? = some (mobj ek l c))
  (hb : ∀ e∈l,e.born<c) (H0:(∀ e∈l,e.born∈seen)→K (.tuple #[.bool false]) h)
  (H1 : ∀ e∈l,e.born ∉ seen→K (.tuple #[.bool true,ek e.key,e.val]) (h.setIfInBounds it (.mapIter (some r) c (seen.push e.born) c))):opH P (.next x false) ty f K h:=by
 intro w hw
 subst hw
 have hold : ∀ x∈(l.map (ME.ent ek)).toArray.toList,x.born<c:=by
  intro x hx; simp at hx; obtain⟨e,he,rfl⟩:=hx; exact hb e he
 rcases run_next_at (P:=P) w ty it r c c seen (l.map (ME.ent ek)).toArray c hi hm hold (Nat.le_refl _) with⟨h0,hr⟩ | ⟨e,he,w1,hw1,hr⟩
 ·simp only [execOp,bareOp,hx,Sem.run_bind,hr,Result.andThen_ok,Sem.run_pure,opUpon]
  refine⟨Same.refl w,H0 fun e he=>?_⟩
  have hz:=Array.eq_empty_of_size_eq_zero h0
  unfold leftOf at hz
  rw [Array.filter_eq_empty_iff] at hz
  have:=hz (ME.ent ek e) (by simp; exact⟨e,he,rfl⟩)
  simpa [ME.ent] using this
 ·simp only [execOp,bareOp,hx,Sem.run_bind,hr,Result.andThen_ok,Sem.run_pure,opUpon]
  unfold leftOf at he
  simp at he
  obtain⟨⟨e',he',rfl⟩,hns⟩:=he
  have hk:=H1 e' he' (by simpa [ME.ent] using hns)
  rcases hw1 with rfl | rfl
  ·exact⟨⟨rfl,rfl,rfl⟩,hk⟩
  ·exact⟨⟨rfl,rfl,rfl⟩,hk⟩
theorem op_entry_map {x:Operand} {it r c:Nat} {seen:Array Nat} {l:List (ME κ)} {e:ME κ} (hx:ev f x = .pointer (some ⟨it,0,none⟩)) (hi:h[it]? = some (.mapIter (some r) c (seen.push e.born) c)) (hm:h[r]? = some (mobj ek l c))
  (he:e∈l) (hn:(l.map (·.born)).Nodup) (H:K (.tuple #[ek e.key,e.val]) h):opH P (.entry x) ty f K h:=by
 refine opH_of_run (fun w hw=>?_) H
 subst hw
 simp only [mobj] at hm
 have hg:(getObj r).run P w = .ok (.map (l.map (ME.ent ek)).toArray c) w:=by simp [getObj,Sem.run,hm]
 have hgi:(getObj it).run P w = .ok (.mapIter (some r) c (seen.push e.born) c) w:=by simp [getObj,Sem.run,hi]
 have hfd:(l.map (ME.ent ek)).toArray.find? (fun x=>x.born == e.born)=some (ME.ent ek e):=by
  rw [List.find?_toArray,List.find?_map]
  have:l.find? ((fun x:MapEntry=>x.born == e.born) ∘ ME.ent ek)=some e:=by
   clear hg hm H
   induction l with
   | nil=>cases he
   | cons a l ih=>
    simp only [List.map_cons,List.nodup_cons] at hn
    by_cases hab:a.born=e.born
    ·rcases List.mem_cons.1 he with rfl | he'
     ·simp [ME.ent]
     ·exact absurd (List.mem_map.2 ⟨e,he',hab.symm⟩) hn.1
    ·have hne:e≠a:=fun q=>hab (by rw [q])
     have he':e∈l:=(List.mem_cons.1 he).resolve_left hne
     simp [ME.ent,hab]
     simpa [ME.ent] using ih he' hn.2
  rw [this]; rfl
 simp [execOp,bareOp,hx,Instr.entry,hgi,hg,hfd]
 simp [ME.ent]
end
section
variable {κ : Type} [DecidableEq κ] {P:Program} {f:Fr} {h:Heap} {K:Value→Heap→Prop} {ty:TypeId} {d:TypeDesc} {ek : κ→Value}
theorem op_mapEntry {t kt et:TypeId} {x y:Operand} {r:Nat} {l:List (ME κ)} {c:Nat} {n : κ} {z:Value} (he:KeyEnc d ek) (ht:P.underlying t=some (.map kt et)∧P.underlying kt=some d) (hz:zeroOf P et=some z)
  (hx:ev f x = .map (some r)) (hy:ev f y=ek n) (hm:h[r]? = some (mobj ek l c))
  (H0:mfind l n=none→K (.tuple #[z,.int .i64 c]) (h.setIfInBounds r (mobj ek (l ++ [⟨n,z,c⟩]) (c+1))))
  (H1 : ∀ e,mfind l n=some e→K (.tuple #[e.val,.int .i64 e.born]) h):opH P (.mapEntry t x y) ty f K h:=by
 obtain⟨hu,hk⟩:=ht
 obtain⟨i,hi,hiz⟩:=Option.bind_eq_some_iff.1 hz
 intro w hw
 subst hw
 have hzv : ∀ w,(zeroValue et).run P w = .ok z w:=fun w=>by simp [zeroValue,typeInfo,hi,hiz]
 have hf:=run_findKey (P:=P) (w:=w) (kt:=kt) hk (findNow_enc he n l 0)
 have hc:=run_checkKey (P:=P) (w:=w) hk (he.isKey n) false 9999
 have hm0:=hm
 simp only [mobj] at hm
 have hg:(getObj r).run P w = .ok (.map (l.map (ME.ent ek)).toArray c) w:=by simp [getObj,Sem.run,hm]
 have hset : ∀ ob,(setObj r ob).run P w = .ok () { w with heap:=w.heap.setIfInBounds r ob }:=by
  intro ob; simp [setObj,Sem.run,hm]
 simp only [execOp,bareOp,hx,hy,Instr.mapEntry,Sem.run_bind,run_underlying hu,Result.andThen_ok,hg,hc,hf]
 cases hmi:midx l n with
 | none=>
  have:=midx_mfind l n; rw [hmi] at this; simp at this
  simp only [hzv,Sem.run_bind,Result.andThen_ok,hset,Sem.run_pure,opUpon]
  refine⟨⟨rfl,rfl,rfl⟩,?_⟩
  have:=H0 this.symm
  simpa [mobj,ME.ent,goInt] using this
 | some j=>
  have hjl:=midx_mfind l n; rw [hmi] at hjl; simp only [Option.bind_some] at hjl
  have hlt:=(List.findIdx?_eq_some_iff_getElem.1 hmi).1
  cases hmf:mfind l n with
  | none=>rw [hmf,List.getElem?_eq_getElem hlt] at hjl; simp at hjl
  | some e=>
   have hek:=mfind_key hmf
   rw [hmf] at hjl
   have hkk:(((((l.map (ME.ent ek)).toArray[j]?).map (·.key)).getD (ek n)))=ek n:=by
    simp [hjl,ME.ent,hek]
   have hsame:((l.map (ME.ent ek)).toArray.modify j fun e=>{ e with key:=ek n })=(l.map (ME.ent ek)).toArray:=by
    apply Array.ext'
    simp only [Array.toList_modify]
    apply List.ext_getElem?
    intro q
    simp only [List.getElem?_modify,List.getElem?_map]
    by_cases hq:j=q
    ·subst hq; simp [hjl,ME.ent,hek]
    ·simp [hq]
   have hback:w.heap.setIfInBounds r (.map (l.map (ME.ent ek)).toArray c)=w.heap:=by
    apply Array.ext_getElem?
    intro q
    by_cases hq:r=q
    ·subst hq
     rw [hm,Array.getElem?_setIfInBounds_self_of_lt (Array.getElem?_eq_some_iff.1 hm).1]
    ·simp [Array.getElem?_setIfInBounds_ne hq]
   simp only [mlook,hmf,Option.map_some,Nat.zero_add]
   rw [hkk]
   simp only [run_keyThatStays (he.isKey n),Sem.run_bind,Result.andThen_ok,hsame,hset,Sem.run_pure,opUpon]
   rw [hback]
   have:=H1 e hmf
   refine⟨⟨rfl,rfl,rfl⟩,?_⟩
   simpa [hjl,ME.ent,goInt] using this
end
section
variable {κ : Type} {P:Program} {f:Fr} {h:Heap} {K:Value→Heap→Prop} {ty:TypeId} {ek : κ→Value}
theorem op_entryStore {t:TypeId} {x y z:Operand} {r:Nat} {l:List (ME κ)} {c j bn:Nat} {v:Value} {e:ME κ} (hx:ev f x = .map (some r)) (hy:ev f y = .int .i64 bn) (hv:ev f z=v) (hm:h[r]? = some (mobj ek l c))
  (hj:l[j]? = some e) (hbn:e.born=bn) (hn:(l.map (·.born)).Nodup) (H:K undef (h.setIfInBounds r (mobj ek (l.modify j fun e=>{ e with val:=v }) c))):opH P (.entryStore t x y z) ty f K h:=by
 refine opH_of_set (nx:=.skip) (.inr ⟨rfl,rfl⟩) (fun w hw=>?_) H
 subst hw
 simp only [mobj] at hm
 have hg:(getObj r).run P w = .ok (.map (l.map (ME.ent ek)).toArray c) w:=by simp [getObj,Sem.run,hm]
 have hset : ∀ ob,(setObj r ob).run P w = .ok () { w with heap:=w.heap.setIfInBounds r ob }:=by
  intro ob; simp [setObj,Sem.run,hm]
 have hfi:(l.map (ME.ent ek)).toArray.findIdx? (fun e=>(e.born:Int) == (bn:Int))=some j:=by
  rw [List.findIdx?_toArray,List.findIdx?_map]
  rw [List.findIdx?_eq_some_iff_getElem]
  have hlt:j<l.length:=(List.getElem?_eq_some_iff.1 hj).1
  have hge:l[j]=e:=(List.getElem?_eq_some_iff.1 hj).2
  refine⟨hlt,by simp [ME.ent,hge,hbn],fun q hq=>?_⟩
  simp only [Function.comp,ME.ent,beq_iff_eq,Int.natCast_inj]
  have hqlt:q<l.length:=by omega
  intro hqe
  have h1:(l.map (·.born))[q]'(by simpa using hqlt)=(l.map (·.born))[j]'(by simpa using hlt):=by
   simp [hge,hbn]; simpa using hqe
  exact List.pairwise_iff_getElem.1 hn q j (by simpa using hqlt) (by simpa using hlt) hq h1
 have harr:((l.map (ME.ent ek)).toArray.modify j fun e=>{ e with val:=v })=((l.modify j fun e=>{ e with val:=v }).map (ME.ent ek)).toArray:=by
  apply Array.ext'
  simp only [Array.toList_modify]
  apply List.ext_getElem?
  intro q
  simp only [List.getElem?_modify,List.getElem?_map]
  by_cases hq:j=q
  ·subst hq; simp [hj,ME.ent]
  ·simp [hq]
 simp [execOp,bareOp,hx,hy,hv,Instr.entryStore,hg,asInt,asIntOf,hfi,hset,mobj,harr]
end
end Go.VC
namespace Go.VC
def rowInfo (P:Program) (t:TypeId):Option (TypeId × Nat × Nat × Value):=
 match P.underlying t with
 | some (.slice e)=>match P.info? e with
  | some i=>i.zero.map fun z=>(e,i.size,i.bytes,z)
  | none=>none
 | _=>none
theorem rowInfo_spec {P:Program} {t e:TypeId} {sz by_:Nat} {z:Value} (hr:rowInfo P t=some (e,sz,by_,z)):P.underlying t=some (.slice e)∧∃ i,P.info? e=some i∧i.size=sz∧i.bytes=by_∧i.zero=some z:=by
 unfold rowInfo at hr
 split at hr <;> try simp at hr
 rename_i e' hu
 split at hr <;> try simp at hr
 rename_i i hi
 obtain⟨z',hz,rfl,rfl,rfl,rfl⟩:=hr
 exact⟨hu,i,hi,rfl,rfl,hz⟩
def firstH (h:Heap) (sz m:Nat):Value→Option (List Value)
 | .slice (some ⟨b,o,none⟩) _ _=>ldCells h b o (m * sz)
 | .slice (some ⟨_,_,some _⟩) _ _=>if m=0 then some [] else none
 | .slice none _ _=>some []
 | .string s=>some ((s.extract 0 m).data.toList.map fun b=>.int .u8 b.toNat)
 | _=>none
def lenH:Value→Option Nat
 | .slice _ n _=>some n
 | .string s=>some s.size
 | _=>none
section
variable {P:Program} {f:Fr} {h:Heap} {K:Value→Heap→Prop} {ty:TypeId}
theorem run_firstH (w:World) {sz m:Nat} {v:Value} {l:List Value} (hf:firstH w.heap sz m v=some l):(Builtin.firstCells sz m v).run P w = .ok l.toArray w:=by
 unfold firstH at hf
 split at hf
 ·rename_i b o _ _
  have:=run_loadCells (P:=P) w b (m * sz) o 0 #[] l (by simpa using hf)
  simpa [Builtin.firstCells,loadCells] using this
 ·split at hf
  ·rename_i h0
   subst h0
   cases hf
   simp [Builtin.firstCells,loadCells,loadCellsFrom]
  ·cases hf
 ·simp at hf; subst hf; rfl
 ·simp at hf; subst hf; simp [Builtin.firstCells]; apply Array.ext'; simp
 ·simp at hf
theorem run_lenH (w:World) {v:Value} {n:Nat} (hl:lenH v=some n):(Builtin.lenOf v).run P w = .ok n w:=by
 cases v <;> simp_all [lenH,Builtin.lenOf]
theorem growBy_le (k:Nat) : ∀ (r c:Nat),c≤2 * k+192→Builtin.growBy k r c≤2 * k+192:=by
 intro r
 induction r with
 | zero=>intro c hc; simpa [Builtin.growBy] using hc
 | succ r ih=>
  intro c hc
  simp only [Builtin.growBy]
  split
  ·exact hc
  ·exact ih _ (by omega)
theorem nextslicecap_le {k c:Nat} (hc:c<k):Builtin.nextslicecap k c≤2 * k+192:=by
 unfold Builtin.nextslicecap
 split
 ·omega
 ·split
  ·omega
  ·exact growBy_le k 4 c (by omega)
theorem op_append {t t' e:TypeId} {x y:Operand} {sz by_ n c m:Nat} {z src:Value} {base:Option Addr} {news:List Value} (hr:rowInfo P t=some (e,sz,by_,z))
  (ht':(∃ e',P.underlying t'=some (.slice e'))∨P.underlying t'=some .string)
  (hx:ev f x = .slice base n c) (hy:ev f y=src) (hm:lenH src=some m) (hn:firstH h sz m src=some news) (hfit:(n+m) * by_≤1099511627776) (hlen:n+m≤1099511627776) (hby:by_≤1048576)
  (H0:n+m≤c→(∃ b o h',base=some ⟨b,o,none⟩∧stCells b h (o+n * sz) news=some h'∧K (.slice base (n+m) c) h')∨(base=none∧K (.slice none (n+m) c) h))
  (H1:c<n+m→∃ olds,firstH h sz n (.slice base n c)=some olds∧∀ cap,n+m≤cap→K (.slice (some ⟨h.size,0,none⟩) (n+m) cap) (h.push (.cells ((olds ++ news).toArray ++ Builtin.zeroCells z.cells (cap - (n+m))) e (0,0)))) :
  opH P (.call ⟨.builtin .append,#[x,y],#[t,t']⟩) ty f K h:=by
 obtain⟨hu,i,hi,rfl,rfl,hz⟩:=rowInfo_spec hr
 intro w hw
 subst hw
 have hs1:=run_sizeOf (P:=P) (t:=e) (n:=i.size) (by simp [sizeT,hi]) w
 have hl:=fun w=>run_lenH (P:=P) w hm
 have hf:=run_firstH (P:=P) w hn
 have hti : ∀ w,(typeInfo e).run P w = .ok i w:=fun w=>by simp [typeInfo,hi]
 simp only [execOp,bareOp,resolve,invoke,builtin,pure_bind,List.map_toArray,List.map_cons,List.map_nil,hx,hy,Builtin.append_,List.getElem?_toArray,List.getElem?_cons_zero,List.getElem?_cons_succ]
 by_cases hroom:n+m≤c
 ·rcases ht' with⟨e',hd'⟩ | hd' <;> rcases H0 hroom with⟨b,o,h',rfl,hst,hK⟩ | ⟨rfl,hK⟩
  case inl.inl | inr.inl=>
   obtain⟨w',hrun,hsame,hh⟩:=run_storeCells (P:=P) b news (o+n * i.size) 0 w h' (by simpa using hst)
   subst hh
   have hadd:Addr.add ⟨b,o,none⟩ (n * i.size)=⟨b,o+n * i.size,none⟩:=Addr.add_lit _ _ _
   simp only [Sem.run_bind,run_underlying hu,run_underlying hd',Result.andThen_ok,hs1,Bool.false_eq_true,if_false,hl,Bool.not_false,if_true,hroom,hf,hadd,hrun,Sem.run_pure,opUpon]
   exact⟨hsame,hK⟩
  case inl.inr | inr.inr=>
   simp only [Sem.run_bind,run_underlying hu,run_underlying hd',Result.andThen_ok,hs1,Bool.false_eq_true,if_false,hl,Bool.not_false,if_true,hroom,hf,Sem.run_pure,opUpon]
   exact⟨Same.refl w,hK⟩
 ·obtain⟨olds,ho,hK⟩:=H1 (by omega)
  have h1 : ¬ (((n+m:Nat):Int) > IntKind.i64.max):=by simp [IntKind.max,IntKind.signed,IntKind.bits]; omega
  have hnc:=nextslicecap_le (k:=n+m) (c:=c) (by omega)
  have h2 : ¬ (Builtin.nextslicecap (n+m) c * i.bytes > 2 ^ 48):=by
   have:Builtin.nextslicecap (n+m) c * i.bytes≤(2 * (n+m)+192) * i.bytes:=Nat.mul_le_mul_right _ hnc
   have e1:(2 * (n+m)+192) * i.bytes=2 * ((n+m) * i.bytes)+192 * i.bytes:=by rw [Nat.add_mul,Nat.mul_assoc]
   omega
  have hq:(Question.appendCap (n+m) c e).forced=false:=rfl
  let cap:=(Question.appendCap (n+m) c e).cut (w.tape w.drawn (Question.appendCap (n+m) c e))
  have hcap:n+m≤cap:=by show _≤(n+m)+_; omega
  let w1:World:={ w with drawn:=w.drawn+1 }
  have hch:(choose (.appendCap (n+m) c e)).run P w = .ok cap w1:=by simp [choose,Sem.run,hq,cap,w1]
  have hf1:=run_firstH (P:=P) w1 (v:=src) (l:=news) (m:=m) (sz:=i.size) hn
  have ho1:=run_firstH (P:=P) w1 (v:=.slice base n c) (l:=olds) (m:=n) (sz:=i.size) ho
  have hzv:(zeroValue e).run P w1 = .ok z w1:=by simp [zeroValue,typeInfo,hi,hz]
  have e2:olds.toArray ++ news.toArray ++ Builtin.zeroCells z.cells (cap - (n+m))=(olds ++ news).toArray ++ Builtin.zeroCells z.cells (cap - (n+m)):=by simp
  rcases ht' with⟨e',hd'⟩ | hd'
  all_goals
   simp only [Sem.run_bind,run_underlying hu,run_underlying hd',Result.andThen_ok,hs1,Bool.false_eq_true,if_false,hl,Bool.not_false,if_true,hroom,false_or,hti,h1,false_and,h2,hch,run_askRoom,hf1,ho1,hzv,newRow,run_newObj,Sem.run_pure,opUpon]
   refine⟨⟨rfl,rfl,rfl⟩,?_⟩
   rw [e2]
   exact hK cap hcap
theorem op_makeSlice {t e:TypeId} {x y:Operand} {sz by_ l c:Nat} {z:Value} {k k':IntKind} (hr:rowInfo P t=some (e,sz,by_,z)) (hx:ev f x = .int k l) (hy:ev f y = .int k' c) (hlc:l≤c) (hb:by_ * c≤281474976710656) (h63:c≤9223372036854775807)
  {h1:Heap} (hh:h1=h.push (.cells (madeCells z.cells (c * sz)) e (0,0))) (H:K (.slice (some ⟨h.size,0,none⟩) l c) h1):opH P (.makeSlice t x y) ty f K h:=by
 subst hh
 obtain⟨hu,i,hi,rfl,rfl,hz⟩:=rowInfo_spec hr
 refine opH_of_new (fun w hw=>?_) H
 subst hw
 have hr:=run_make (P:=P) w t e i z hu hi hz k k' l c (by omega) (by omega) (by rw [← Int.natCast_mul]; omega) (by omega)
 simp only [Int.toNat_natCast] at hr
 simp [execOp,bareOp,hx,hy,hr]
def optN (f:Fr) (d:Nat):Option Operand→Nat→Prop
 | none,l=>l=d
 | some x,l=>∃ k,ev f x = .int k (l:Int)
theorem run_sliceBound (w:World) {k:IntKind} {l y:Nat} {code:BoundsCode} (hle:l≤y):(Instr.sliceBound (.int k l) y code).run P w = .ok l w:=by
 simp [Instr.sliceBound,asIntOf,hle]
theorem run_sliceBounds (w:World) {s:Bool} {len cap l hh m:Nat} {lo hi mx:Option Operand} (hl:optN f 0 lo l) (hh':optN f len hi hh) (hm:optN f cap mx m) (hmx:mx=none∨hi.isSome) (h1:l≤hh) (h2:hh≤m) (h3:m≤cap) (hlen:mx=none→hi=none→True) :
  (Instr.sliceBounds s len cap (lo.map (ev f)) (hi.map (ev f)) (mx.map (ev f))).run P w = .ok (l,hh,m) w:=by
 unfold Instr.sliceBounds
 cases mx with
 | none=>
  simp only [optN] at hm; subst hm
  cases hi with
  | none=>
   simp only [optN] at hh'; subst hh'
   cases lo with
   | none=>simp only [optN] at hl; subst hl; simp
   | some x=>obtain⟨k,hx⟩:=hl; simp [hx,run_sliceBound w h1]
  | some y=>
   obtain⟨k',hy⟩:=hh'
   cases lo with
   | none=>simp only [optN] at hl; subst hl; simp [hy,run_sliceBound w h2]
   | some x=>obtain⟨k,hx⟩:=hl; simp [hx,hy,run_sliceBound w h1,run_sliceBound w h2]
 | some q=>
  obtain⟨k'',hq⟩:=hm
  cases hi with
  | none=>rcases hmx with h | h <;> simp at h
  | some y=>
   obtain⟨k',hy⟩:=hh'
   cases lo with
   | none=>simp only [optN] at hl; subst hl; simp [hq,hy,run_sliceBound w h2,run_sliceBound w h3]
   | some x=>obtain⟨k,hx⟩:=hl; simp [hq,hx,hy,run_sliceBound w h1,run_sliceBound w h2,run_sliceBound w h3]
def cutA (a:Option Addr) (l m sz:Nat):Option Addr:=if m=l then a else a.map (·.add (l * sz))
theorem op_slice_sl {t e:TypeId} {x:Operand} {sz n c l hh m:Nat} {a:Option Addr} {lo hi mx:Option Operand} (he:elemInfo P t=some (none,e,sz)) (hx:ev f x = .slice a n c)
  (hl:optN f 0 lo l) (hh':optN f n hi hh) (hm:optN f c mx m) (hmx:mx=none∨hi.isSome=true) (h1:l≤hh) (h2:hh≤m) (h3:m≤c)
  (H:K (.slice (cutA a l m sz) (hh - l) (m - l)) h):opH P (.slice t x lo hi mx) ty f K h:=by
 obtain⟨hu,hs⟩:=elem_slice he
 refine opH_of_run (fun w _=>?_) H
 have hb:=run_sliceBounds (P:=P) w (s:=true) hl hh' hm hmx h1 h2 h3 (fun _ _=>trivial)
 simp [execOp,bareOp,Instr.sliceAt,run_underlying hu,Instr.slice,hx,hb,run_sizeOf hs,cutA]
def madeZeros (z:Value) (n:Nat):Array Value:=(Array.range n).map fun i=>(if n=0 then #[] else z.cells)[i % (if n=0 then #[] else z.cells).size]!
theorem op_buildSlice {t e:TypeId} {len sz by_:Nat} {parts:List (Nat × Operand)} {vs:List (Nat × Value)} {z:Value} {cs:Array Value} {h1:Heap} (hr:rowInfo P t=some (e,sz,by_,z)) (hsz:len * sz≤16777216)
  (hps:parts.map (fun p=>(p.1,ev f p.2))=vs) (hf:Instr.fill (fun i=>some (i * sz,sz)) (madeZeros z (len * sz)) vs=some cs)
  (hh:h1=h.push (.cells cs e (0,0))) (H:K (.slice (some ⟨h.size,0,none⟩) len len) h1):opH P (.buildSlice t len parts.toArray) ty f K h:=by
 subst hh
 obtain⟨hu,i,hi,rfl,rfl,hz⟩:=rowInfo_spec hr
 refine opH_of_new (fun w hw=>?_) H
 subst hw
 have hs1:=run_sizeOf (P:=P) (t:=e) (n:=i.size) (by simp [sizeT,hi]) w
 have hzv:(zeroValue e).run P w = .ok z w:=by simp [zeroValue,typeInfo,hi,hz]
 have hnot : ¬ (len * i.size > 2 ^ 24):=by omega
 have hps':(parts.toArray.map fun (p:Nat × Operand)=>(p.1,ev f p.2)).toList=vs:=by simp [hps]
 simp only [execOp,bareOp,Instr.buildSlice,Sem.run_bind,run_underlying hu,Result.andThen_ok,hs1,hnot,if_false,hps']
 unfold madeZeros at hf
 by_cases h0:len * i.size=0
 ·simp only [h0,if_true] at hf ⊢
  simp only [Sem.run_pure,Result.andThen_ok,hf,newRow,Sem.run_bind,run_newObj]
 ·simp only [h0,if_false] at hf ⊢
  simp only [Sem.run_bind,hzv,Sem.run_pure,Result.andThen_ok,hf,newRow,run_newObj]
theorem op_copy {t t' e:TypeId} {x y:Operand} {sz n c m b o:Nat} {src:Value} {cs:List Value} {h':Heap} (he:elemInfo P t=some (none,e,sz)) (hx:ev f x = .slice (some ⟨b,o,none⟩) n c) (hy:ev f y=src)
  (hm:lenH src=some m) (hc:firstH h sz (min m n) src=some cs) (hs:stCells b h o cs=some h') (H:K (.int .i64 (min m n:Nat)) h'):opH P (.call ⟨.builtin .copy,#[x,y],#[t,t']⟩) ty f K h:=by
 obtain⟨hu,hsz⟩:=elem_slice he
 intro w hw
 subst hw
 obtain⟨w',hrun,hsame,hh⟩:=run_storeCells (P:=P) b cs o 0 w h' (by simpa using hs)
 subst hh
 have hl:=run_lenH (P:=P) w hm
 have hf:=run_firstH (P:=P) w hc
 have e1:Nat.min m n=min m n:=rfl
 simp only [execOp,bareOp,resolve,invoke,builtin,pure_bind,List.map_toArray,List.map_cons,List.map_nil,hx,hy,Builtin.copy_,List.getElem?_toArray,List.getElem?_cons_zero,List.getElem?_cons_succ,Sem.run_bind,run_underlying hu,Result.andThen_ok,hl,run_sizeOf hsz,e1,hf,hrun,Sem.run_pure,opUpon]
 exact⟨hsame,H⟩
theorem op_copy_nil {t t' e:TypeId} {x y:Operand} {sz n c m:Nat} {src:Value} {cs:List Value} (he:elemInfo P t=some (none,e,sz)) (hx:ev f x = .slice none n c) (hy:ev f y=src)
  (hm:lenH src=some m) (hc:firstH h sz (min m n) src=some cs) (H:K (.int .i64 (min m n:Nat)) h):opH P (.call ⟨.builtin .copy,#[x,y],#[t,t']⟩) ty f K h:=by
 obtain⟨hu,hsz⟩:=elem_slice he
 intro w hw
 subst hw
 have hl:=run_lenH (P:=P) w hm
 have hf:=run_firstH (P:=P) w hc
 have e1:Nat.min m n=min m n:=rfl
 simp only [execOp,bareOp,resolve,invoke,builtin,pure_bind,List.map_toArray,List.map_cons,List.map_nil,hx,hy,Builtin.copy_,List.getElem?_toArray,List.getElem?_cons_zero,List.getElem?_cons_succ,Sem.run_bind,run_underlying hu,Result.andThen_ok,hl,run_sizeOf hsz,e1,hf,Sem.run_pure,opUpon]
 exact⟨Same.refl w,H⟩
end
end Go.VC
namespace Go.VC
def predsOf (o:Oper):List Nat:=(o.after.toList.filter (Region.binds .any)).map (·.on)
def looks (ops:List Oper) (o:Oper):List Nat:=
 o.op.operands.toList.filterMap (fun | .tmp t=>some t | _=>none) ++ (match o.guard with
  | some (j,_)=>match (ops[j]?).bind (·.dst) with
   | some t=>[t]
   | none=>[]
  | none=>[])
def dstAt (ops:List Oper) (t:Nat):Option Nat:=ops.findIdx? fun o=>o.dst == some t
structure Cert where
 pre:List (List Nat)
 loud:List Bool
def Cert.p (c:Cert) (i:Nat):List Nat:=c.pre.getD i []
def Cert.l (c:Cert) (i:Nat):Bool:=c.loud.getD i false
def certOk (ops:List Oper) (c:Cert):Bool:=
 ops.zipIdx.all fun (o,i)=>
  (predsOf o).all (fun e=>Nat.blt e i) &&
  ((c.p i).all fun x=>(predsOf o).contains x || (predsOf o).any fun e=>(c.p e).contains x) &&
  ((looks ops o).all fun t=>match dstAt ops t with
   | some j=>(c.p i).contains j
   | none=>true) &&
  (match o.dst with
   | some t=>dstAt ops t == some i
   | none=>true) &&
  (match o.op with | .select ..=>false | _=>true)
def fvs:List Oper→List Value→Fr→Fr
 | o :: os,v :: vs,f=>fvs os vs (fputO f o.dst v)
 | _,_,f=>f
def openQ (c:Cert) (n:Nat) (S:List Nat):List Nat:=
 (List.range n).filter fun i=>!c.l i && ((c.p i).all fun x=>!c.l x || S.contains x) && S.all fun l=>!(c.p l).contains i
def readyL (c:Cert) (n:Nat) (S:List Nat):List Nat:=
 (List.range n).filter fun i=>c.l i && !S.contains i && (c.p i).all fun x=>!c.l x || S.contains x
def detQ (c:Cert) (S:List Nat) (j:Nat):Bool:=((c.p j).all fun x=>!c.l x || S.contains x) && (!c.l j || S.contains j)
section
variable (P:Program) (ops:List Oper) (c:Cert) (f:Fr) (K:Fr→Heap→Prop)
def stepAt (i:Nat) (F:Fr) (h:Heap) (next:Value→Heap→Prop):Prop:=
 match ops[i]? with
 | none=>False
 | some o=>∃ b,guardOk ops F o.guard=some b∧(b=true→opH P o.op o.type F next h)∧(b=false→next undef h)
def quietOb (S:List Nat) (vals:List Value) (h:Heap):Prop:=
 ∀ i∈openQ c ops.length S,stepAt P ops i (fvs ops vals f) h fun v h'=>v=vals.getD i undef∧h'=h
def Plan:Nat→List Nat→List Value→Heap→Prop
 | 0,S,vals,h=>vals.length=ops.length∧quietOb P ops c f S vals h∧readyL c ops.length S = []∧K (fvs ops vals f) h
 | m+1,S,vals,h=>vals.length=ops.length∧quietOb P ops c f S vals h∧(readyL c ops.length S = []→K (fvs ops vals f) h) ∧
  ∀ l∈readyL c ops.length S,stepAt P ops l (fvs ops vals f) h fun v h'=>∃ vals',vals'.getD l undef=v ∧
   (∀ j<ops.length,detQ c S j=true→vals'.getD j undef=vals.getD j undef)∧Plan m (l :: S) vals' h'
end
section
variable {P:Program} {n:Nat} {ops:List Oper} {c:Cert} {f:Fr} {K:Fr→Heap→Prop} {Q:Post} {h:Heap}
theorem certOk_at (hc:certOk ops c=true) {i:Nat} {o:Oper} (ho:ops[i]? = some o) :
  (∀ e∈predsOf o,e<i)∧(∀ x∈c.p i,x∈predsOf o∨∃ e∈predsOf o,x∈c.p e) ∧
  (∀ t∈looks ops o,∀ j,dstAt ops t=some j→j∈c.p i)∧(∀ t,o.dst=some t→dstAt ops t=some i)∧(∀ cs b,o.op≠.select cs b):=by
 unfold certOk at hc
 have hmem:(o,i)∈ops.zipIdx:=by
  rw [List.mk_mem_zipIdx_iff_getElem?]; exact ho
 have:=List.all_eq_true.1 hc (o,i) hmem
 simp only [Bool.and_eq_true] at this
 obtain⟨⟨⟨⟨h1,h2⟩,h3⟩,h4⟩,h5⟩:=this
 refine⟨?_,?_,?_,?_,?_⟩
 ·intro e he; have:=List.all_eq_true.1 h1 e he; simpa using this
 ·intro x hx
  have:=List.all_eq_true.1 h2 x hx
  simpa using this
 ·intro t ht j hj
  have:=List.all_eq_true.1 h3 t ht
  rw [hj] at this
  simpa using this
 ·intro t ht
  rw [ht] at h4
  simpa using h4
 ·intro cs b hsel
  rw [hsel] at h5
  simp at h5
theorem fvs_get : ∀ (os:List Oper) (vs:List Value) (f:Fr) (t:Nat),vs.length=os.length→(∀ i o t,os[i]? = some o→o.dst=some t→dstAt os t=some i) →
  fvs os vs f t=match dstAt os t with | some j=>vs.getD j undef | none=>f t:=by
 intro os
 induction os with
 | nil=>intro vs f t _ _; cases vs <;> rfl
 | cons o os ih=>
  intro vs f t hl hd
  cases vs with
  | nil=>simp at hl
  | cons v vs=>
   have hl':vs.length=os.length:=by simpa using hl
   have hd' : ∀ i o' t,os[i]? = some o'→o'.dst=some t→dstAt os t=some i:=by
    intro i o' t ho' ht
    have:=hd (i+1) o' t (by simpa using ho') ht
    unfold dstAt at this ⊢
    rw [List.findIdx?_cons] at this
    split at this
    ·simp at this
    ·simpa using this
   simp only [fvs]
   rw [ih vs _ t hl' hd']
   have hh:=hd 0 o
   unfold dstAt at hh ⊢
   rw [List.findIdx?_cons]
   by_cases hot:o.dst=some t
   ·simp only [hot,beq_self_eq_true,if_true]
    have h0:os.findIdx? (fun o=>o.dst == some t)=none:=by
     cases hq:os.findIdx? (fun o=>o.dst == some t) with
     | none=>rfl
     | some j=>
      exfalso
      obtain⟨hj,hjt,-⟩:=List.findIdx?_eq_some_iff_getElem.1 hq
      have hjt':os[j].dst=some t:=by simpa using hjt
      have:=hd (j+1) os[j] t (by simp [hj]) hjt'
      unfold dstAt at this
      rw [List.findIdx?_cons] at this
      simp [hot] at this
    rw [h0]
    simp [fputO,fput]
   ·have hbf:(o.dst == some t)=false:=by simpa using hot
    simp only [hbf,Bool.false_eq_true,if_false]
    cases hq:os.findIdx? (fun o=>o.dst == some t) with
    | none=>
     simp only [Option.map_none]
     cases hod:o.dst with
     | none=>rfl
     | some d=>
      have hne : ¬ t=d:=fun e=>hot (by rw [hod,e])
      simp [fputO,fput,beq_false_of hne]
    | some j=>simp
structure Inv (P:Program) (n:Nat) (ops:List Oper) (c:Cert) (f:Fr) (K:Fr→Heap→Prop) (listed:Array Bool) (S:List Nat) (m:Nat) (vals:List Value) (f':Fr) (h:Heap):Prop where
 size:listed.size=ops.length
 closed : ∀ i o,ops[i]? = some o→listed.getD i false=true→∀ e∈predsOf o,listed.getD e false=true
 loud : ∀ l,l<ops.length→c.l l=true→(l∈S↔listed.getD l false=true)
 small : ∀ l∈S,l<ops.length∧c.l l=true
 frame : ∀ t,f' t=match dstAt ops t with | some j=>if listed.getD j false=true then vals.getD j undef else f t | none=>f t
 plan:Plan P ops c f K m S vals h
theorem Gfg (hc:certOk ops c=true) {listed:Array Bool} (hsz:listed.size=ops.length) (hcl : ∀ i o,ops[i]? = some o→listed.getD i false=true→∀ e∈predsOf o,listed.getD e false=true) :
  ∀ i,listed.getD i false=true→∀ x∈c.p i,listed.getD x false=true:=by
 intro i
 induction i using Nat.strongRecOn with
 | _ i ih=>
  intro hi x hx
  have hlt:i<ops.length:=by
   rcases Nat.lt_or_ge i ops.length with h | h
   ·exact h
   ·rw [Array.getD_eq_getD_getElem?,Array.getElem?_eq_none (by omega)] at hi; simp at hi
  have ho:ops[i]? = some ops[i]:=List.getElem?_eq_getElem hlt
  obtain⟨h1,h2,-⟩:=certOk_at hc ho
  rcases h2 x hx with h | ⟨e,he,hxe⟩
  ·exact hcl i _ ho hi x h
  ·exact ih e (h1 e he) (hcl i _ ho hi e he) x hxe
theorem opH_congr {op:Op} {ty:TypeId} {F F':Fr} {N:Value→Heap→Prop} (hs : ∀ cs b,op≠.select cs b) (he : ∀ x∈op.operands,ev F x=ev F' x) (H:opH P op ty F' N h):opH P op ty F N h:=by
 intro w hw
 rw [execOp_congr (bareOp op ty) hs he]
 exact H w hw
theorem guardOk_congr {F F':Fr} {g:Option (Nat × Bool)} (he : ∀ j b,g=some (j,b)→∀ t,(ops[j]?).bind (·.dst)=some t→F t=F' t):guardOk ops F g=guardOk ops F' g:=by
 cases g with
 | none=>rfl
 | some jb=>
  obtain⟨j,b⟩:=jb
  simp only [guardOk]
  cases ht:(ops[j]?).bind (·.dst) with
  | none=>rfl
  | some t=>simp only [he j b rfl t ht]
theorem game (hc:certOk ops c=true) (hd : ∀ x∈ops,dstOk n x.dst=true) {Q':Exit→Act→World→Prop} {w0:World} (hQ : ∀ a w f',Same w0 w→Rel n a f'→K f' w.heap→Q' .normal a w) :
  ∀ (fuel:Nat) (listed:Array Bool) (S:List Nat) (m:Nat) (vals:List Value) (f':Fr) (a:Act) (w:World),Same w0 w→Rel n a f'→Inv P n ops c f K listed S m vals f' w.heap →
   fuel ≥ ((List.range ops.length).filter fun i=>!listed.getD i false).length→wpAny P .any ops.toArray Q' fuel listed a w:=by
 have hdist : ∀ i o t,ops[i]? = some o→o.dst=some t→dstAt ops t=some i:=fun i o t ho ht=>(certOk_at hc ho).2.2.2.1 t ht
 have hend : ∀ (listed:Array Bool) (S:List Nat) (m:Nat) (vals:List Value) (f':Fr) (a:Act) (w:World),Same w0 w→Rel n a f'→Inv P n ops c f K listed S m vals f' w.heap →
   Region.ready .any ops.toArray listed = []→Q' .normal a w:=by
  intro listed S m vals f' a w hs r I hr
  have hall : ∀ i,i<ops.length→listed.getD i false=true:=by
   intro i
   induction i using Nat.strongRecOn with
   | _ i ih=>
    intro hi
    cases hl:listed.getD i false with
    | true=>rfl
    | false=>
     exfalso
     have ho:ops[i]? = some ops[i]:=List.getElem?_eq_getElem hi
     have hmem:i∈Region.ready .any ops.toArray listed:=by
      rw [mem_ready]
      have hlt:i<listed.size:=by rw [I.size]; exact hi
      refine⟨?_,ops[i],by simp,fun e he hb=>?_⟩
      ·rw [Array.getD_eq_getD_getElem?,Array.getElem?_eq_getElem hlt] at hl ⊢; simpa using hl
      ·have hp:e.on∈predsOf ops[i]:=List.mem_map.2 ⟨e,List.mem_filter.2 ⟨by simpa using he,hb⟩,rfl⟩
       have hei:=(certOk_at hc ho).1 _ hp
       exact ih _ hei (by omega)
     rw [hr] at hmem; cases hmem
  have hrl:readyL c ops.length S = []:=by
   unfold readyL
   rw [List.filter_eq_nil_iff]
   intro i hi
   rw [List.mem_range] at hi
   simp only [Bool.and_eq_true,Bool.not_eq_true',not_and]
   intro ⟨h1,h2⟩
   have:=(I.loud i hi h1).2 (hall i hi)
   simp [this] at h2
  have hlen:vals.length=ops.length:=by have:=I.plan; cases m <;> exact this.1
  have hf:f'=fvs ops vals f:=by
   funext t
   rw [I.frame t,fvs_get ops vals f t hlen hdist]
   cases hj:dstAt ops t with
   | none=>rfl
   | some j=>
    have hjlt:j<ops.length:=by
     unfold dstAt at hj; exact (List.findIdx?_eq_some_iff_getElem.1 hj).1
    simp [hall j hjlt]
  have hK:K f' w.heap:=by
   rw [hf]
   have hp:=I.plan
   cases m with
   | zero=>exact hp.2.2.2
   | succ m=>exact hp.2.2.1 hrl
  exact hQ a w f' hs r hK
 intro fuel
 induction fuel with
 | zero=>
  intro listed S m vals f' a w hs r I hfu
  have hz:(List.range ops.length).filter (fun i=>!listed.getD i false) = []:=List.length_eq_zero_iff.1 (by omega)
  have hr:Region.ready .any ops.toArray listed = []:=by
   apply List.eq_nil_iff_forall_not_mem.2
   intro i hi
   obtain⟨h1,o,ho,-⟩:=mem_ready.1 hi
   have hlt:i<ops.length:=by
    have:=(Array.getElem?_eq_some_iff.1 ho).1; simpa using this
   have:=List.filter_eq_nil_iff.1 hz i (List.mem_range.2 hlt)
   have hls:i<listed.size:=by rw [I.size]; exact hlt
   rw [Array.getD_eq_getD_getElem?,Array.getElem?_eq_getElem hls] at h1 this
   simp at h1 this
   rw [h1] at this; cases this
  exact⟨hr,hend listed S m vals f' a w hs r I hr⟩
 | succ fuel ih=>
  intro listed S m vals f' a w hs r I hfu
  refine⟨fun hr=>hend listed S m vals f' a w hs r I hr,fun i hi=>?_⟩
  obtain⟨h1,o,ho,hpre⟩:=mem_ready.1 hi
  have ho':ops[i]? = some o:=by simpa using ho
  have hlt:i<ops.length:=(List.getElem?_eq_some_iff.1 ho').1
  have hmemo:o∈ops:=List.mem_of_getElem? ho'
  have hls:i<listed.size:=by rw [I.size]; exact hlt
  have hif:listed.getD i false=false:=by
   rw [Array.getD_eq_getD_getElem?,Array.getElem?_eq_getElem hls] at h1 ⊢; simpa using h1
  have hpd : ∀ e∈predsOf o,listed.getD e false=true:=by
   intro e he
   obtain⟨ed,hed,rfl⟩:=List.mem_map.1 he
   obtain⟨h2,h3⟩:=List.mem_filter.1 hed
   exact hpre ed (by simpa using h2) h3
  obtain⟨c1,c2,c3,c4,c5⟩:=certOk_at hc ho'
  have hcl:=Gfg hc I.size I.closed
  have hcp : ∀ x∈c.p i,listed.getD x false=true:=by
   intro x hx
   rcases c2 x hx with h | ⟨e,he,hxe⟩
   ·exact hpd x h
   ·exact hcl e (hpd e he) x hxe
  have hlen:vals.length=ops.length:=by have:=I.plan; cases m <;> exact this.1
  have hagree : ∀ t∈looks ops o,f' t=fvs ops vals f t:=by
   intro t ht
   rw [I.frame t,fvs_get ops vals f t hlen hdist]
   cases hj:dstAt ops t with
   | none=>rfl
   | some j=>simp [hcp j (c3 t ht j hj)]
  have hguard:guardOk ops f' o.guard=guardOk ops (fvs ops vals f) o.guard:=by
   refine guardOk_congr (fun j b hg t ht=>hagree t ?_)
   unfold looks
   rw [hg]
   simp [ht]
  have hops : ∀ x∈o.op.operands,ev f' x=ev (fvs ops vals f) x:=by
   intro x hx
   cases x with
   | tmp t=>
    refine hagree t ?_
    unfold looks
    refine List.mem_append_left _ (List.mem_filterMap.2 ⟨.tmp t,by simpa using hx,rfl⟩)
   | _=>rfl
  have hsz':(listed.setIfInBounds i true).size=ops.length:=by rw [Array.size_setIfInBounds]; exact I.size
  have hget : ∀ j,(listed.setIfInBounds i true).getD j false=if j=i then true else listed.getD j false:=by
   intro j
   by_cases hji:j=i
   ·subst hji
    rw [Array.getD_eq_getD_getElem?,Array.getElem?_setIfInBounds_self_of_lt hls]; simp
   ·rw [getD_set_ne false (fun e=>hji e.symm)]; simp [hji]
  have hclosed' : ∀ j o',ops[j]? = some o'→(listed.setIfInBounds i true).getD j false=true→∀ e∈predsOf o',(listed.setIfInBounds i true).getD e false=true:=by
   intro j o' hj hjl e he
   rw [hget] at hjl ⊢
   by_cases hei:e=i
   ·simp [hei]
   ·simp only [hei,if_false]
    by_cases hji:j=i
    ·subst hji
     rw [ho'] at hj; cases hj
     exact hpd e he
    ·simp only [hji,if_false] at hjl
     exact I.closed j o' hj hjl e he
  have hfuel':fuel ≥ ((List.range ops.length).filter fun j=>!(listed.setIfInBounds i true).getD j false).length:=by
   have hsub:((List.range ops.length).filter fun j=>!(listed.setIfInBounds i true).getD j false).length<((List.range ops.length).filter fun j=>!listed.getD j false).length:=by
    have e1:((List.range ops.length).filter fun j=>!(listed.setIfInBounds i true).getD j false)=(((List.range ops.length).filter fun j=>!listed.getD j false).filter fun j=>!(j == i)):=by
     rw [List.filter_filter]
     apply List.filter_congr
     intro j _
     rw [hget]
     by_cases hji:j=i <;> simp [hji]
    rw [e1]
    have hmem:i∈(List.range ops.length).filter fun j=>!listed.getD j false:=List.mem_filter.2 ⟨List.mem_range.2 hlt,by simp [hif]⟩
    have:=List.length_filter_lt_length_iff_exists (l:=(List.range ops.length).filter fun j=>!listed.getD j false) (p:=fun j=>!(j == i))
    exact this.2 ⟨i,hmem,by simp⟩
   omega
  have hframe' : ∀ (vals':List Value) (v:Value),vals'.getD i undef=v→(∀ j,listed.getD j false=true→vals'.getD j undef=vals.getD j undef) →
    ∀ t,fputO f' o.dst v t=match dstAt ops t with | some j=>if (listed.setIfInBounds i true).getD j false=true then vals'.getD j undef else f t | none=>f t:=by
   intro vals' v hv hag t
   have hfr:=I.frame t
   cases hod:o.dst with
   | none=>
    simp only [fputO]
    rw [hfr]
    cases hj:dstAt ops t with
    | none=>rfl
    | some j=>
     simp only [hget]
     have hji:j≠i:=by
      intro e; subst e
      unfold dstAt at hj
      obtain⟨hjl,hjt,-⟩:=List.findIdx?_eq_some_iff_getElem.1 hj
      rw [(List.getElem?_eq_some_iff.1 ho').2,hod] at hjt
      simp at hjt
     simp only [hji,if_false]
     split
     ·rename_i hl; rw [hag j hl]
     ·rfl
   | some d=>
    have hdi:=c4 d hod
    simp only [fputO,fput]
    by_cases htd:t=d
    ·subst htd
     rw [hdi]
     simp only [hget,if_true]
     rw [hv]
     simp
    ·rw [beq_false_of htd,cond_false,hfr]
     cases hj:dstAt ops t with
     | none=>rfl
     | some j=>
      simp only [hget]
      have hji:j≠i:=by
       intro e; subst e
       unfold dstAt at hj
       obtain⟨hjl,hjt,-⟩:=List.findIdx?_eq_some_iff_getElem.1 hj
       rw [(List.getElem?_eq_some_iff.1 ho').2,hod] at hjt
       simp at hjt
       exact htd hjt.symm
      simp only [hji,if_false]
      split
      ·rename_i hl; rw [hag j hl]
      ·rfl
  have hstep : ∃ next:Value→Heap→Prop,stepAt P ops i (fvs ops vals f) w.heap next ∧
    ∀ v w',Same w0 w'→next v w'.heap→wpAny P .any ops.toArray Q' fuel (listed.setIfInBounds i true) (a.put o.dst v) w':=by
   cases hli:c.l i with
   | false=>
    have hop:i∈openQ c ops.length S:=by
     unfold openQ
     refine List.mem_filter.2 ⟨List.mem_range.2 hlt,?_⟩
     simp only [hli,Bool.not_false,Bool.true_and,Bool.and_eq_true]
     constructor
     ·rw [List.all_eq_true]
      intro x hx
      cases hlx:c.l x with
      | false=>rfl
      | true=>
       have hxlt:x<ops.length:=by
        rcases Nat.lt_or_ge x ops.length with h | h
        ·exact h
        ·have:=hcp x hx; rw [Array.getD_eq_getD_getElem?,Array.getElem?_eq_none (by rw [I.size]; exact h)] at this; simp at this
       have:=(I.loud x hxlt hlx).2 (hcp x hx)
       simp [this]
     ·rw [List.all_eq_true]
      intro l hl
      obtain⟨hll,hcl'⟩:=I.small l hl
      have:=(I.loud l hll hcl').1 hl
      cases hcon:(c.p l).contains i with
      | false=>rfl
      | true=>
       have:=hcl l this i (by simpa using hcon)
       rw [hif] at this; cases this
    refine⟨fun v h'=>v=vals.getD i undef∧h'=w.heap,?_,?_⟩
    ·have hq:quietOb P ops c f S vals w.heap:=by have:=I.plan; cases m <;> exact this.2.1
     exact hq i hop
    ·rintro v w' hs' ⟨hv,hh⟩
     refine ih _ S m vals (fputO f' o.dst v) _ w' hs' (r.put (hd o hmemo) v) ⟨hsz',hclosed',?_,I.small,hframe' vals v hv.symm (fun _ _=>rfl),by rw [hh]; exact I.plan⟩ hfuel'
     intro l hl hll
     rw [hget]
     have hne:l≠i:=fun e=>by rw [e,hli] at hll; cases hll
     simp only [hne,if_false]
     exact I.loud l hl hll
   | true=>
    have hnS:i ∉ S:=fun hS=>by
     have:=(I.loud i hlt hli).1 hS; rw [hif] at this; cases this
    have hrd:i∈readyL c ops.length S:=by
     unfold readyL
     refine List.mem_filter.2 ⟨List.mem_range.2 hlt,?_⟩
     simp only [hli,Bool.true_and,Bool.and_eq_true]
     refine⟨by simpa using hnS,?_⟩
     rw [List.all_eq_true]
     intro x hx
     cases hlx:c.l x with
     | false=>rfl
     | true=>
      have hxlt:x<ops.length:=by
       rcases Nat.lt_or_ge x ops.length with h | h
       ·exact h
       ·have:=hcp x hx; rw [Array.getD_eq_getD_getElem?,Array.getElem?_eq_none (by rw [I.size]; exact h)] at this; simp at this
      have:=(I.loud x hxlt hlx).2 (hcp x hx)
      simp [this]
    cases m with
    | zero=>
     have:=I.plan.2.2.1
     rw [this] at hrd; cases hrd
    | succ m=>
     refine⟨fun v h'=>∃ vals',vals'.getD i undef=v∧(∀ j<ops.length,detQ c S j=true→vals'.getD j undef=vals.getD j undef)∧Plan P ops c f K m (i :: S) vals' h',I.plan.2.2.2 i hrd,?_⟩
     rintro v w' hs' ⟨vals',hv,hag,hplan⟩
     have hag' : ∀ j,listed.getD j false=true→vals'.getD j undef=vals.getD j undef:=by
      intro j hj
      have hjlt:j<ops.length:=by
       rcases Nat.lt_or_ge j ops.length with h | h
       ·exact h
       ·rw [Array.getD_eq_getD_getElem?,Array.getElem?_eq_none (by rw [I.size]; exact h)] at hj; simp at hj
      refine hag j hjlt ?_
      unfold detQ
      rw [Bool.and_eq_true]
      constructor
      ·rw [List.all_eq_true]
       intro x hx
       cases hlx:c.l x with
       | false=>rfl
       | true=>
        have hxl:=hcl j hj x hx
        have hxlt:x<ops.length:=by
         rcases Nat.lt_or_ge x ops.length with h | h
         ·exact h
         ·rw [Array.getD_eq_getD_getElem?,Array.getElem?_eq_none (by rw [I.size]; exact h)] at hxl; simp at hxl
        have:=(I.loud x hxlt hlx).2 hxl
        simp [this]
      ·cases hlj:c.l j with
       | false=>rfl
       | true=>
        have:=(I.loud j hjlt hlj).2 hj
        simp [this]
     refine ih _ (i :: S) m vals' (fputO f' o.dst v) _ w' hs' (r.put (hd o hmemo) v) ⟨hsz',hclosed',?_,?_,hframe' vals' v hv hag',hplan⟩ hfuel'
     ·intro l hl hll
      rw [hget]
      by_cases hne:l=i
      ·simp [hne]
      ·simp only [hne,if_false,List.mem_cons,false_or]
       exact I.loud l hl hll
     ·intro l hl
      rcases List.mem_cons.1 hl with rfl | h
      ·exact⟨hlt,hli⟩
      ·exact I.small l h
  obtain⟨next,hst,hnext⟩:=hstep
  unfold stepAt at hst
  rw [ho'] at hst
  obtain⟨b,hb,ht,hf⟩:=hst
  unfold wpOp
  simp only [List.getElem?_toArray,ho']
  have hw:=guardOk_spec r (hguard.trans hb) hd
  cases b with
  | true=>
   rw [hw,if_pos rfl]
   exact .inl ((opH_congr c5 hops (ht rfl)).wp r rfl hs fun v w' hs' hK=>hnext v w' hs' hK)
  | false=>
   rw [hw]
   exact hnext undef w hs (hf rfl)
theorem wpf_draw {id:Nat} (c:Cert) (m:Nat) (vals:List Value) (hc:certOk ops c=true) (hd:dstsOk n ops=true) (hm:P.follows .mixedOrders=true)
  (H:Plan P ops c f (Q .normal) m [] vals h):wpf P n (.region id ops.toArray true) Q f h:=by
 intro a w r hw
 refine wp_region_any hm ?_
 have hz : ∀ i,(Array.replicate ops.toArray.size false).getD i false=false:=by
  intro i
  rw [Array.getD_eq_getD_getElem?]
  cases hq:(Array.replicate ops.toArray.size false)[i]? with
  | none=>rfl
  | some b=>
   have:=Array.mem_of_getElem? hq
   rw [Array.mem_replicate] at this
   simp [this.2]
 refine game (P:=P) (n:=n) (c:=c) (f:=f) (K:=Q .normal) (w0:=w) hc (dstsOk_spec hd) (Q':=fun e a' w'=>Same w w'∧∃ f',Rel n a' f'∧Q e f' w'.heap) (fun a' w' f' hs r' hK=>⟨hs,f',r',hK⟩)
  ops.toArray.size (Array.replicate ops.toArray.size false) [] m vals f a _ ⟨rfl,rfl,rfl⟩ r ⟨by simp,?_,?_,(fun l hl=>by cases hl),?_,by show Plan P ops c f (Q .normal) m [] vals w.heap; rw [hw]; exact H⟩ ?_
 ·intro i o _ hi; rw [hz] at hi; cases hi
 ·intro l _ _; rw [hz]; simp
 ·intro t
  cases dstAt ops t with
  | none=>rfl
  | some j=>simp only [hz]; rfl
 ·have:=List.length_filter_le (fun i=>!(Array.replicate ops.toArray.size false).getD i false) (List.range ops.length)
  simpa using this
end
end Go.VC
