/- A library of this claim: rules that lead a call of a Go function to a formula over the heap alone, and laws on lists, maps and slices in the heap. No conditions. -/
import Derived.Test.YtcldahgjomfbpaaGreatV1
namespace Go.VC
def loadV (P:Program) (t:TypeId) (h:Heap) (b o:Nat):Option Value:=
 match aggSize P t with
 | some (some n)=>(ldCells h b o n).map fun vs=>.agg vs.toArray
 | some none=>cellH h b o
 | none=>none
def resV (P:Program) (f:Fr) (h:Heap):List ResultVar→Option (List Value)
 | []=>some []
 | .tmp t :: rs=>(resV P f h rs).map (f t :: ·)
 | .cell a t :: rs=>match f a with
  | .pointer (some ⟨b,o,none⟩)=>match loadV P t h b o with
   | some v=>(resV P f h rs).map (v :: ·)
   | none=>none
  | _=>none
def tupV:List Value→Value
 | [v]=>v
 | vs=>.tuple vs.toArray
def retQ (P:Program) (rs:List ResultVar) (R:Value→Heap→Prop):Post
 | .normal,f,h=>∃ vs,resV P f h rs=some vs∧R (tupV vs) h
 | .ret,f,h=>∃ vs,resV P f h rs=some vs∧R (tupV vs) h
 | _,_,_=>False
theorem run_loadV {P:Program} (w:World) {t:TypeId} {b o:Nat} {v:Value} (hv:loadV P t w.heap b o=some v):(loadVar t ⟨b,o,none⟩).run P w = .ok v w:=by
 unfold loadV at hv
 split at hv
 ·rename_i n ha
  obtain⟨vs,hvs,rfl⟩:=Option.map_eq_some_iff.1 hv
  exact run_loadVar w t b o n vs ha hvs
 ·rename_i ha
  exact run_loadVar1 w t b o v ha hv
 ·simp at hv
theorem run_results {P:Program} {fn:Func} {n:Nat} {a:Act} {f:Fr} (r:Rel n a f) (w:World) {vs:List Value} (hv:resV P f w.heap fn.results.toList=some vs) :
  (results fn a.tmps).run P w = .ok (tupV vs) w:=by
 have key : ∀ (l:List ResultVar) (vs:List Value),resV P f w.heap l=some vs →
   (l.mapM (fun
    | .tmp t=>pure (a.tmps.getD t undef)
    | .cell x t=>do loadVar t (← asAddr (a.tmps.getD x undef)):ResultVar→Sem Value)).run P w = .ok vs w:=by
  intro l
  induction l with
  | nil=>intro vs h; simp [resV] at h; subst h; simp
  | cons x l ih=>
   intro vs h
   cases x with
   | tmp t=>
    simp only [resV] at h
    obtain⟨us,hus,rfl⟩:=Option.map_eq_some_iff.1 h
    have:=ih us hus
    simp only [List.mapM_cons,Sem.run_bind,Sem.run_pure,Result.andThen_ok,this]
    rw [r.get]
   | cell x t=>
    simp only [resV] at h
    split at h
    ·rename_i b o hfa
     split at h
     ·rename_i v hv
      obtain⟨us,hus,rfl⟩:=Option.map_eq_some_iff.1 h
      have:=ih us hus
      have hg:=r.get x
      rw [hfa] at hg
      have ha:(asAddr (.pointer (some ⟨b,o,none⟩))).run P w = .ok ⟨b,o,none⟩ w:=rfl
      simp only [List.mapM_cons,Sem.run_bind,Sem.run_pure,Result.andThen_ok,hg,ha,run_loadV w hv,this]
     ·simp at h
    ·simp at h
 have hk:=key fn.results.toList vs hv
 unfold results
 rw [Array.mapM_eq_mapM_toList]
 simp only [Sem.run_bind,Sem.run_map]
 refine Eq.trans (congrArg (fun q:Result (List Value)=>(q.andThen fun a w'=>.ok a.toArray w').andThen fun (vs:Array Value) w'=>(Pure.pure (if h:vs.size=1 then vs[0] else Value.tuple vs):Sem Value).run P w') hk) ?_
 simp only [Result.andThen_ok,Sem.run_pure]
 cases vs with
 | nil=>rfl
 | cons v vs=>cases vs <;> rfl
theorem callsH_of {P:Program} {g:FuncId} {fn:Func} {c:Code} {args:List Value} {h:Heap} {R:Value→Heap→Prop} (hf:P.funcs[g]? = some fn) (hb:fn.body=some c)
  (hn:Nat.ble args.length fn.ntmps=true) (H : ∀ f:Fr,(∀ i v,args[i]? = some v→f i=v)→wpf P fn.ntmps c (retQ P fn.results.toList R) f h):CallsH P g args.toArray h R:=by
 intro w hw
 have hn':args.length≤fn.ntmps:=Nat.le_of_ble_eq_true hn
 refine calls_of_wp hf hb ?_
 let a:Act:={ tmps:=args.toArray ++ Array.replicate (fn.ntmps - args.toArray.size) undef,defers:=[] }
 have r:Rel fn.ntmps a (fun t=>a.tmps.getD t undef):=⟨by simp [a]; omega,rfl,fun _=>rfl⟩
 refine wp_mono (H _ (fun i v hv=>?_) a w r hw) ?_
 ·show a.tmps.getD i undef=v
  have hlt:i<args.length:=(List.getElem?_eq_some_iff.1 hv).1
  simp only [a,Array.getD_eq_getD_getElem?]
  rw [Array.getElem?_append_left (by simpa using hlt)]
  simp [hv]
 ·rintro e a' w' ⟨hs,f',r',q⟩
  cases e with
  | normal=>
   obtain⟨vs,hvs,hR⟩:=q
   exact⟨r'.defers,_,run_results r' w' hvs,_,rfl,hR,hs⟩
  | ret=>
   obtain⟨vs,hvs,hR⟩:=q
   exact⟨r'.defers,_,run_results r' w' hvs,_,rfl,hR,hs⟩
  | exit _=>exact q.elim
  | goto _=>exact q.elim
  | panic _=>exact q.elim
  | outgrown=>exact q.elim
section
variable {P:Program} {f:Fr} {h:Heap} {rs:List ResultVar}
theorem resV_nil:resV P f h []=some []:=rfl
theorem resV_tmp {t:Nat} {v:Value} {vs:List Value} (e:f t=v) (H:resV P f h rs=some vs):resV P f h (.tmp t :: rs)=some (v :: vs):=by
 simp [resV,H,e]
theorem resV_cellN {a t b o n:Nat} {us:List Value} {vs:List Value} (e:f a = .pointer (some ⟨b,o,none⟩)) (ha:aggSize P t=some (some n)) (hc:ldCells h b o n=some us) (H:resV P f h rs=some vs):resV P f h (.cell a t :: rs)=some (.agg us.toArray :: vs):=by
 simp [resV,e,loadV,ha,hc,H]
theorem ldCells_cons {b o n:Nat} {v:Value} {vs:List Value} (hc:cellH h b o=some v) (H:ldCells h b (o+1) n=some vs):ldCells h b o (n+1)=some (v :: vs):=by
 simp [ldCells,hc,H]
end
end Go.VC
namespace Go.VC
theorem of_not_true {b:Bool} (h:(!b)=true):b=false:=by cases b <;> simp_all
theorem of_not_false {b:Bool} (h:(!b)=false):b=true:=by cases b <;> simp_all
theorem not_of_false {b:Bool} (h:b=false):(!b)=true:=by rw [h]; rfl
theorem wrap_i64 {n:Int} (h : -9223372036854775808≤n∧n<9223372036854775808):IntKind.i64.wrap n=n:=by
 obtain⟨h1,h2⟩:=h
 simp only [IntKind.wrap,IntKind.bits,IntKind.signed]
 simp
 omega
theorem wrap_u64 {n:Int} (h1:0≤n) (h2:n<18446744073709551616):IntKind.u64.wrap n=n:=by
 simp only [IntKind.wrap,IntKind.bits,IntKind.signed]
 simp
 omega
def dInt:Value→Int | .int _ n=>n | _=>0
def dSlA:Value→Option Addr | .slice a _ _=>a | _=>none
def dSlN:Value→Nat | .slice _ n _=>n | _=>0
def dSlC:Value→Nat | .slice _ _ c=>c | _=>0
def appH (e sz by_:Nat) (z:Value) (a:Option Addr) (n c m:Nat) (news:List Value) (h:Heap) (K:Option Addr→Nat→Nat→Heap→Prop):Prop:=
 (n+m≤1099511627776∧(n+m) * by_≤1099511627776∧by_≤1048576) ∧
 (n+m≤c→(∃ b o h',a=some ⟨b,o,none⟩∧stCells b h (o+n * sz) news=some h'∧K a (n+m) c h')∨(a=none∧K none (n+m) c h)) ∧
 (c<n+m→∃ olds,firstH h sz n (.slice a n c)=some olds∧∀ cap,n+m≤cap→K (some ⟨h.size,0,none⟩) (n+m) cap (h.push (.cells ((olds ++ news).toArray ++ Builtin.zeroCells z.cells (cap - (n+m))) e (0,0))))
theorem appH.mono {e sz by_:Nat} {z:Value} {a:Option Addr} {n c m:Nat} {news:List Value} {h:Heap} {K K':Option Addr→Nat→Nat→Heap→Prop} (H:appH e sz by_ z a n c m news h K) (hk : ∀ a n c h,K a n c h→K' a n c h) :
  appH e sz by_ z a n c m news h K':=by
 obtain⟨h1,h2,h3⟩:=H
 refine⟨h1,fun hr=>?_,fun hg=>?_⟩
 ·rcases h2 hr with⟨b,o,h',e1,e2,e3⟩ | ⟨e1,e2⟩
  ·exact .inl ⟨b,o,h',e1,e2,hk _ _ _ _ e3⟩
  ·exact .inr ⟨e1,hk _ _ _ _ e2⟩
 ·obtain⟨olds,e1,e2⟩:=h3 hg
  exact⟨olds,e1,fun cap hc=>hk _ _ _ _ (e2 cap hc)⟩
theorem first_fresh {h h1:Heap} {sz m b:Nat} {cs:Array Value} {t:TypeId} {n c:Nat} {l:List Value} (hh:h1=h.push (.cells cs t (0,0))) (hb:b=h.size) (hl:cs.toList=l) (hm:l.length=m * sz):firstH h1 sz m (.slice (some ⟨b,0,none⟩) n c)=some l:=by
 subst hh hb hl
 simp only [firstH]
 have key : ∀ (k o:Nat),o+k=cs.toList.length→ldCells (h.push (.cells cs t (0,0))) h.size o k=some (cs.toList.drop o):=by
  intro k
  induction k with
  | zero=>intro o ho; simp only [ldCells]; rw [List.drop_eq_nil_of_le (by omega)]
  | succ k ih=>
   intro o ho
   have hlt:o<cs.toList.length:=by omega
   have hc:cellH (h.push (.cells cs t (0,0))) h.size o=some cs.toList[o]:=by
    have:o<cs.size:=by simpa using hlt
    simp [cellH,this]
   simp only [ldCells,hc,ih (o+1) (by omega)]
   rw [List.drop_eq_getElem_cons hlt]; rfl
 have:=key (m * sz) 0 (by omega)
 simpa using this
def iterAt {κ : Type} (ek : κ→Value) (h:Heap) (it:Nat) (l:List (ME κ)) (c:Nat) (seen:Array Nat):Prop:=
 (l = []∧seen = #[]∧h[it]? = some (.mapIter none 0 #[] 0))∨∃ r,h[it]? = some (.mapIter (some r) c seen c)∧h[r]? = some (mobj ek l c)
section
variable {P:Program} {f:Fr} {h:Heap} {K:Value→Heap→Prop} {ty:TypeId}
theorem op_makeMap' {t:TypeId} {h1:Heap} (hh:h1=h.push (.map #[] 0)) (H:K (.map (some h.size)) h1):opH P (.makeMap t none) ty f K h:=by
 subst hh; exact op_makeMap H
theorem op_makeFunc' {g:FuncId} {ca:List Operand} {cs:List Value} (ha:ca.map (ev f)=cs) (H:K (.func (.func g) #[] cs.toArray) h):opH P (.makeFunc (.func g) #[] ca.toArray) ty f K h:=by
 refine op_makeFunc ?_
 have e1:ca.toArray.map (ev f)=cs.toArray:=by rw [List.map_toArray,ha]
 rw [e1]; simpa using H
theorem op_makeInterface' {t:TypeId} {x:Operand} {v:Value} (ht:P.concrete t=true) (hx:ev f x=v) (H:K (.iface t v) h):opH P (.makeInterface t x) ty f K h:=by
 subst hx; exact op_makeInterface ht H
theorem op_append' {t t' e:TypeId} {x y:Operand} {sz by_ n c m:Nat} {z src:Value} {base:Option Addr} {news:List Value} (hr:rowInfo P t=some (e,sz,by_,z))
  (ht':(∃ e',P.underlying t'=some (.slice e'))∨P.underlying t'=some .string)
  (hx:ev f x = .slice base n c) (hy:ev f y=src) (hm:lenH src=some m) (hn:firstH h sz m src=some news)
  (A:appH e sz by_ z base n c m news h (fun a n c h'=>K (.slice a n c) h')):opH P (.call ⟨.builtin .append,#[x,y],#[t,t']⟩) ty f K h:=
 op_append hr ht' hx hy hm hn A.1.2.1 A.1.1 A.1.2.2 A.2.1 A.2.2
end
section
variable {κ : Type} [DecidableEq κ] {P:Program} {f:Fr} {h:Heap} {K:Value→Heap→Prop} {ty:TypeId} {d:TypeDesc} {ek : κ→Value}
theorem op_lookup' {t kt et:TypeId} {x y:Operand} {m:Option Nat} {l:List (ME κ)} {c:Nat} {n : κ} {z v:Value} (he:KeyEnc d ek) (ht:P.underlying t=some (.map kt et)∧P.underlying kt=some d) (hz:zeroOf P et=some z)
  (hx:ev f x = .map m) (hy:ev f y=ek n) (hm:mapAt ek h m l c) (hv:(mlook l n).getD z=v) (H:K v h):opH P (.lookup t x y false) ty f K h:=
 op_lookup he ht hz hx hy hm (by rw [hv]; exact H)
theorem op_lookup_ok' {t kt et:TypeId} {x y:Operand} {m:Option Nat} {l:List (ME κ)} {c:Nat} {n : κ} {z v:Value} (he:KeyEnc d ek) (ht:P.underlying t=some (.map kt et)∧P.underlying kt=some d) (hz:zeroOf P et=some z)
  (hx:ev f x = .map m) (hy:ev f y=ek n) (hm:mapAt ek h m l c) (hv:(mlook l n).getD z=v) (H:K (.tuple #[v,.bool (mlook l n).isSome]) h):opH P (.lookup t x y true) ty f K h:=
 op_lookup_ok he ht hz hx hy hm (by rw [hv]; exact H)
theorem op_mapUpdate' {t kt et:TypeId} {x y z:Operand} {r:Nat} {l:List (ME κ)} {c:Nat} {n : κ} {v:Value} {h1:Heap} (he:KeyEnc d ek) (ht:P.underlying t=some (.map kt et)∧P.underlying kt=some d)
  (hx:ev f x = .map (some r)) (hy:ev f y=ek n) (hv:ev f z=v) (hm:h[r]? = some (mobj ek l c)) (hh:h1=h.setIfInBounds r (mobj ek (mput l n v c) (mclk l n c)))
  (H:K undef h1):opH P (.mapUpdate t x y z) ty f K h:=by subst hh; exact op_mapUpdate he ht hx hy hv hm H
theorem op_delete' {t kt et:TypeId} {x y:Operand} {ts:Array TypeId} {r:Nat} {l:List (ME κ)} {c:Nat} {n : κ} {h1:Heap} (he:KeyEnc d ek) (hts:ts[0]? = some t) (ht:P.underlying t=some (.map kt et)∧P.underlying kt=some d)
  (hx:ev f x = .map (some r)) (hy:ev f y=ek n) (hm:h[r]? = some (mobj ek l c)) (hh:h1=h.setIfInBounds r (mobj ek (mdel l n) c))
  (H:K (.tuple #[]) h1):opH P (.call ⟨.builtin .delete,#[x,y],ts⟩) ty f K h:=by subst hh; exact op_delete he hts ht hx hy hm H
end
section
variable {κ : Type} {P:Program} {f:Fr} {h:Heap} {K:Value→Heap→Prop} {ty:TypeId} {ek : κ→Value}
theorem op_range_any {t kt et:TypeId} {x:Operand} {m:Option Nat} {l:List (ME κ)} {c:Nat} (hu:P.underlying t=some (.map kt et)) (hx:ev f x = .map m) (hm:mapAt ek h m l c)
  (H : ∀ h1:Heap,((∀ x,x<h.size→h1[x]? = h[x]?)∧h1.size=h.size+1∧iterAt ek h1 h.size l c #[])→K (.pointer (some ⟨h.size,0,none⟩)) h1):opH P (.range t x) ty f K h:=by
 cases m with
 | none=>
  simp only [mapAt] at hm; subst hm
  refine op_range_nilMap hu hx (H _ ⟨fun x hx=>by rw [Array.getElem?_push_lt hx]; exact (Array.getElem?_eq_getElem hx).symm,by simp,.inl ⟨rfl,rfl,by simp⟩⟩)
 | some r=>
  simp only [mapAt] at hm
  have hr:r<h.size:=(Array.getElem?_eq_some_iff.1 hm).1
  refine op_range_map hu hx hm (H _ ⟨fun x hx=>by rw [Array.getElem?_push_lt hx]; exact (Array.getElem?_eq_getElem hx).symm,by simp,.inr ⟨r,by simp,?_⟩⟩)
  rw [Array.getElem?_push_lt hr]
  rw [← hm]; exact (Array.getElem?_eq_getElem hr).symm
theorem op_next_any {x:Operand} {it c:Nat} {seen:Array Nat} {l:List (ME κ)} (hx:ev f x = .pointer (some ⟨it,0,none⟩)) (hi:iterAt ek h it l c seen) (hb : ∀ e∈l,e.born<c)
  (H0:(∀ e∈l,e.born∈seen)→K (.tuple #[.bool false]) h)
  (H1 : ∀ e∈l,e.born ∉ seen→∀ h1:Heap,((∀ x,x≠it→h1[x]? = h[x]?)∧h1.size=h.size∧iterAt ek h1 it l c (seen.push e.born))→K (.tuple #[.bool true,ek e.key,e.val]) h1):opH P (.next x false) ty f K h:=by
 rcases hi with⟨rfl,rfl,hi⟩ | ⟨r,hi,hm⟩
 ·exact op_next_nilMap hx hi (H0 (fun e he=>by cases he))
 ·refine op_next_map hx hi hm hb H0 (fun e he hne=>H1 e he hne _ ⟨fun x hx=>?_,by simp,.inr ⟨r,?_,?_⟩⟩)
  ·rw [Array.getElem?_setIfInBounds_ne (fun q=>hx q.symm)]
  ·rw [Array.getElem?_setIfInBounds_self_of_lt (Array.getElem?_eq_some_iff.1 hi).1]
  ·have:it≠r:=fun q=>by subst q; rw [hi] at hm; simp [mobj] at hm
   rw [Array.getElem?_setIfInBounds_ne this]; exact hm
theorem op_entry_any {x:Operand} {it c:Nat} {seen:Array Nat} {l:List (ME κ)} {e:ME κ} (hx:ev f x = .pointer (some ⟨it,0,none⟩)) (hi:iterAt ek h it l c (seen.push e.born)) (he:e∈l) (hn:(l.map (·.born)).Nodup) {v:Value} (hv:e.val=v)
  (H:K (.tuple #[ek e.key,v]) h):opH P (.entry x) ty f K h:=by
 subst hv
 rcases hi with⟨rfl,-,-⟩ | ⟨r,hi,hm⟩
 ·cases he
 ·exact op_entry_map hx hi hm he hn H
end
section
variable {P:Program} {ops:List Oper} {c:Cert} {F:Fr} {K:Fr→Heap→Prop} {h:Heap}
theorem stepAt_of {i:Nat} {o:Oper} {next:Value→Heap→Prop} (ho:ops[i]? = some o) (hg:o.guard=none) (H:opH P o.op o.type F next h):stepAt P ops i F h next:=by
 unfold stepAt; rw [ho]; exact⟨true,by rw [hg]; rfl,fun _=>H,fun e=>by cases e⟩
theorem stepAt_if {i:Nat} {o:Oper} {g:Nat × Bool} {b:Bool} {next:Value→Heap→Prop} (ho:ops[i]? = some o) (hg:o.guard=some g) (hb:guardOk ops F (some g)=some b) (ht:b=true→opH P o.op o.type F next h) (hf:b=false→next undef h):stepAt P ops i F h next:=by
 unfold stepAt; rw [ho]; exact⟨b,by rw [hg]; exact hb,ht,hf⟩
theorem stepAt_gl {i:Nat} {o:Oper} {g:Nat × Bool} {b:Bool} {next:Value→Heap→Prop} (ho:ops[i]? = some o) (hg:o.guard=some g) (hb:guardOk ops F (some g)=some b) (J:Value→Heap→Prop) (hout : ∀ v h',J v h'→next v h') (ht:b=true→opH P o.op o.type F J h) (hf:b=false→J undef h):stepAt P ops i F h next:=
 stepAt_if ho hg hb (fun e=>(ht e).mono hout) (fun e=>hout _ _ (hf e))
theorem bif_true {α : Type} {b:Bool} {v u : α} (hb:b=true):v=(bif b then v else u):=by rw [hb]; rfl
theorem bif_false {α : Type} {b:Bool} {v u : α} (hb:b=false):u=(bif b then v else u):=by rw [hb]; rfl
def allAt (p:Nat→Prop):List Nat→Prop
 | []=>True
 | i :: is=>p i∧allAt p is
theorem allAt_mem {p:Nat→Prop} : ∀ {l:List Nat},allAt p l→∀ i∈l,p i
 | _ :: _,h,_,.head _=>h.1
 | _ :: _,h,_,.tail _ hm=>allAt_mem h.2 _ hm
theorem quiet_of {f:Fr} {S vals} (l:List Nat) (hl:openQ c ops.length S=l) (H:allAt (fun i=>stepAt P ops i (fvs ops vals f) h fun v h'=>v=vals.getD i undef∧h'=h) l):quietOb P ops c f S vals h:=by
 intro i hi; rw [hl] at hi; exact allAt_mem H i hi
theorem plan_done {f:Fr} {S vals} (hlen:vals.length=ops.length) (hq:quietOb P ops c f S vals h) (hr:readyL c ops.length S = []) (H:K (fvs ops vals f) h):Plan P ops c f K 0 S vals h:=⟨hlen,hq,hr,H⟩
theorem plan_step {f:Fr} {S vals m} (l:List Nat) (hne:l≠[]) (hlen:vals.length=ops.length) (hq:quietOb P ops c f S vals h) (hr:readyL c ops.length S=l)
  (H:allAt (fun i=>stepAt P ops i (fvs ops vals f) h fun v h'=>∃ vals',vals'.getD i undef=v∧(∀ j<ops.length,detQ c S j=true→vals'.getD j undef=vals.getD j undef)∧Plan P ops c f K m (i :: S) vals' h') l) :
  Plan P ops c f K (m+1) S vals h:=
 ⟨hlen,hq,fun e=>absurd (hr.symm.trans e) hne,fun i hi=>by rw [hr] at hi; exact allAt_mem H i hi⟩
theorem agree_of {n:Nat} {S:List Nat} {vals vals':List Value} (l:List Nat) (hl:(List.range n).filter (detQ c S)=l) (H:allAt (fun j=>vals'.getD j undef=vals.getD j undef) l) :
  ∀ j<n,detQ c S j=true→vals'.getD j undef=vals.getD j undef:=fun j hj hd=>allAt_mem H j (by rw [← hl]; exact List.mem_filter.2 ⟨List.mem_range.2 hj,hd⟩)
end
theorem and_i {a b:Bool} (h:a=true) (h':b=true):(a && b)=true:=by rw [h,h']; rfl
def onlyN (J:Fr→Heap→Prop):Post
 | .normal,f,h=>J f h
 | _,_,_=>False
theorem wpf_cut {P:Program} {n:Nat} {c:Code} {Q:Post} {f:Fr} {h:Heap} (J:Fr→Heap→Prop) (H:wpf P n c (onlyN J) f h) (H' : ∀ f h,J f h→Q .normal f h):wpf P n c Q f h:=
 wpf_mono H fun e f h q=>by cases e <;> first | exact H' f h q | exact q.elim
def zrep:Nat→List Value→List Value
 | 0,_=>[]
 | n+1,l=>l ++ zrep n l
theorem zrep_length (n:Nat) (l:List Value):(zrep n l).length=n * l.length:=by
 induction n with
 | zero=>simp [zrep]
 | succ n ih=>simp [zrep,ih,Nat.succ_mul,Nat.add_comm]
theorem zrep_get (l:List Value) : ∀ (n i:Nat),i<n * l.length→(zrep n l)[i]? = l[i % l.length]?:=by
 intro n
 induction n with
 | zero=>intro i hi; simp at hi
 | succ n ih=>
  intro i hi
  simp only [zrep]
  by_cases h:i<l.length
  ·rw [List.getElem?_append_left h,Nat.mod_eq_of_lt h]
  ·have h':l.length≤i:=by omega
   rw [List.getElem?_append_right h',ih (i - l.length) (by rw [Nat.succ_mul] at hi; omega)]
   congr 1
   rw [Nat.mod_eq_sub_mod h']
theorem madeZeros_eq (z:Value) (n:Nat) (l:List Value) (hz:z.cells=l.toArray):madeZeros z (n * l.length)=(zrep n l).toArray:=by
 unfold madeZeros
 by_cases h0:n * l.length=0
 ·simp only [h0,if_true]
  have:zrep n l = []:=List.length_eq_zero_iff.1 (by rw [zrep_length]; exact h0)
  rw [this]; simp
 ·simp only [h0,if_false,hz]
  apply Array.ext_getElem?
  intro i
  by_cases hi:i<n * l.length
  ·have hg:=zrep_get l n i hi
   have hl:0<l.length:=by
    rcases Nat.eq_zero_or_pos l.length with h | h
    ·rw [h,Nat.mul_zero] at hi; omega
    ·exact h
   have hm:i % l.length<l.length:=Nat.mod_lt _ hl
   simp only [List.getElem?_toArray,hg,Array.getElem?_map,Array.getElem?_range,hi,if_true,Option.map_some,List.size_toArray]
   rw [List.getElem?_eq_getElem hm]
   congr 1
   rw [getElem!_pos _ _ (by simpa using hm)]
   simp
  ·rw [Array.getElem?_eq_none (by simp; omega),Array.getElem?_eq_none (by simp [zrep_length]; omega)]
theorem op_buildSlice' {P:Program} {f:Fr} {h:Heap} {K:Value→Heap→Prop} {ty:TypeId} {t e:TypeId} {len sz by_:Nat} {parts:List (Nat × Operand)} {vs:List (Nat × Value)} {z:Value} {zl:List Value} {cs:Array Value} {h1:Heap} (hr:rowInfo P t=some (e,sz,by_,z)) (hsz:len * sz≤16777216)
  (hz:z.cells=zl.toArray) (hl:zl.length=sz)
  (hps:parts.map (fun p=>(p.1,ev f p.2))=vs) (hf:Instr.fill (fun i=>some (i * sz,sz)) (zrep len zl).toArray vs=some cs)
  (hh:h1=h.push (.cells cs e (0,0))) (H:K (.slice (some ⟨h.size,0,none⟩) len len) h1):opH P (.buildSlice t len parts.toArray) ty f K h:=by
 subst hl
 exact op_buildSlice hr hsz hps (by rw [madeZeros_eq z len zl hz]; exact hf) hh H
def plOf (P:Program):List Field→Option (List (Nat × Nat))
 | []=>some []
 | fd :: fs=>match sizeT P fd.type,plOf P fs with
  | some n,some l=>some ((fd.offset,n) :: l)
  | _,_=>none
def structPl (P:Program) (t:TypeId):Option (List (Nat × Nat)):=
 match P.underlying t with
 | some (.struct fs)=>plOf P fs.toList
 | _=>none
theorem plOf_map {P:Program} : ∀ {l:List Field} {pl:List (Nat × Nat)},plOf P l=some pl→l.map (fun fd=>(sizeT P fd.type).map fun n=>(fd.offset,n))=pl.map some
 | [],pl,h=>by simp [plOf] at h; subst h; rfl
 | fd :: fs,pl,h=>by
  simp only [plOf] at h
  split at h
  ·rename_i n l hn hl
   simp at h; subst h
   simp [hn,plOf_map hl]
  ·simp at h
theorem op_build' {P:Program} {f:Fr} {h:Heap} {K:Value→Heap→Prop} {ty:TypeId} {t:TypeId} {parts:List (Nat × Operand)} {vs:List (Nat × Value)} {z cs:Array Value} {pl:List (Nat × Nat)} (hz:zeroOf P t=some (.agg z)) (hp:structPl P t=some pl)
  (hps:parts.map (fun p=>(p.1,ev f p.2))=vs) (hf:Instr.fill (pl[·]?) z vs=some cs) (H:K (.agg cs) h):opH P (.build t parts.toArray) ty f K h:=by
 unfold structPl at hp
 split at hp
 ·rename_i fs hu
  exact op_build hz hu (plOf_map hp) hps hf H
 ·simp at hp
theorem enters_ok {P:Program} {g:FuncId} {fn:Func} {c:Code} (hf:P.funcs[g]? = some fn) (hname:(fn.name == "runtime.NumGoroutine")=false) (hb:fn.body=some c) : ∀ args w,(callFunc g args).run P w = .ok (.enter g args) w:=by
 intro args w
 have h1:fn.name≠"runtime.NumGoroutine":=by simpa using hname
 simp [callFunc,hf,h1,hb]
def CallsV (P:Program) (fv:Value) (args:List Value) (h:Heap) (R:Value→Heap→Prop):Prop:=
 ∃ (g:FuncId) (fi ca:List Value),fv = .func (.func g) fi.toArray ca.toArray∧(∀ args w,(callFunc g args).run P w = .ok (.enter g args) w)∧CallsH P g (fi ++ args ++ ca).toArray h R
theorem CallsV.mono {P:Program} {fv:Value} {args:List Value} {h:Heap} {R R':Value→Heap→Prop} (H:CallsV P fv args h R) (hr : ∀ v h',R v h'→R' v h'):CallsV P fv args h R':=by
 obtain⟨g,fi,ca,e,he,H⟩:=H
 exact⟨g,fi,ca,e,he,H.mono hr⟩
theorem op_callV {P:Program} {f:Fr} {h:Heap} {K:Value→Heap→Prop} {ty:TypeId} {x:Operand} {args:List Operand} {ts:Array TypeId} {fv:Value} {vs:List Value} (hx:ev f x=fv) (ha:args.map (ev f)=vs) (H:CallsV P fv vs h K) :
  opH P (.call ⟨.value x,args.toArray,ts⟩) ty f K h:=by
 obtain⟨g,fi,ca,rfl,he,H⟩:=H
 exact op_callv hx he ha H
theorem op_eqs {P:Program} {f:Fr} {h:Heap} {K:Value→Heap→Prop} {ty:TypeId} {t u:TypeId} {x y:Operand} {a b:List Value} {r:Bool} (hx:ev f x = .agg a.toArray) (hy:ev f y = .agg b.toArray) (hg:P.eqGuardType P.depth t=false)
  (he : ∀ w,(Op.equal t (.agg a.toArray) (.agg b.toArray)).run P w = .ok r w) (H:K (.bool r) h):opH P (.binOp .eql t x y u) ty f K h:=by
 refine opH_of_run (fun w _=>?_) H
 have hgd:(eqGuard .eql t x y (.agg a.toArray) (.agg b.toArray)).run P w = .ok () w:=by simp [eqGuard,hg]
 simp only [execOp,bareOp,hx,hy,binOp,Sem.run_bind,hgd,Result.andThen_ok,he,Sem.run_pure]
theorem run_equalIn_int {P:Program} (w:World) (d:Nat) {t:TypeId} {k:IntKind} {a b:Int} (ht:P.underlying t=some (.int k)):(Op.equalIn (d+1) t (.int k a) (.int k b)).run P w = .ok (decide (a=b)) w:=by
 simp [Op.equalIn,run_underlying ht]; rfl
def eqPlan (P:Program) (t:TypeId):Option (List (TypeId × Nat)):=
 match P.underlying t with
 | some (.struct fs)=>if P.stoodInHeld t || fs.toList.any (fun f=>f.name == "_") then none else some (fs.toList.map fun f=>(f.type,f.offset))
 | _=>none
def eqRun (d:Nat) (xs ys:Array Value):List (TypeId × Nat)→Sem Bool
 | []=>pure true
 | (t,o) :: fs=>do
   let a ← part t xs o
   let b ← part t ys o
   let r ← Op.equalIn d t a b
   if (!r)=true then pure false else eqRun d xs ys fs
theorem run_equalIn_plan {P:Program} (w:World) (d:Nat) {t:TypeId} {xs ys:Array Value} {pl:List (TypeId × Nat)} (hp:eqPlan P t=some pl) :
  (Op.equalIn (d+1) t (.agg xs) (.agg ys)).run P w=(eqRun d xs ys pl).run P w:=by
 unfold eqPlan at hp
 split at hp
 ·rename_i fs hu
  split at hp
  ·simp at hp
  ·rename_i hs
   simp only [Bool.or_eq_true,not_or,Bool.not_eq_true] at hs
   have hfs:P.fieldsOf t=fs:=by simp [Program.fieldsOf,hu]
   rw [run_equalIn_struct w d t xs ys (by rw [hfs]; exact hu) hs.1,hfs]
   simp only [Option.some.injEq] at hp
   subst hp
   have hn:=hs.2
   generalize fs.toList=l at hn ⊢
   induction l generalizing w with
   | nil=>rfl
   | cons f l ih=>
    simp only [List.any_cons,Bool.or_eq_false_iff] at hn
    have hne:f.name≠"_":=by simpa using hn.1
    have ih':=fun w=>ih w hn.2
    simp only [Op.eqFields,List.map_cons,eqRun,hne,not_false_eq_true,ne_eq,if_true,Sem.run_bind,Sem.run_ite,ih']
 ·simp at hp
theorem eqRun_int {P:Program} (w:World) {d:Nat} {xs ys:List Value} {t:TypeId} {o:Nat} {k:IntKind} {a b:Int} {pl:List (TypeId × Nat)} {r:Bool} (ht:P.underlying t=some (.int k)) (ha:aggSize P t=some none) (hx:xs[o]? = some (.int k a)) (hy:ys[o]? = some (.int k b))
  (H:(eqRun (d+1) xs.toArray ys.toArray pl).run P w = .ok r w):(eqRun (d+1) xs.toArray ys.toArray ((t,o) :: pl)).run P w = .ok (decide (a=b) && r) w:=by
 simp only [eqRun,Sem.run_bind,run_part1 (P:=P) (cs:=xs.toArray) w ha (by simpa using hx),run_part1 (P:=P) (cs:=ys.toArray) w ha (by simpa using hy),Result.andThen_ok,run_equalIn_int w d ht]
 by_cases h:a=b <;> simp [h,H]
theorem eq_of_plan {P:Program} {t:TypeId} {xs ys:List Value} {pl:List (TypeId × Nat)} {r:Bool} (hp:eqPlan P t=some pl) (H : ∀ w,(eqRun 9999 xs.toArray ys.toArray pl).run P w = .ok r w) : ∀ w,(Op.equal t (.agg xs.toArray) (.agg ys.toArray)).run P w = .ok r w:=by
 intro w
 have:=run_equalIn_plan (P:=P) w 9999 (xs:=xs.toArray) (ys:=ys.toArray) hp
 rw [H] at this
 exact this
theorem eqRun_nil {P:Program} (w:World) {d:Nat} {xs ys:List Value} : (eqRun d xs.toArray ys.toArray []).run P w = .ok true w:=rfl
def mapOk {κ : Type} (l:List (ME κ)) (c:Nat):Prop:=(∀ e∈l,e.born<c)∧(l.map (·.born)).Nodup∧(l.map (·.key)).Nodup
section
variable {κ : Type} [DecidableEq κ]
def mstamp (l:List (ME κ)) (n : κ) (c:Nat):Nat:=match mfind l n with | some e=>e.born | none=>c
theorem midx_none {l:List (ME κ)} {n : κ} (h:mfind l n=none):midx l n=none:=by
 cases hm:midx l n with
 | none=>rfl
 | some j=>
  have:=midx_mfind l n
  rw [hm,h] at this
  have hlt:=(List.findIdx?_eq_some_iff_getElem.1 hm).1
  simp [List.getElem?_eq_getElem hlt] at this
theorem midx_some {l:List (ME κ)} {n : κ} {e:ME κ} (h:mfind l n=some e) : ∃ j,midx l n=some j∧l[j]? = some e:=by
 have:=midx_mfind l n
 rw [h] at this
 cases hm:midx l n with
 | none=>rw [hm] at this; simp at this
 | some j=>rw [hm] at this; exact⟨j,rfl,this⟩
theorem op_mapEntry2 {P:Program} {f:Fr} {h:Heap} {K:Value→Heap→Prop} {ty:TypeId} {d:TypeDesc} {ek : κ→Value} {t kt et:TypeId} {x y:Operand} {r:Nat} {l:List (ME κ)} {c:Nat} {n : κ} {z v0:Value} {h1:Heap} (he:KeyEnc d ek) (ht:P.underlying t=some (.map kt et)∧P.underlying kt=some d) (hz:zeroOf P et=some z)
  (hx:ev f x = .map (some r)) (hy:ev f y=ek n) (hm:h[r]? = some (mobj ek l c)) (hv:(mlook l n).getD z=v0) (hh:h1=h.setIfInBounds r (mobj ek (mput l n v0 c) (mclk l n c)))
  (H:K (.tuple #[v0,.int .i64 (mstamp l n c:Nat)]) h1):opH P (.mapEntry t x y) ty f K h:=by
 subst hv
 refine op_mapEntry he ht hz hx hy hm (fun hn=>?_) (fun e hf=>?_)
 ·have e1:(mlook l n).getD z=z:=by simp [mlook,hn]
  simp only [e1,mput,mclk,mstamp,midx_none hn,hn,Option.isSome_none,Bool.false_eq_true,if_false] at H hh
  rw [hh] at H; exact H
 ·obtain⟨j,hj,hje⟩:=midx_some hf
  have e1:(mlook l n).getD z=e.val:=by simp [mlook,hf]
  have e2:(l.modify j fun e'=>{ e' with val:=e.val })=l:=by
   apply List.ext_getElem?
   intro q
   simp only [List.getElem?_modify]
   by_cases hq:j=q
   ·subst hq; simp [hje]
   ·simp [hq]
  simp only [e1,mput,mclk,mstamp,hj,hf,Option.isSome_some,if_true,e2] at H hh
  have e3:h.setIfInBounds r (mobj ek l c)=h:=by
   apply Array.ext_getElem?
   intro q
   by_cases hq:r=q
   ·subst hq; rw [hm,Array.getElem?_setIfInBounds_self_of_lt (Array.getElem?_eq_some_iff.1 hm).1]
   ·rw [Array.getElem?_setIfInBounds_ne hq]
  rw [hh,e3] at H; exact H
theorem mput_born_nodup {l:List (ME κ)} {n : κ} {v:Value} {c:Nat} (ho:mapOk l c):((mput l n v c).map (·.born)).Nodup:=by
 unfold mput
 cases hm:midx l n with
 | none=>
  simp only [List.map_append,List.map_cons,List.map_nil]
  rw [List.nodup_append]
  refine⟨ho.2.1,by simp,?_⟩
  intro a ha b hb
  simp at hb; subst hb
  obtain⟨e,he,rfl⟩:=List.mem_map.1 ha
  exact Nat.ne_of_lt (ho.1 e he)
 | some j=>
  have:((l.modify j fun e=>{ e with val:=v }).map (·.born))=l.map (·.born):=by
   apply List.ext_getElem?
   intro q
   simp only [List.getElem?_map,List.getElem?_modify]
   by_cases hq:j=q
   ·subst hq; cases l[j]? <;> simp
   ·simp [hq]
  rw [this]; exact ho.2.1
theorem op_entryStore2 {P:Program} {f:Fr} {h:Heap} {K:Value→Heap→Prop} {ty:TypeId} {ek : κ→Value} {t:TypeId} {x y z:Operand} {r:Nat} {l:List (ME κ)} {c:Nat} {n : κ} {v v0:Value} {h1:Heap} (hx:ev f x = .map (some r)) (hy:ev f y = .int .i64 (mstamp l n c:Nat)) (hv:ev f z=v)
  (hm:h[r]? = some (mobj ek (mput l n v0 c) (mclk l n c))∧mapOk l c) (hh:h1=h.setIfInBounds r (mobj ek (mput l n v c) (mclk l n c))) (H:K undef h1):opH P (.entryStore t x y z) ty f K h:=by
 obtain⟨hm,ho⟩:=hm
 have hnd:=mput_born_nodup (n:=n) (v:=v0) ho
 subst hh
 cases hf:mfind l n with
 | none=>
  have hi:=midx_none hf
  have e1:mput l n v0 c=l ++ [⟨n,v0,c⟩]:=by simp [mput,hi]
  have e2:(mput l n v0 c).modify l.length (fun e=>{ e with val:=v })=mput l n v c:=by
   rw [e1]; simp only [mput,hi]
   apply List.ext_getElem?
   intro q
   simp only [List.getElem?_modify]
   rcases Nat.lt_trichotomy q l.length with hq | hq | hq
   ·have hne : ¬ l.length=q:=by omega
    simp [List.getElem?_append_left hq,hne]
   ·subst hq; simp
   ·have hne : ¬ l.length=q:=by omega
    simp only [hne,if_false]
    rw [List.getElem?_append_right (by omega),List.getElem?_append_right (by omega)]
    rw [List.getElem?_eq_none (by simp; omega),List.getElem?_eq_none (by simp; omega)]; rfl
  have:=op_entryStore (P:=P) (f:=f) (K:=K) (ty:=ty) (t:=t) (j:=l.length) (e:=⟨n,v0,c⟩) (bn:=mstamp l n c) hx hy hv hm (by rw [e1]; simp) (by simp [mstamp,hf]) hnd (by rw [e2]; exact H)
  exact this
 | some e=>
  obtain⟨j,hj,hje⟩:=midx_some hf
  have e1:mput l n v0 c=l.modify j (fun e=>{ e with val:=v0 }):=by simp [mput,hj]
  have e2:(mput l n v0 c).modify j (fun e=>{ e with val:=v })=mput l n v c:=by
   rw [e1]; simp only [mput,hj]
   apply List.ext_getElem?
   intro q
   simp only [List.getElem?_modify]
   by_cases hq:j=q
   ·subst hq; simp [hje]
   ·simp [hq]
  exact op_entryStore (P:=P) (f:=f) (K:=K) (ty:=ty) (t:=t) (j:=j) (e:={ e with val:=v0 }) (bn:=mstamp l n c) hx hy hv hm (by rw [e1]; simp [hje]) (by simp [mstamp,hf]) hnd (by rw [e2]; exact H)
end
theorem lt_of {a b c d:Nat} (h1:a=c) (h2:b=d) (h:c<d):a<b:=by rw [h1,h2]; exact h
theorem ret_leaf {P:Program} {rs:List ResultVar} {R:Value→Heap→Prop} {f:Fr} {h:Heap} {vs:List Value} (hv:resV P f h rs=some vs) (H:R (tupV vs) h):retQ P rs R .ret f h:=⟨vs,hv,H⟩
theorem end_leaf {P:Program} {rs:List ResultVar} {R:Value→Heap→Prop} {f:Fr} {h:Heap} {vs:List Value} (hv:resV P f h rs=some vs) (H:R (tupV vs) h):retQ P rs R .normal f h:=⟨vs,hv,H⟩
end Go.VC
namespace Go.VC
def Ext (h h':Heap):Prop:=h.size≤h'.size∧∀ x,x<h.size→h'[x]? = h[x]?
theorem Ext.refl (h:Heap):Ext h h:=⟨Nat.le_refl _,fun _ _=>rfl⟩
theorem Ext.trans {h h' h'':Heap} (a:Ext h h') (b:Ext h' h''):Ext h h'':=
 ⟨Nat.le_trans a.1 b.1,fun x hx=>(b.2 x (Nat.lt_of_lt_of_le hx a.1)).trans (a.2 x hx)⟩
theorem Ext.get {h h':Heap} (a:Ext h h') {x:Nat} {o:Obj} (hx:h[x]? = some o):h'[x]? = some o:=by
 rw [a.2 x (Array.getElem?_eq_some_iff.1 hx).1]; exact hx
def Ch (F:Nat→Prop) (h h':Heap):Prop:=h.size≤h'.size∧∀ x,x<h.size→¬ F x→h'[x]? = h[x]?
theorem Ch.refl (F:Nat→Prop) (h:Heap):Ch F h h:=⟨Nat.le_refl _,fun _ _ _=>rfl⟩
theorem Ch.trans {F:Nat→Prop} {h h' h'':Heap} (a:Ch F h h') (b:Ch F h' h''):Ch F h h'':=
 ⟨Nat.le_trans a.1 b.1,fun x hx hf=>(b.2 x (Nat.lt_of_lt_of_le hx a.1) hf).trans (a.2 x hx hf)⟩
theorem Ch.mono {F G:Nat→Prop} {h h':Heap} (a:Ch F h h') (hg : ∀ x,x<h.size→F x→G x):Ch G h h':=⟨a.1,fun x hx hn=>a.2 x hx fun hf=>hn (hg x hx hf)⟩
theorem Ext.ch {F:Nat→Prop} {h h':Heap} (a:Ext h h'):Ch F h h':=⟨a.1,fun x hx _=>a.2 x hx⟩
theorem Ch.get {F:Nat→Prop} {h h':Heap} (a:Ch F h h') {x:Nat} {o:Obj} (hx:h[x]? = some o) (hf : ¬ F x):h'[x]? = some o:=by
 rw [a.2 x (Array.getElem?_eq_some_iff.1 hx).1 hf]; exact hx
theorem lt_of_get {h:Heap} {x:Nat} {o:Obj} (hx:h[x]? = some o):x<h.size:=(Array.getElem?_eq_some_iff.1 hx).1
def Grow (F:Nat→Prop) (h h':Heap) (x:Nat):Prop:=F x∨(h.size≤x∧x<h'.size)
theorem push_get {h h1:Heap} {o:Obj} (e:h1=h.push o):h1[h.size]? = some o∧Ext h h1∧h1.size=h.size+1:=by
 subst e
 refine⟨by simp,⟨by simp,fun x hx=>?_⟩,by simp⟩
 rw [Array.getElem?_push_lt hx]; exact (Array.getElem?_eq_getElem hx).symm
theorem set_get {h h1:Heap} {b:Nat} {o u:Obj} (e:h1=h.setIfInBounds b o) (hb:h[b]? = some u):h1[b]? = some o∧(∀ x,x≠b→h1[x]? = h[x]?)∧h1.size=h.size:=by
 subst e
 exact⟨by rw [Array.getElem?_setIfInBounds_self_of_lt (lt_of_get hb)],fun x hx=>Array.getElem?_setIfInBounds_ne (fun q=>hx q.symm),by simp⟩
theorem cell_blk {h:Heap} {b o:Nat} {c:Array Value} {t:TypeId} {z:Nat × Nat} {v:Value} (hb:h[b]? = some (.cells c t z)) (hc:c[o]? = some v):cellH h b o=some v:=by
 simp only [cellH,hb,hc]
theorem cell_lst {h:Heap} {b o:Nat} {c:List Value} {t:TypeId} {z:Nat × Nat} {v:Value} (hb:h[b]? = some (.cells c.toArray t z)) (hc:c[o]? = some v):cellH h b o=some v:=
 cell_blk hb (by simpa using hc)
theorem cell_congr {h h':Heap} {b o:Nat} (e:h'[b]? = h[b]?):cellH h' b o=cellH h b o:=by simp only [cellH,e]
theorem ld_lst {h:Heap} {b:Nat} {c:List Value} {t:TypeId} {z:Nat × Nat} (hb:h[b]? = some (.cells c.toArray t z)) : ∀ (n o:Nat),o+n≤c.length→ldCells h b o n=some ((c.drop o).take n):=by
 intro n
 induction n with
 | zero=>intro o _; simp [ldCells]
 | succ n ih=>
  intro o ho
  have hlt:o<c.length:=by omega
  simp only [ldCells,cell_lst hb (List.getElem?_eq_getElem hlt),ih (o+1) (by omega)]
  rw [List.drop_eq_getElem_cons hlt,List.take_succ_cons]; rfl
def spl (c:List Value) (o:Nat) (vs:List Value):List Value:=c.take o ++ vs ++ c.drop (o+vs.length)
theorem spl_length {c:List Value} {o:Nat} {vs:List Value} (h:o+vs.length≤c.length):(spl c o vs).length=c.length:=by
 simp [spl]; omega
theorem spl_get {c:List Value} {o:Nat} {vs:List Value} (h:o+vs.length≤c.length) (i:Nat):(spl c o vs)[i]? = if o≤i∧i<o+vs.length then vs[i - o]? else c[i]?:=by
 unfold spl
 by_cases h1:i<o
 ·have : ¬ (o≤i∧i<o+vs.length):=by omega
  rw [if_neg this,List.append_assoc,List.getElem?_append_left (by simp; omega),List.getElem?_take_of_lt h1]
 ·by_cases h2:i<o+vs.length
  ·have hc:o≤i∧i<o+vs.length:=by omega
   rw [if_pos hc,List.append_assoc,List.getElem?_append_right (by simp; omega),List.getElem?_append_left (by simp; omega)]
   congr 1; simp; omega
  ·have : ¬ (o≤i∧i<o+vs.length):=by omega
   rw [if_neg this,List.getElem?_append_right (by simp; omega),List.getElem?_drop]
   congr 1; simp; omega
theorem spl_one {c:List Value} {o:Nat} {v:Value} (h:o<c.length):spl c o [v]=c.set o v:=by
 apply List.ext_getElem?
 intro i
 rw [spl_get (by simp; omega),List.getElem?_set]
 by_cases h1:o=i
 ·subst h1; simp [h]
 ·have : ¬ (o≤i∧i<o + [v].length):=by simp; omega
  simp [h1]; intro h2 h3; simp at this; omega
theorem set_set {h:Heap} {b:Nat} {o o':Obj} : (h.setIfInBounds b o).setIfInBounds b o'=h.setIfInBounds b o':=by
 apply Array.ext_getElem?
 intro i
 by_cases hi:b=i
 ·subst hi; simp only [Array.getElem?_setIfInBounds]; simp
 ·rw [Array.getElem?_setIfInBounds_ne hi,Array.getElem?_setIfInBounds_ne hi,Array.getElem?_setIfInBounds_ne hi]
theorem st_lst : ∀ (vs:List Value) (h:Heap) (b o:Nat) (c:List Value) (t:TypeId),h[b]? = some (.cells c.toArray t (0,0))→o+vs.length≤c.length→(∀ v∈vs,v.oneCell'=true) →
  stCells b h o vs=some (h.setIfInBounds b (.cells (spl c o vs).toArray t (0,0))):=by
 intro vs
 induction vs with
 | nil=>
  intro h b o c t hb _ _
  have e:spl c o []=c:=by simp [spl]
  simp only [stCells,e]
  congr 1
  apply Array.ext_getElem?
  intro i
  by_cases hi:b=i
  ·subst hi; rw [Array.getElem?_setIfInBounds_self_of_lt (lt_of_get hb)]; exact hb
  ·rw [Array.getElem?_setIfInBounds_ne hi]
 | cons v vs ih=>
  intro h b o c t hb ho h1
  simp only [List.length_cons] at ho
  have hlt:o<c.length:=by omega
  have hc:=cell_lst hb (List.getElem?_eq_getElem hlt)
  have hf:frozH h b o=false:=by simp [frozH,hb]
  have hone:=h1 v (List.mem_cons_self ..)
  have hset:setH h b o v=h.setIfInBounds b (.cells (c.set o v).toArray t (0,0)):=by
   unfold setH
   apply Array.ext_getElem?
   intro i
   rw [Array.getElem?_modify]
   by_cases hi:b=i
   ·subst hi
    rw [if_pos rfl,hb,Array.getElem?_setIfInBounds_self_of_lt (lt_of_get hb)]
    simp
   ·rw [if_neg hi,Array.getElem?_setIfInBounds_ne hi]
  have hb':(setH h b o v)[b]? = some (.cells (c.set o v).toArray t (0,0)):=by
   rw [hset,Array.getElem?_setIfInBounds_self_of_lt (lt_of_get hb)]
  have:=ih (setH h b o v) b (o+1) (c.set o v) t hb' (by simp; omega) (fun u hu=>h1 u (List.mem_cons_of_mem _ hu))
  simp only [stCells,hc,hf,hone,Option.isSome_some,Bool.not_false,Bool.and_self,if_true,this]
  rw [hset,set_set]
  congr 4
  apply List.ext_getElem?
  intro i
  rw [spl_get (by simp; omega),spl_get (by simp; omega),List.getElem?_set]
  simp only [List.length_cons]
  by_cases h2:o=i
  ·subst h2
   have e1 : ¬ (o+1≤o∧o<o+1+vs.length):=by omega
   have e2:o≤o∧o<o+(vs.length+1):=by omega
   rw [if_neg e1,if_pos e2]; simp [hlt]
  ·by_cases h3:o+1≤i∧i<o+1+vs.length
   ·have e2:o≤i∧i<o+(vs.length+1):=by omega
    rw [if_pos h3,if_pos e2]
    have e3:i - o=(i - (o+1))+1:=by omega
    rw [e3]; simp
   ·have e2 : ¬ (o≤i∧i<o+(vs.length+1)):=by omega
    rw [if_neg h3,if_neg e2]; simp [h2]
theorem st_ex {h:Heap} {b o:Nat} {c:List Value} {t:TypeId} (vs:List Value) (hb:h[b]? = some (.cells c.toArray t (0,0))) (ho:o+vs.length≤c.length) (h1 : ∀ v∈vs,v.oneCell'=true) :
  ∃ h1,stCells b h o vs=some h1∧h1[b]? = some (.cells (spl c o vs).toArray t (0,0))∧(∀ x,x≠b→h1[x]? = h[x]?)∧h1.size=h.size:=
 ⟨_,st_lst vs h b o c t hb ho h1,set_get rfl hb⟩
theorem one_int (k:IntKind) (n:Int):(Value.int k n).oneCell'=true:=rfl
section
variable {κ : Type} [DecidableEq κ]
theorem mlook_nil (n : κ):mlook ([]:List (ME κ)) n=none:=rfl
theorem mfind_mput {l:List (ME κ)} {n m : κ} {v:Value} {c:Nat} : (mfind (mput l n v c) m).map (·.val)=if m=n then some v else (mfind l m).map (·.val):=by
 unfold mput
 cases hi:midx l n with
 | none=>
  have hnf:mfind l n=none:=by
   have:=midx_mfind l n; rw [hi] at this; simpa using this.symm
  simp only [mfind,List.find?_append,Option.map_or]
  by_cases h:m=n
  ·subst h
   have:l.find? (fun e=>decide (e.key=m))=none:=hnf
   rw [this]; simp
  ·have : ¬ n=m:=fun e=>h e.symm
   simp [h,this]
 | some j=>
  have hj:=midx_mfind l n
  rw [hi] at hj
  simp only [Option.bind_some] at hj
  obtain⟨hlt,hjk,hmin⟩:=List.findIdx?_eq_some_iff_getElem.1 hi
  clear hi hj
  induction l generalizing j with
  | nil=>simp at hlt
  | cons e l ih=>
   cases j with
   | zero=>
    simp at hjk
    simp only [List.modify_zero_cons,mfind,List.find?_cons,hjk]
    by_cases h:m=n
    ·subst h; simp
    ·have : ¬ n=m:=fun q=>h q.symm
     simp [h,this]
   | succ j=>
    have h0:=hmin 0 (by omega)
    simp at h0
    have ih':=ih j (by simpa using hlt) (by simpa using hjk) (fun q hq=>by have:=hmin (q+1) (by omega); simpa using this)
    simp only [List.modify_succ_cons,mfind,List.find?_cons]
    by_cases hem:e.key=m
    ·have hmn : ¬ m=n:=fun q=>h0 (hem.trans q)
     simp [hem,hmn]
    ·simp only [hem,decide_false]
     exact ih'
theorem mlook_mput (l:List (ME κ)) (n m : κ) (v:Value) (c:Nat):mlook (mput l n v c) m=if m=n then some v else mlook l m:=mfind_mput
theorem mput_keys (l:List (ME κ)) (n : κ) (v:Value) (c:Nat):((mput l n v c).map (·.key))=if (midx l n).isSome then l.map (·.key) else l.map (·.key) ++ [n]:=by
 unfold mput
 cases hi:midx l n with
 | none=>simp
 | some j=>
  simp only [Option.isSome_some,if_true]
  apply List.ext_getElem?
  intro q
  simp only [List.getElem?_map,List.getElem?_modify]
  by_cases hq:j=q
  ·subst hq; cases l[j]? <;> simp
  ·simp [hq]
theorem midx_isSome (l:List (ME κ)) (n : κ):(midx l n).isSome=(mlook l n).isSome:=by
 have:=midx_mfind l n
 cases hi:midx l n with
 | none=>rw [hi] at this; simp at this; simp [mlook,← this]
 | some j=>
  rw [hi] at this
  have hlt:=(List.findIdx?_eq_some_iff_getElem.1 hi).1
  simp [List.getElem?_eq_getElem hlt] at this
  simp [mlook,← this]
theorem mem_keys_iff {l:List (ME κ)} {n : κ} : n∈l.map (·.key)↔(mlook l n).isSome=true:=by
 simp only [mlook,mfind,Option.isSome_map,List.find?_isSome,List.mem_map,decide_eq_true_eq]
theorem mput_ok {l:List (ME κ)} {n : κ} {v:Value} {c:Nat} (ho:mapOk l c):mapOk (mput l n v c) (mclk l n c):=by
 refine⟨?_,mput_born_nodup ho,?_⟩
 ·intro e he
  unfold mput at he
  unfold mclk
  cases hi:midx l n with
  | none=>
   rw [hi] at he
   simp at he
   simp only [Option.isSome_none,Bool.false_eq_true,if_false]
   rcases he with he | rfl
   ·exact Nat.lt_succ_of_lt (ho.1 e he)
   ·exact Nat.lt_succ_self _
  | some j=>
   rw [hi] at he
   simp only [Option.isSome_some,if_true]
   obtain⟨q,hq⟩:=List.mem_iff_getElem?.1 he
   rw [List.getElem?_modify] at hq
   cases hlq:l[q]? with
   | none=>rw [hlq] at hq; simp at hq
   | some e'=>
    rw [hlq] at hq
    have hm:=ho.1 e' (List.mem_iff_getElem?.2 ⟨q,hlq⟩)
    by_cases hjq:j=q
    ·simp [hjq] at hq; rw [← hq]; exact hm
    ·simp [hjq] at hq; rw [← hq]; exact hm
 ·rw [mput_keys]
  split
  ·exact ho.2.2
  ·rename_i hi
   rw [List.nodup_append]
   refine⟨ho.2.2,by simp,?_⟩
   intro a ha b hb
   simp at hb; subst hb
   intro e; subst e
   rw [mem_keys_iff,← midx_isSome] at ha
   exact hi ha
theorem mdel_ok {l:List (ME κ)} {n : κ} {c:Nat} (ho:mapOk l c):mapOk (mdel l n) c:=by
 unfold mdel
 split
 ·rename_i j _
  have hs:=List.eraseIdx_sublist l j
  exact⟨fun e he=>ho.1 e (hs.subset he),(hs.map _).nodup ho.2.1,(hs.map _).nodup ho.2.2⟩
 ·exact ho
theorem mlook_mdel {l:List (ME κ)} {c:Nat} (ho:mapOk l c) (n m : κ):mlook (mdel l n) m=if m=n then none else mlook l m:=by
 have hnd:=ho.2.2
 unfold mdel
 cases hi:midx l n with
 | none=>
  have:mlook l n=none:=by
   have:=midx_isSome l n; rw [hi] at this; cases h:mlook l n <;> simp_all
  by_cases h:m=n
  ·subst h; simp [this]
  ·simp [h]
 | some j=>
  obtain⟨hlt,hjk,hmin⟩:=List.findIdx?_eq_some_iff_getElem.1 hi
  clear hi ho
  induction l generalizing j with
  | nil=>simp at hlt
  | cons e l ih=>
   simp only [List.map_cons,List.nodup_cons] at hnd
   cases j with
   | zero=>
    simp at hjk
    simp only [List.eraseIdx_zero,List.tail_cons]
    by_cases h:m=n
    ·subst h
     rw [if_pos rfl]
     cases hl:mlook l m with
     | none=>rfl
     | some v=>
      exfalso
      have:m∈l.map (·.key):=mem_keys_iff.2 (by simp [hl])
      exact hnd.1 (by rw [hjk]; exact this)
    ·have : ¬ e.key=m:=fun q=>h (by rw [← q,hjk])
     simp [h,mlook,mfind,this]
   | succ j=>
    have h0:=hmin 0 (by omega)
    simp at h0
    have ih':=ih hnd.2 j (by simpa using hlt) (by simpa using hjk) (fun q hq=>by have:=hmin (q+1) (by omega); simpa using this)
    simp only [List.eraseIdx_cons_succ]
    by_cases hem:e.key=m
    ·have hmn : ¬ m=n:=fun q=>h0 (hem.trans q)
     simp [mlook,mfind,hem,hmn]
    ·simp only [mlook,mfind,List.find?_cons,hem,decide_false] at ih' ⊢
     exact ih'
theorem mapOk_nil (κ : Type) (c:Nat):mapOk ([]:List (ME κ)) c:=⟨fun _ h=>(by cases h),by simp,by simp⟩
theorem mlook_mem {l:List (ME κ)} {n : κ} {v:Value} (h:mlook l n=some v) : ∃ e∈l,e.key=n∧e.val=v:=by
 unfold mlook at h
 obtain⟨e,he,rfl⟩:=Option.map_eq_some_iff.1 h
 exact⟨e,List.mem_of_find?_eq_some he,mfind_key he,rfl⟩
theorem mem_mlook {l:List (ME κ)} {c:Nat} (ho:mapOk l c) {e:ME κ} (he:e∈l):mlook l e.key=some e.val:=by
 have hnd:=ho.2.2
 clear ho
 induction l with
 | nil=>cases he
 | cons a l ih=>
  simp only [List.map_cons,List.nodup_cons] at hnd
  rcases List.mem_cons.1 he with rfl | h
  ·simp [mlook,mfind]
  ·have hne : ¬ a.key=e.key:=fun q=>hnd.1 (by rw [q]; exact List.mem_map.2 ⟨e,h,rfl⟩)
   have:=ih h hnd.2
   simp only [mlook,mfind,List.find?_cons,hne,decide_false] at this ⊢
   exact this
end
theorem ne_map_cells {h:Heap} {a b:Nat} {c:Array Value} {t:TypeId} {z:Nat × Nat} {es:Array MapEntry} {k:Nat} (ha:h[a]? = some (.cells c t z)) (hb:h[b]? = some (.map es k)):a≠b:=by
 intro e; subst e; rw [ha] at hb; simp at hb
theorem mobj_inj {κ : Type} {ek : κ→Value} (hi : ∀ a b,ek a=ek b→a=b) {l l':List (ME κ)} {c c':Nat} (e:mobj ek l c=mobj ek l' c'):l=l'∧c=c':=by
 simp only [mobj,Obj.map.injEq] at e
 obtain⟨e,rfl⟩:=e
 replace e:=List.toArray_inj e
 refine⟨?_,rfl⟩
 induction l generalizing l' with
 | nil=>cases l' with
  | nil=>rfl
  | cons a l'=>simp at e
 | cons x l ih=>cases l' with
  | nil=>simp at e
  | cons x' l'=>
   simp only [List.map_cons,List.cons.injEq] at e
   obtain⟨e1,e2⟩:=e
   rw [ih e2]
   obtain⟨k,v,b⟩:=x
   obtain⟨k',v',b'⟩:=x'
   simp only [ME.ent,MapEntry.mk.injEq] at e1
   obtain⟨a,rfl,rfl⟩:=e1
   rw [hi _ _ a]
theorem mobj_int_inj {k:IntKind} {l l':List (ME Int)} {c c':Nat} (e:mobj (Value.int k) l c=mobj (Value.int k) l' c'):l=l'∧c=c':=mobj_inj (fun a b h=>by simpa using h) e
theorem st_tmp {h h1:Heap} {zs:List Value} {t:TypeId} (e:h1=h.push (.cells zs.toArray t (0,0))) (vs:List Value) (hn:vs.length=zs.length) (ho : ∀ v∈vs,v.oneCell'=true) :
  ∃ h2,stCells h.size h1 0 vs=some h2∧h2[h.size]? = some (.cells vs.toArray t (0,0))∧Ext h h2∧h2.size=h.size+1:=by
 obtain⟨p1,p2,p3⟩:=push_get e
 obtain⟨h2,q1,q2,q3,q4⟩:=st_ex (o:=0) vs p1 (by omega) ho
 refine⟨h2,q1,?_,⟨by omega,fun x hx=>by rw [q3 x (by omega)]; exact p2.2 x hx⟩,by omega⟩
 rw [q2]; simp [spl,hn]
theorem lt_of_cell {h:Heap} {b o:Nat} {v:Value} (hc:cellH h b o=some v):b<h.size:=by
 by_cases hl:b<h.size
 ·exact hl
 ·simp [cellH,Array.getElem?_eq_none (Nat.le_of_not_lt hl)] at hc
theorem Ext.cell {h h':Heap} (e:Ext h h') {b o:Nat} {v:Value} (hc:cellH h b o=some v):cellH h' b o=some v:=by
 rw [cell_congr (e.2 b (lt_of_cell hc))]; exact hc
theorem Ext.lt {h h':Heap} (e:Ext h h') {b:Nat} (hb:b<h.size):b<h'.size:=Nat.lt_of_lt_of_le hb e.1
theorem Ch.lt {F:Nat→Prop} {h h':Heap} (e:Ch F h h') {b:Nat} (hb:b<h.size):b<h'.size:=Nat.lt_of_lt_of_le hb e.1
def unseen {κ : Type} (l:List (ME κ)) (h:Heap) (it:Nat):Nat:=
 match h[it]? with
 | some (.mapIter _ _ seen _)=>(l.filter fun e=>!seen.contains e.born).length
 | _=>0
theorem filter_lt {α : Type} {p q : α→Bool} : ∀ {l:List α} {x : α},(∀ y∈l,q y=true→p y=true)→x∈l→p x=true→q x=false→(l.filter q).length<(l.filter p).length
 | [],_,_,h,_,_=>by cases h
 | a :: l,x,hi,h,hp,hq=>by
  have hle:(l.filter q).length≤(l.filter p).length:=by
   clear h
   induction l with
   | nil=>simp
   | cons b l ih=>
    have ih:=ih fun y hy=>hi y (by rcases List.mem_cons.1 hy with rfl | g <;> simp_all)
    have hb:=hi b (by simp)
    simp only [List.filter_cons]
    cases hqb:q b <;> cases hpb:p b <;> simp_all <;> omega
  rcases List.mem_cons.1 h with rfl | h
  ·simp only [List.filter_cons,hp,hq]; simp; omega
  ·have:=filter_lt (l:=l) (fun y hy=>hi y (by simp [hy])) h hp hq
   have ha:=hi a (by simp)
   simp only [List.filter_cons]
   cases hqa:q a <;> cases hpa:p a <;> simp_all <;> omega
theorem unseen_lt {κ : Type} {ek : κ→Value} {l:List (ME κ)} {h h':Heap} {it c:Nat} {sn:Array Nat} {e:ME κ} (a:iterAt ek h it l c sn) (b:iterAt ek h' it l c (sn.push e.born)) (he:e∈l) (hn:e.born ∉ sn):unseen l h' it<unseen l h it:=by
 rcases a with⟨rfl,_⟩ | ⟨r,a,_⟩
 ·cases he
 rcases b with⟨rfl,_⟩ | ⟨r',b,_⟩
 ·cases he
 simp only [unseen,a,b]
 refine filter_lt (x:=e) ?_ he (by simpa using hn) (by simp)
 intro y _ hy
 simp at hy ⊢
 exact hy.1
theorem ok_born_inj {κ : Type} {l:List (ME κ)} {c:Nat} (ho:mapOk l c) {a b:ME κ} (ha:a∈l) (hb:b∈l) (e:a.born=b.born):a=b:=by
 have hn:=ho.2.1
 clear ho
 induction l with
 | nil=>cases ha
 | cons x l ih=>
  simp only [List.map_cons,List.nodup_cons] at hn
  rcases List.mem_cons.1 ha with rfl | ha' <;> rcases List.mem_cons.1 hb with rfl | hb'
  ·rfl
  ·exact (hn.1 (List.mem_map.2 ⟨b,hb',e.symm⟩)).elim
  ·exact (hn.1 (List.mem_map.2 ⟨a,ha',e⟩)).elim
  ·exact ih ha' hb' hn.2
end Go.VC
namespace Go.VC
def blkOf (a:Option Addr) (x:Nat):Prop:=∃ b o,a=some ⟨b,o,none⟩∧x=b
theorem not_blkOf_none {x:Nat} : ¬ blkOf none x:=fun ⟨_,_,h,_⟩=>by cases h
theorem blkOf_some {b o x:Nat} : blkOf (some ⟨b,o,none⟩) x↔x=b:=⟨fun ⟨_,_,h,e⟩=>by cases h; exact e,fun e=>⟨b,o,rfl,e⟩⟩
def Sl (h:Heap) (e sz:Nat) (a:Option Addr) (n c:Nat) (vs:List Value):Prop:=
 vs.length=n * sz∧((a=none∧n=0∧c=0) ∨
  ∃ b o cur,a=some ⟨b,o,none⟩∧h[b]? = some (.cells (List.toArray cur) e (0,0))∧n≤c∧o+c * sz≤cur.length∧(cur.drop o).take (n * sz)=vs)
theorem Sl.nil (h:Heap) (e sz:Nat):Sl h e sz none 0 0 []:=⟨by simp,.inl ⟨rfl,rfl,rfl⟩⟩
theorem Sl.blk_lt {h:Heap} {e sz:Nat} {a:Option Addr} {n c:Nat} {vs:List Value} (s:Sl h e sz a n c vs) {x:Nat} (hx:blkOf a x):x<h.size:=by
 obtain⟨b,o,rfl,rfl⟩:=hx
 rcases s.2 with⟨q,_⟩ | ⟨b',o',cur,q,hb,_⟩
 ·cases q
 ·cases q; exact lt_of_get hb
theorem Sl.keep {h h':Heap} {e sz:Nat} {a:Option Addr} {n c:Nat} {vs:List Value} (s:Sl h e sz a n c vs) (hk : ∀ x,x<h.size→blkOf a x→h'[x]? = h[x]?):Sl h' e sz a n c vs:=by
 refine⟨s.1,?_⟩
 rcases s.2 with q | ⟨b,o,cur,rfl,hb,q⟩
 ·exact .inl q
 ·exact .inr ⟨b,o,cur,rfl,by rw [hk b (lt_of_get hb) (blkOf_some.2 rfl)]; exact hb,q⟩
theorem Sl.ext {h h':Heap} {e sz:Nat} {a:Option Addr} {n c:Nat} {vs:List Value} (s:Sl h e sz a n c vs) (x:Ext h h'):Sl h' e sz a n c vs:=s.keep fun y hy _=>x.2 y hy
theorem Sl.ch {F:Nat→Prop} {h h':Heap} {e sz:Nat} {a:Option Addr} {n c:Nat} {vs:List Value} (s:Sl h e sz a n c vs) (x:Ch F h h') (hf : ∀ y,blkOf a y→¬ F y):Sl h' e sz a n c vs:=s.keep fun y hy hb=>x.2 y hy (hf y hb)
theorem Sl.get {h:Heap} {e sz:Nat} {a:Option Addr} {n c:Nat} {vs:List Value} (s:Sl h e sz a n c vs) {i:Nat} {v:Value} (hv:vs[i]? = some v) : ∃ b o,a=some ⟨b,o,none⟩∧cellH h b (o+i)=some v:=by
 rcases s.2 with⟨rfl,rfl,rfl⟩ | ⟨b,o,cur,rfl,hb,hn,hc,hq⟩
 ·have:=s.1
  simp at this; subst this; simp at hv
 ·refine⟨b,o,rfl,cell_lst hb ?_⟩
  rw [← hq,List.getElem?_take] at hv
  split at hv
  ·rw [List.getElem?_drop] at hv; exact hv
  ·cases hv
theorem Sl.first {h:Heap} {e sz:Nat} {a:Option Addr} {n c:Nat} {vs:List Value} (s:Sl h e sz a n c vs):firstH h sz n (.slice a n c)=some vs:=by
 rcases s.2 with⟨rfl,rfl,rfl⟩ | ⟨b,o,cur,rfl,hb,hn,hc,hq⟩
 ·have:=s.1
  simp at this; subst this; rfl
 ·simp only [firstH]
  have h1:n * sz≤c * sz:=Nat.mul_le_mul_right _ hn
  rw [ld_lst hb _ _ (by omega),hq]
theorem Sl.firstB {h:Heap} {e sz:Nat} {a:Option Addr} {n c:Nat} {vs:List Value} (s:Sl h e sz a n c vs):lenH (.slice a n c)=some n∧firstH h sz n (.slice a n c)=some vs:=⟨rfl,s.first⟩
theorem Sl.le {h:Heap} {e sz:Nat} {a:Option Addr} {n c:Nat} {vs:List Value} (s:Sl h e sz a n c vs):n≤c:=by
 rcases s.2 with⟨_,rfl,rfl⟩ | ⟨_,_,_,_,_,hn,_⟩
 ·exact Nat.le_refl _
 ·exact hn
theorem Sl.append {h:Heap} {e sz by_:Nat} {z:Value} {a:Option Addr} {n c m:Nat} {vs news:List Value} {K:Option Addr→Nat→Nat→Heap→Prop} (s:Sl h e sz a n c vs)
  (hm:news.length=m * sz) (h1 : ∀ v∈news,v.oneCell'=true) (hz:z.cells.size=sz) (hb:n+m≤1099511627776∧(n+m) * by_≤1099511627776∧by_≤1048576)
  (H : ∀ a' c' h',Sl h' e sz a' (n+m) c' (vs ++ news)→Ch (blkOf a) h h'→(∀ x,blkOf a' x→blkOf a x∨(h.size≤x∧x<h'.size))→K a' (n+m) c' h'):appH e sz by_ z a n c m news h K:=by
 refine⟨hb,fun hr=>?_,fun hg=>?_⟩
 ·rcases s.2 with⟨rfl,rfl,rfl⟩ | ⟨b,o,cur,rfl,hb,hn,hc,hq⟩
  ·right
   refine⟨rfl,H _ _ _ ?_ (Ch.refl _ _) fun x hx=>.inl hx⟩
   obtain rfl:m=0:=by omega
   refine⟨?_,.inl ⟨rfl,rfl,rfl⟩⟩
   have h1:=s.1
   simp at h1 hm
   subst h1 hm; simp
  ·left
   have h2:(n+m) * sz≤c * sz:=Nat.mul_le_mul_right _ hr
   rw [Nat.add_mul] at h2
   obtain⟨h',q1,q2,q3,q4⟩:=st_ex (o:=o+n * sz) news hb (by omega) h1
   refine⟨b,o,h',rfl,q1,H _ _ _ ⟨?_,.inr ⟨b,o,_,rfl,q2,hr,?_,?_⟩⟩ ⟨by omega,fun x _ hx=>q3 x fun ex=>hx (blkOf_some.2 ex)⟩ fun x hx=>.inl hx⟩
   ·rw [List.length_append,s.1,hm,Nat.add_mul]
   ·rw [spl_length (by omega)]; exact hc
   ·rw [Nat.add_mul]
    have hl:vs.length=n * sz:=s.1
    apply List.ext_getElem?
    intro i
    rw [List.getElem?_take,List.getElem?_drop,spl_get (by omega),List.getElem?_append,hl]
    by_cases hi:i<n * sz
    ·rw [if_pos (by omega),if_neg (by omega),if_pos hi,← hq,List.getElem?_take,if_pos hi,List.getElem?_drop]
    ·rw [if_neg hi]
     by_cases hi2:i<n * sz+m * sz
     ·rw [if_pos hi2,if_pos (by omega)]
      congr 1; omega
     ·rw [if_neg hi2,List.getElem?_eq_none (by omega)]
 ·refine⟨vs,s.first,fun cap hcap=>?_⟩
  have e1:((vs ++ news).toArray ++ Builtin.zeroCells z.cells (cap - (n+m)))=(vs ++ news ++ (Builtin.zeroCells z.cells (cap - (n+m))).toList).toArray:=by
   apply Array.toList_inj.1; simp
  rw [e1]
  obtain⟨p1,p2,p3⟩:=push_get (h:=h) (o:=.cells (vs ++ news ++ (Builtin.zeroCells z.cells (cap - (n+m))).toList).toArray e (0,0)) rfl
  have hl:(vs ++ news).length=(n+m) * sz:=by rw [List.length_append,s.1,hm,Nat.add_mul]
  refine H _ _ _ ⟨hl,.inr ⟨_,_,_,rfl,p1,hcap,?_,?_⟩⟩ p2.ch fun x hx=>?_
  ·rw [List.length_append,hl,Array.length_toList,size_zeroCells,hz]
   have:cap * sz=(n+m) * sz+(cap - (n+m)) * sz:=by rw [← Nat.add_mul]; congr 1; omega
   omega
  ·rw [List.drop_zero,← hl,List.take_left]
  ·right; rw [blkOf_some] at hx; omega
end Go.VC
