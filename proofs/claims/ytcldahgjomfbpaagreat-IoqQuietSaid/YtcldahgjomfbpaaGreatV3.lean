/- A library of this claim: rules that lead a call of a Go function to a formula over the heap alone, and laws on lists, maps and slices in the heap. No conditions. -/
import Derived.Test.YtcldahgjomfbpaaGreatV2
import Derived.Lib.Overlaps
import Derived.Laws.BytesArg
import Derived.Laws.BytesString
import Derived.Laws.StructEq
namespace Go.VC
def isStructT (P:Program) (t:TypeId):Bool:=match P.underlying t with | some (.struct _)=>true | _=>false
theorem isStructT_spec {P:Program} {t:TypeId} (h:isStructT P t=true) : ∃ fs,P.underlying t=some (.struct fs):=by
 unfold isStructT at h
 split at h
 ·rename_i fs hu; exact⟨fs,hu⟩
 ·cases h
def taH (t:TypeId) (z x v:Value) (ok:Bool):Prop:=
 (x = .iface t v∧ok=true)∨((x = .nilIface∨∃ t' u,x = .iface t' u∧t'≠t)∧v=z∧ok=false)
def clearH (sz n:Nat) (a:Option Addr) (zl:List Value) (h h':Heap):Prop:=
 ((a=none∨n=0)∧h'=h)∨∃ b o,a=some ⟨b,o,none⟩∧0<n∧zl.length=sz∧stCells b h o (zrep n zl)=some h'
def copyH (sz n m:Nat) (a:Option Addr) (src:Value) (h h':Heap):Prop:=
 ∃ cs,lenH src=some m∧firstH h sz (min m n) src=some cs∧((a=none∧h'=h)∨∃ b o,a=some ⟨b,o,none⟩∧stCells b h o cs=some h')
theorem zeroCells_zrep {z:Value} {l:List Value} (hz:z.cells=l.toArray) (n:Nat):(Builtin.zeroCells z.cells n).toList=zrep n l:=by
 rw [hz]
 unfold Builtin.zeroCells
 apply List.ext_getElem?
 intro i
 by_cases hi:i<n * l.length
 ·have hg:=zrep_get l n i hi
  have hl:0<l.length:=by
   rcases Nat.eq_zero_or_pos l.length with h | h
   ·rw [h,Nat.mul_zero] at hi; omega
   ·exact h
  have hm:i % l.length<l.length:=Nat.mod_lt _ hl
  rw [hg,Array.getElem?_toList]
  simp only [Array.getElem?_map,Array.getElem?_range,List.size_toArray,hi,if_true,Option.map_some]
  rw [List.getElem?_eq_getElem hm]
  congr 1
  rw [getElem!_pos _ _ (by simpa using hm)]
  simp
 ·rw [List.getElem?_eq_none (by simp; omega),List.getElem?_eq_none (by simp [zrep_length]; omega)]
section
variable {P:Program} {f:Fr} {h:Heap} {K:Value→Heap→Prop} {ty:TypeId}
theorem op_typeAssert {t xt:TypeId} {x:Operand} {v:Value} (hu:isStructT P t=true) (hx:ev f x = .iface t v) (H:K v h):opH P (.typeAssert x xt t false) ty f K h:=by
 obtain⟨fs,hu⟩:=isStructT_spec hu
 refine opH_of_run (fun w _=>?_) H
 simp [execOp,bareOp,hx,Instr.typeAssert,run_underlying hu]
theorem op_typeAssert_ok {t xt:TypeId} {x:Operand} {z u v:Value} {ok:Bool} (hu:isStructT P t=true) (hz:zeroOf P t=some z) (hx:ev f x=u) (ht:taH t z u v ok) (H:K (.tuple #[v,.bool ok]) h):opH P (.typeAssert x xt t true) ty f K h:=by
 obtain⟨fs,hu⟩:=isStructT_spec hu
 obtain⟨i,hi,hiz⟩:=Option.bind_eq_some_iff.1 hz
 refine opH_of_run (fun w _=>?_) H
 have hzv:(zeroValue t).run P w = .ok z w:=by simp [zeroValue,typeInfo,hi,hiz]
 rcases ht with⟨rfl,rfl⟩ | ⟨rfl | ⟨t',u',rfl,hne⟩,rfl,rfl⟩
 ·simp [execOp,bareOp,hx,Instr.typeAssert,run_underlying hu]
 ·simp [execOp,bareOp,hx,Instr.typeAssert,run_underlying hu,hzv]
 ·simp [execOp,bareOp,hx,Instr.typeAssert,run_underlying hu,hzv,hne]
theorem op_clear {t e:TypeId} {x:Operand} {sz by_ n c:Nat} {z:Value} {zl:List Value} {a:Option Addr} {h':Heap} (hr:rowInfo P t=some (e,sz,by_,z)) (hz:z.cells=zl.toArray) (hx:ev f x = .slice a n c)
  (hc:clearH sz n a zl h h') (H:K (.tuple #[]) h'):opH P (.call ⟨.builtin .clear,#[x],#[t]⟩) ty f K h:=by
 obtain⟨hu,i,hi,rfl,rfl,hiz⟩:=rowInfo_spec hr
 intro w hw
 subst hw
 have hzv:(zeroValue e).run P w = .ok z w:=by simp [zeroValue,typeInfo,hi,hiz]
 rcases hc with⟨hn,rfl⟩ | ⟨b,o,rfl,hn,hzl,hs⟩
 ·have hop:((execOp (ev f) (bareOp (.call ⟨.builtin .clear,#[x],#[t]⟩) ty)).run P w) = .ok (.value (.tuple #[])) w:=by
   rcases hn with rfl | rfl
   ·simp [execOp,bareOp,resolve,invoke,builtin,hx,Builtin.clear_,run_underlying hu]
   ·cases a <;> simp [execOp,bareOp,resolve,invoke,builtin,hx,Builtin.clear_,run_underlying hu]
  rw [hop]; exact⟨Same.refl w,H⟩
 ·obtain⟨m,rfl⟩ : ∃ m,n=m+1:=⟨n - 1,by omega⟩
  obtain⟨w',hrun,hsame,hh⟩:=run_storeCells (P:=P) b (zrep (m+1) zl) o 0 w h' (by simpa using hs)
  subst hh
  have hop:((execOp (ev f) (bareOp (.call ⟨.builtin .clear,#[x],#[t]⟩) ty)).run P w) = .ok (.value (.tuple #[])) w':=by
   simp [execOp,bareOp,resolve,invoke,builtin,hx,Builtin.clear_,run_underlying hu,hzv,zeroCells_zrep hz,hrun]
  rw [hop]; exact⟨hsame,H⟩
theorem op_copyH {t t' e:TypeId} {x y:Operand} {sz n c m:Nat} {a:Option Addr} {src:Value} {h':Heap} (he:elemInfo P t=some (none,e,sz)) (hx:ev f x = .slice a n c) (hy:ev f y=src)
  (hc:copyH sz n m a src h h') (H:K (.int .i64 (min m n:Nat)) h'):opH P (.call ⟨.builtin .copy,#[x,y],#[t,t']⟩) ty f K h:=by
 obtain⟨cs,hm,hf,⟨rfl,rfl⟩ | ⟨b,o,rfl,hs⟩⟩:=hc
 ·exact op_copy_nil he hx hy hm hf H
 ·exact op_copy he hx hy hm hf hs H
end
end Go.VC
namespace Go.VC
def ovH (h:Heap) (a b:Option Addr):Prop:=
 ∃ ab ao bb bo ca cb ta tb,a=some ⟨ab,ao,none⟩∧b=some ⟨bb,bo,none⟩∧ab≠bb∧h[ab]? = some (.cells ca ta (0,0))∧h[bb]? = some (.cells cb tb (0,0))∧0<cb.size
def isBlk (h:Heap) (b:Nat):Prop:=∃ c t z,h[b]? = some (.cells c t z)
def MarkH (b:Nat) (h h1:Heap):Prop:=
 h1.size=h.size∧(∀ x,x≠b→h1[x]? = h[x]?)∧∀ c t z,h[b]? = some (.cells c t z)→∃ z',h1[b]? = some (.cells c t z')
section
variable {P:Program} {f:Fr} {h:Heap} {K:Value→Heap→Prop} {ty:TypeId}
theorem op_overlaps {g:FuncId} {t e tr:TypeId} {x y:Operand} {sz n c m d:Nat} {a b:Option Addr} {ts:Array TypeId} (hcall : ∀ args w,(callFunc g args).run P w=((Extern.SlicesOverlaps.overlaps #[t,t] #[tr] args).run P w).andThen fun v w=>.ok (.value v) w)
  (hu:P.underlying t=some (.slice e)) (hs:sizeT P e=some sz) (hx:ev f x = .slice a n c) (hy:ev f y = .slice b m d) (ho:ovH h a b) (H:K (.bool false) h) :
  opH P (.call ⟨.value (.func g),#[x,y],ts⟩) ty f K h:=by
 refine opH_of_run (fun w hw=>?_) H
 subst hw
 have hov:(Extern.SlicesOverlaps.overlaps #[t,t] #[tr] #[.slice a n c,.slice b m d]).run P w = .ok (.bool false) w:=by
  obtain⟨ab,ao,bb,bo,ca,cb,ta,tb,rfl,rfl,hne,h1,h2,h3⟩:=ho
  exact Lib.run_overlaps_apart w t tr e hu sz (fun w=>run_sizeOf hs w) ⟨ab,ao,none⟩ ⟨bb,bo,none⟩ n c m d hne ta tb ca.size cb.size (by simp [World.shape?,h1]) (by simp [World.shape?,h2]) (by omega) (by simp [World.frozen?,h1]) (by simp [World.frozen?,h1])
 have e1 : #[x,y].map (ev f) = #[.slice a n c,.slice b m d]:=by simp [hx,hy]
 simp only [execOp,bareOp,resolve,Deferred.ofValue,ev,pure_bind,invoke,e1,Array.empty_append,Array.append_empty,hcall,hov,Result.andThen_ok]
theorem ld_get {h:Heap} {b:Nat} : ∀ {n o:Nat} {vs:List Value},ldCells h b o n=some vs→vs.length=n∧∀ i<n,cellH h b (o+i)=vs[i]?
 | 0,o,vs,e=>by simp [ldCells] at e; subst e; exact⟨rfl,fun i hi=>by omega⟩
 | n+1,o,vs,e=>by
  simp only [ldCells] at e
  split at e
  ·rename_i v hc
   obtain⟨us,hu,rfl⟩:=Option.map_eq_some_iff.1 e
   obtain⟨h1,h2⟩:=ld_get hu
   refine⟨by simp [h1],fun i hi=>?_⟩
   cases i with
   | zero=>exact hc
   | succ i=>rw [List.getElem?_cons_succ,← h2 i (by omega)]; congr 1; omega
  ·cases e
theorem op_b2s {s d e:TypeId} {x:Operand} {a:Option Addr} {n c:Nat} {xs:List Int} (hx:ev f x = .slice a n c) (hs:P.underlying s=some (.slice e)) (he:P.underlying e=some (.int .u8)) (hd:P.underlying d=some .string)
  (hf:firstH h 1 n (.slice a n c)=some (xs.map (Value.int .u8))) (H:K (.string (strOfNums xs)) h):opH P (.convert s d x) ty f K h:=by
 refine opH_of_run (fun w hw=>?_) H
 subst hw
 have hr:(convert s d (.slice a n c)).run P w = .ok (.string (strOfNums xs)) w:=by
  cases a with
  | none=>
   simp only [firstH,Option.some.injEq] at hf
   have:xs = []:=by cases xs <;> simp_all
   subst this
   exact run_convert_bytes_nil w s e hs he n c d hd
  | some q=>
   have h1:=trivial
   obtain⟨b,o,sp⟩:=q
   cases sp with
   | some z=>
    simp only [firstH] at hf
    split at hf
    ·rename_i h0
     subst h0
     have:xs = []:=by cases xs <;> simp_all
     subst this
     rw [run_convert_bytes_string w s d e _ 0 c hs he hd]
     simp [Conv.bytesToString,loadCells,loadCellsFrom]
     rfl
    ·cases hf
   | none=>
    clear h1
    simp only [firstH,Nat.mul_one] at hf
    obtain⟨h1,h2⟩:=ld_get hf
    refine run_convert_bytes_arg w s e hs he b o n c xs (by simpa using h1) (fun i hi=>?_) d hd
    rw [cell_of,h2 i hi]
    have hi':i<xs.length:=by simp at h1; omega
    simp [hi']
 simp [execOp,bareOp,hx,hr]
theorem op_mark {t e:TypeId} {x:Operand} {b o n c:Nat} (hx:ev f x = .slice (some ⟨b,o,none⟩) n c) (hu:P.underlying t=some (.slice e)) (he:P.underlying e=some (.int .u8)) (hb:isBlk h b)
  (H : ∀ h1,MarkH b h h1→K (.slice (some ⟨b,o,none⟩) n c) h1):opH P (.convert t t x) ty f K h:=by
 obtain⟨cs,ct,z,hb⟩:=hb
 intro w hw
 subst hw
 have hr:(convert t t (.slice (some ⟨b,o,none⟩) n c)).run P w = .ok (.slice (some ⟨b,o,none⟩) n c) (w.freeze ⟨b,cs.size,none⟩ 1):=by
  simp [convert,run_underlying hu,run_underlying he,markStringish,shape,World.shape?,hb,freeze,Sem.run]
 have hs:Same w (w.freeze ⟨b,cs.size,none⟩ 1):=by
  unfold World.freeze; split
  ·exact Same.refl w
  ·exact⟨rfl,rfl,rfl⟩
 have hm:MarkH b w.heap (w.freeze ⟨b,cs.size,none⟩ 1).heap:=by
  unfold World.freeze
  rw [if_neg (by decide)]
  refine⟨by simp,fun x hne=>?_,fun c' t' z' hb'=>?_⟩
  ·simp [Array.getElem?_modify,Ne.symm hne]
  ·rw [hb] at hb'
   cases hb'
   simp [Array.getElem?_modify,hb]
 simp only [execOp,bareOp,hx,Sem.run_bind,hr,Result.andThen_ok,Sem.run_pure,opUpon]
 exact⟨hs,H _ hm⟩
theorem op_eqstr {t u:TypeId} {x y:Operand} {a b:ByteArray} (ht:P.underlying t=some .string) (hx:ev f x = .string a) (hy:ev f y = .string b) (H:K (.bool (decide (a=b))) h):opH P (.binOp .eql t x y u) ty f K h:=by
 have hk:=ht
 refine opH_of_run (fun w _=>?_) H
 have e:(a.toList == b.toList)=decide (a=b):=by
  by_cases h:a=b
  ·subst h; simp
  ·have:a.toList≠b.toList:=fun q=>h (by
    rw [ByteArray.toList_eq,ByteArray.toList_eq] at q
    exact ByteArray.ext (Array.toList_inj.1 q))
   simp [h,this]
 simp [execOp,bareOp,hx,hy,binOp,Op.stringOp,eqGuard,e]
theorem op_appendZ {t t' e:TypeId} {x y:Operand} {sz by_ n c m:Nat} {z:Value} {zl:List Value} {base:Option Addr} {k k':IntKind} (hr:rowInfo P t=some (e,sz,by_,z)) (ht':P.underlying t'=some (.int k')) (hz:z.cells=zl.toArray) (hl:zl.length=sz)
  (hx:ev f x = .slice base n c) (hy:ev f y = .int k (m:Int))
  (A:appH e sz by_ z base n c m (zrep m zl) h (fun a n c h'=>K (.slice a n c) h')):opH P (.call ⟨.builtin .append,#[x,y],#[t,t']⟩) ty f K h:=by
 obtain⟨⟨hlen,hfit,hby⟩,H0,H1⟩:=A
 obtain⟨hu,i,hi,hsz,rfl,hiz⟩:=rowInfo_spec hr
 intro w hw
 subst hw
 have hs1:=run_sizeOf (P:=P) (t:=e) (n:=i.size) (by simp [sizeT,hi]) w
 have hti : ∀ w,(typeInfo e).run P w = .ok i w:=fun w=>by simp [typeInfo,hi]
 have hzv : ∀ w,(zeroValue e).run P w = .ok z w:=fun w=>by simp [zeroValue,typeInfo,hi,hiz]
 have hwm:IntKind.i64.wrap (m:Int)=m:=wrap_i64 (by omega)
 have hneg : ¬ ((m:Int)<0):=by omega
 have hmb:m * i.bytes≤1099511627776:=Nat.le_trans (Nat.mul_le_mul_right _ (Nat.le_add_left m n)) hfit
 have h48 : ¬ ((m:Int) * (i.bytes:Int) > 2 ^ 48):=by
  rw [← Int.natCast_mul]; omega
 have h48' : ¬ (281474976710656<(m:Int) * (i.bytes:Int)):=by
  rw [← Int.natCast_mul]; omega
 have hai : ∀ w,(asInt (.int k (m:Int))).run P w = .ok (m:Int) w:=fun w=>by simp [asInt,asIntOf]
 have e1:Builtin.zeroCells z.cells m=(zrep m zl).toArray:=by
  apply Array.toList_inj.1; rw [zeroCells_zrep hz]
 have hl':=fun w=>hai w
 simp only [execOp,bareOp,resolve,invoke,builtin,pure_bind,List.map_toArray,List.map_cons,List.map_nil,hx,hy,Builtin.append_,List.getElem?_toArray,List.getElem?_cons_zero,List.getElem?_cons_succ]
 have h0:m * i.size=0→zrep m zl = []:=fun h0=>List.length_eq_zero_iff.1 (by rw [zrep_length,hl,← hsz]; exact h0)
 by_cases hroom:n+m≤c
 ·rcases H0 hroom with⟨b,o,h',rfl,hst,hK⟩ | ⟨rfl,hK⟩
  ·rw [← hsz] at hst
   obtain⟨w',hrun,hsame,hh⟩:=run_storeCells (P:=P) b (zrep m zl) (o+n * i.size) 0 w h' (by simpa using hst)
   subst hh
   have hadd:Addr.add ⟨b,o,none⟩ (n * i.size)=⟨b,o+n * i.size,none⟩:=Addr.add_lit _ _ _
   by_cases hm0:m * i.size=0
   ·have hz0:=h0 hm0
    rw [hz0] at hrun
    simp [run_underlying hu,run_underlying ht',hs1,hti,hai,hwm,hneg,h48',hroom,hm0,hadd,hrun,opUpon,hsame,hK]
   ·simp [run_underlying hu,run_underlying ht',hs1,hti,hai,hwm,hneg,h48',hroom,hm0,hadd,hzv,e1,hrun,opUpon,hsame,hK]
  ·by_cases hm0:m * i.size=0
   ·simp [run_underlying hu,run_underlying ht',hs1,hti,hai,hwm,hneg,h48',hroom,hm0,opUpon,Same.refl w,hK]
   ·simp [run_underlying hu,run_underlying ht',hs1,hti,hai,hwm,hneg,h48',hroom,hzv,opUpon,Same.refl w,hK]
 ·obtain⟨olds,ho,hK⟩:=H1 (by omega)
  rw [← hsz] at ho
  have h1 : ¬ (((n+m:Nat):Int) > IntKind.i64.max):=by simp [IntKind.max,IntKind.signed,IntKind.bits]; omega
  have hnc:=nextslicecap_le (k:=n+m) (c:=c) (by omega)
  have h2 : ¬ (Builtin.nextslicecap (n+m) c * i.bytes > 2 ^ 48):=by
   have:Builtin.nextslicecap (n+m) c * i.bytes≤(2 * (n+m)+192) * i.bytes:=Nat.mul_le_mul_right _ hnc
   have e1:(2 * (n+m)+192) * i.bytes=2 * ((n+m) * i.bytes)+192 * i.bytes:=by rw [Nat.add_mul,Nat.mul_assoc]
   omega
  have hq:(Question.appendCap (n+m) c e).forced=false:=rfl
  let cap:=(Question.appendCap (n+m) c e).cut (w.tape w.drawn (Question.appendCap (n+m) c e))
  have hcap:n+m≤cap:=by show _≤(n+m)+_; omega
  let w1:World:={ w with drawn:=w.drawn+1 }
  have hch:(choose (.appendCap (n+m) c e)).run P w = .ok cap w1:=by simp [choose,Sem.run,hq,cap,w1]
  have ho1:=run_firstH (P:=P) w1 (v:=.slice base n c) (l:=olds) (m:=n) (sz:=i.size) ho
  have e2:olds.toArray ++ (zrep m zl).toArray ++ Builtin.zeroCells z.cells (cap - (n+m))=(olds ++ zrep m zl).toArray ++ Builtin.zeroCells z.cells (cap - (n+m)):=by simp
  have hk:=hK cap hcap
  rw [← e2] at hk
  by_cases hm0:m * i.size=0
  ·have hz0:=h0 hm0
   rw [hz0] at hk
   simp only [Sem.run_bind,run_underlying hu,run_underlying ht',Result.andThen_ok,hs1,hti,hai,hwm,hneg,h48,if_false,Bool.not_true,Bool.false_eq_true,if_true,hroom,true_or,and_true,h1,h2,hch,run_askRoom,ho1,hzv,newRow,run_newObj,Sem.run_pure,opUpon,Int.toNat_natCast,hm0]
   exact⟨⟨rfl,rfl,rfl⟩,hk⟩
  ·simp only [Sem.run_bind,run_underlying hu,run_underlying ht',Result.andThen_ok,hs1,hti,hai,hwm,hneg,h48,if_false,Bool.not_true,Bool.false_eq_true,if_true,hroom,true_or,and_true,h1,h2,hch,run_askRoom,ho1,hzv,newRow,run_newObj,Sem.run_pure,opUpon,Int.toNat_natCast,hm0,e1]
   exact⟨⟨rfl,rfl,rfl⟩,hk⟩
end
end Go.VC
namespace Go.VC
def lastQ (W:Act→World→Prop) (Q:Exit→Act→World→Prop):Exit→Act→World→Prop
 | .normal=>W
 | e=>Q e
theorem lets_last {W:Act→World→Prop} {Q:Exit→Act→World→Prop} (h:LetsOut (lastQ W Q)):LetsOut Q:=h
theorem wp_last {P:Program} {o:Oper} {a:Act} {w:World} {K:Act→World→Prop} {W:Act→World→Prop} {Q:Exit→Act→World→Prop} (h:o.wp P a w K (lastQ W Q)):o.wp P a w K Q:=by
 unfold Oper.wp at *
 generalize (execOp a.eval o).run P w=r at *
 cases r with
 | halt x w'=>exact h
 | ok x w'=>cases x <;> exact h
def lastOk (ops:List Oper) (oL:Oper):Bool:=
 (List.range ops.length).all (fun i=>(predsOf oL).contains i) && (predsOf oL).all (fun x=>Nat.blt x ops.length) && ops.zipIdx.all (fun (o,i)=>o.guard.isNone && (predsOf o).all fun e=>Nat.blt e i)
theorem lastOk_at {ops:List Oper} {oL:Oper} (h:lastOk ops oL=true):(∀ i<ops.length,i∈predsOf oL)∧(∀ x∈predsOf oL,x<ops.length)∧∀ i o,ops[i]? = some o→o.guard=none∧∀ e∈predsOf o,e<i:=by
 unfold lastOk at h
 rw [Bool.and_eq_true,Bool.and_eq_true] at h
 refine⟨fun i hi=>by simpa using List.all_eq_true.1 h.1.1 i (List.mem_range.2 hi),fun x hx=>by simpa [Nat.blt_eq] using List.all_eq_true.1 h.1.2 x hx,fun i o ho=>?_⟩
 have hmem:(o,i)∈ops.zipIdx:=by rw [List.mk_mem_zipIdx_iff_getElem?]; exact ho
 have:=List.all_eq_true.1 h.2 (o,i) hmem
 rw [Bool.and_eq_true] at this
 refine⟨by simpa using this.1,fun e he=>?_⟩
 have h2:=List.all_eq_true.1 this.2 e he
 simpa [Nat.blt_eq] using h2
section
variable {P:Program} {ops:List Oper} {oL:Oper}
theorem preds_iff {o:Oper} {listed:Array Bool} : (∀ e∈o.after,Region.binds .any e=true→listed.getD e.on false=true)↔∀ x∈predsOf o,listed.getD x false=true:=by
 unfold predsOf
 constructor
 ·intro h x hx
  obtain⟨e,he,rfl⟩:=List.mem_map.1 hx
  obtain⟨h1,h2⟩:=List.mem_filter.1 he
  exact h e (by simpa using h1) h2
 ·intro h e he hb
  exact h e.on (List.mem_map.2 ⟨e,List.mem_filter.2 ⟨by simpa using he,hb⟩,rfl⟩)
theorem getD_push_lt {l:Array Bool} {i:Nat} (h:i<l.size):(l.push false).getD i false=l.getD i false:=by
 rw [Array.getD_eq_getD_getElem?,Array.getD_eq_getD_getElem?,Array.getElem?_push_lt h,Array.getElem?_eq_getElem h]
theorem getD_push_ready {l:Array Bool} {i:Nat} (h:i<l.size):(l.push false).getD i true=l.getD i true:=by
 rw [Array.getD_eq_getD_getElem?,Array.getD_eq_getD_getElem?,Array.getElem?_push_lt h,Array.getElem?_eq_getElem h]
theorem wpAny_last {Q:Exit→Act→World→Prop} (hL:lastOk ops oL=true) (hg:oL.guard=none) : ∀ (fuel:Nat) (listed:Array Bool) (a:Act) (w:World),listed.size=ops.length →
  wpAny P .any ops.toArray (lastQ (fun a w=>oL.wp P a w (Q .normal) Q) Q) fuel listed a w→wpAny P .any (ops ++ [oL]).toArray Q (fuel+1) (listed.push false) a w:=by
 obtain⟨hp,hpL,ho⟩:=lastOk_at hL
 have hlast:(ops ++ [oL])[ops.length]? = some oL:=by simp
 have hopi : ∀ i,i<ops.length→(ops ++ [oL])[i]? = ops[i]?:=fun i hi=>List.getElem?_append_left hi
 have hready : ∀ (listed:Array Bool) (i:Nat),listed.size=ops.length→i<ops.length→(i∈Region.ready .any (ops ++ [oL]).toArray (listed.push false)↔i∈Region.ready .any ops.toArray listed):=by
  intro listed i hsz hi
  rw [mem_ready,mem_ready]
  have e1:(ops ++ [oL]).toArray[i]? = ops.toArray[i]?:=by simp [List.getElem?_append_left hi]
  rw [getD_push_ready (l:=listed) (by omega),e1]
  constructor
  ·rintro⟨h1,o,h2,h3⟩
   refine⟨h1,o,h2,preds_iff.2 fun x hx=>?_⟩
   have:=preds_iff.1 h3 x hx
   have hlt:=(ho i o (by simpa using h2)).2 x hx
   rwa [getD_push_lt (by omega)] at this
  ·rintro⟨h1,o,h2,h3⟩
   refine⟨h1,o,h2,preds_iff.2 fun x hx=>?_⟩
   have:=preds_iff.1 h3 x hx
   have hlt:=(ho i o (by simpa using h2)).2 x hx
   rwa [getD_push_lt (by omega)]
 have hall : ∀ (listed:Array Bool),listed.size=ops.length→Region.ready .any ops.toArray listed = []→∀ i,i<ops.length→listed.getD i false=true:=by
  intro listed hsz hr i
  induction i using Nat.strongRecOn with
  | _ i ih=>
   intro hi
   cases hl:listed.getD i false with
   | true=>rfl
   | false=>
    exfalso
    have hoi:ops[i]? = some ops[i]:=List.getElem?_eq_getElem hi
    have hmem:i∈Region.ready .any ops.toArray listed:=by
     rw [mem_ready]
     have hlt:i<listed.size:=by omega
     refine⟨?_,ops[i],by simp,preds_iff.2 fun x hx=>?_⟩
     ·rw [Array.getD_eq_getD_getElem?,Array.getElem?_eq_getElem hlt] at hl ⊢; simpa using hl
     ·have:=(ho i _ hoi).2 x hx
      exact ih x this (by omega)
    rw [hr] at hmem; cases hmem
 have hend : ∀ (fuel:Nat) (listed:Array Bool) (a:Act) (w:World),listed.size=ops.length→Region.ready .any ops.toArray listed = []→oL.wp P a w (Q .normal) Q→wpAny P .any (ops ++ [oL]).toArray Q (fuel+1) (listed.push false) a w:=by
  intro fuel listed a w hsz hr hw
  have hA:=hall listed hsz hr
  have hmem:ops.length∈Region.ready .any (ops ++ [oL]).toArray (listed.push false):=by
   rw [mem_ready]
   refine⟨by rw [Array.getD_eq_getD_getElem?]; simp [← hsz],oL,by simp,preds_iff.2 fun x hx=>?_⟩
   by_cases hxl:x<ops.length
   ·rw [getD_push_lt (by omega)]; exact hA x hxl
   ·exact absurd (hpL x hx) hxl
  have hnot : ∀ (l':Array Bool),l'.size=ops.length+1→(∀ i,i<ops.length+1→l'.getD i true=true)→Region.ready .any (ops ++ [oL]).toArray l' = []:=by
   intro l' hz h
   apply List.eq_nil_iff_forall_not_mem.2
   intro i hi
   obtain⟨h1,o,h2,-⟩:=mem_ready.1 hi
   have hlt:=(List.getElem?_eq_some_iff.1 (by simpa using h2:(ops ++ [oL])[i]? = some o)).1
   rw [h i (by simpa using hlt)] at h1; cases h1
  have hset:Region.ready .any (ops ++ [oL]).toArray ((listed.push false).setIfInBounds ops.length true) = []:=by
   refine hnot _ (by simp [hsz]) fun i hi=>?_
   rw [Array.getD_eq_getD_getElem?,Array.getElem?_setIfInBounds]
   by_cases hin:ops.length=i
   ·subst hin; simp [hsz]
   ·rw [if_neg hin,Array.getElem?_push_lt (by omega)]
    have:=hA i (by omega)
    rw [Array.getD_eq_getD_getElem?,Array.getElem?_eq_getElem (by omega)] at this
    simpa using this
  refine⟨fun h=>(by rw [h] at hmem; cases hmem),fun i hi=>?_⟩
  have hin:i=ops.length:=by
   obtain⟨h1,o,h2,-⟩:=mem_ready.1 hi
   have hlt:=(List.getElem?_eq_some_iff.1 (by simpa using h2:(ops ++ [oL])[i]? = some o)).1
   rcases Nat.lt_or_ge i ops.length with h | h
   ·have:=(hready listed i hsz h).1 hi
    rw [hr] at this; cases this
   ·simp at hlt; omega
  subst hin
  have hwant : ∀ v,Region.wanted oL v=true:=fun v=>by simp [Region.wanted,hg]
  unfold wpOp
  simp only [List.getElem?_toArray,hlast,hwant,if_true]
  refine .inl (Oper.wp_mono (o:=oL) (fun a' w' hq=>?_) hw)
  cases fuel with
  | zero=>exact⟨hset,hq⟩
  | succ fuel=>exact⟨fun _=>hq,fun i hi=>by rw [hset] at hi; cases hi⟩
 intro fuel
 induction fuel with
 | zero=>
  intro listed a w hsz H
  exact hend 0 listed a w hsz H.1 H.2
 | succ fuel ih=>
  intro listed a w hsz H
  by_cases hr:Region.ready .any ops.toArray listed = []
  ·exact hend (fuel+1) listed a w hsz hr (H.1 hr)
  ·have hex : ∃ i,i<ops.length∧i∈Region.ready .any ops.toArray listed:=by
    obtain⟨i,hi⟩:=List.exists_mem_of_ne_nil _ hr
    obtain⟨h1,o,h2,-⟩:=mem_ready.1 hi
    exact⟨i,(List.getElem?_eq_some_iff.1 (by simpa using h2:ops[i]? = some o)).1,hi⟩
   obtain⟨i0,hi0,hm0⟩:=hex
   refine⟨fun h=>?_,fun i hi=>?_⟩
   ·have:=(hready listed i0 hsz hi0).2 hm0
    rw [h] at this; cases this
   ·obtain⟨h1,o,h2,h3⟩:=mem_ready.1 hi
    have h2':(ops ++ [oL])[i]? = some o:=by simpa using h2
    have hlt:=(List.getElem?_eq_some_iff.1 h2').1
    rcases Nat.lt_or_ge i ops.length with h | h
    ·have hm:=(hready listed i hsz h).1 hi
     have H2:=H.2 i hm
     have hpush:(listed.push false).setIfInBounds i true=(listed.setIfInBounds i true).push false:=by
      apply Array.ext_getElem?
      intro j
      simp only [Array.getElem?_setIfInBounds,Array.getElem?_push,Array.size_setIfInBounds,Array.size_push]
      by_cases hj:i=j
      ·subst hj
       have e1 : ¬ i=listed.size:=by omega
       have e2:i<listed.size:=by omega
       have e3:i<listed.size+1:=by omega
       simp [e1,e2,e3]
      ·simp [hj]
     rw [hopi i h] at h2'
     have hwant : ∀ v,Region.wanted o v=true:=fun v=>by simp [Region.wanted,(ho i o h2').1]
     unfold wpOp at H2 ⊢
     simp only [List.getElem?_toArray,hopi i h,h2',hwant,if_true] at H2 ⊢
     rw [hpush]
     rcases H2 with H2 | ⟨H2,H3⟩
     ·exact .inl (wp_last (Oper.wp_mono (o:=o) (fun a' w' hk=>ih _ a' w' (by simp [hsz]) hk) H2))
     ·exact .inr ⟨H2,lets_last H3⟩
    ·exfalso
     have hin:i=ops.length:=by simp at hlt; omega
     subst hin
     rw [hlast] at h2'; cases h2'
     have hA : ∀ j,j<ops.length→listed.getD j false=true:=fun j hj=>by
      have:=preds_iff.1 h3 j (hp j hj)
      rwa [getD_push_lt (by omega)] at this
     obtain⟨g1,o',g2,-⟩:=mem_ready.1 hm0
     have:=hA i0 hi0
     rw [Array.getD_eq_getD_getElem?,Array.getElem?_eq_getElem (by omega)] at this g1
     simp at this g1
     rw [this] at g1; cases g1
end
section
variable {P:Program} {n:Nat} {c:Cert} {f:Fr} {Q:Post} {h:Heap}
theorem wpf_draw_last {id:Nat} (ops:List Oper) (dst:Option Nat) (op:Op) (ty:TypeId) (pos:String) (after:Array Edge) (c:Cert) (m:Nat) (vals:List Value) (hc:certOk ops c=true) (hd:dstsOk n ops=true) (hdL:dstOk n dst=true) (hL:lastOk ops ⟨dst,op,ty,pos,after,none⟩=true) (hm:P.follows .mixedOrders=true)
  (H:Plan P ops c f (fun f' h'=>opH P op ty f' (fun v h''=>Q .normal (fputO f' dst v) h'') h') m [] vals h):wpf P n (.region id (ops ++ [(⟨dst,op,ty,pos,after,none⟩:Oper)]).toArray true) Q f h:=by
 intro a w r hw
 refine wp_region_any hm ?_
 have e1:(Array.replicate (ops ++ [(⟨dst,op,ty,pos,after,none⟩:Oper)]).toArray.size false)=(Array.replicate ops.length false).push false:=by
  simp [Array.replicate_succ]
 have e2:(ops ++ [(⟨dst,op,ty,pos,after,none⟩:Oper)]).toArray.size=ops.length+1:=by simp
 rw [e1,e2]
 refine wpAny_last hL rfl ops.length _ _ _ (by simp) ?_
 have hz : ∀ i,(Array.replicate ops.length false).getD i false=false:=by
  intro i
  rw [Array.getD_eq_getD_getElem?]
  cases hq:(Array.replicate ops.length false)[i]? with
  | none=>rfl
  | some b=>
   have:=Array.mem_of_getElem? hq
   rw [Array.mem_replicate] at this
   simp [this.2]
 have hsame:Same w { w with drawn:=w.drawn+1 }:=⟨rfl,rfl,rfl⟩
 refine game (P:=P) (ops:=ops) (n:=n) (c:=c) (f:=f) (K:=fun f' h'=>opH P op ty f' (fun v h''=>Q .normal (fputO f' dst v) h'') h') (w0:=w) hc (dstsOk_spec hd) (Q':=lastQ (fun a w'=>Oper.wp P ⟨dst,op,ty,pos,after,none⟩ a w' (fun a' w''=>Same w w''∧∃ f',Rel n a' f'∧Q .normal f' w''.heap) (fun e a' w''=>Same w w''∧∃ f',Rel n a' f'∧Q e f' w''.heap)) (fun e a' w''=>Same w w''∧∃ f',Rel n a' f'∧Q e f' w''.heap)) (fun a' w' f' hs r' hK=>?_)
  ops.length (Array.replicate ops.length false) [] m vals f a _ hsame r ?_ ?_
 ·exact opH.wp (o:=⟨dst,op,ty,pos,after,none⟩) hK r' rfl hs fun v w'' hs' hQ=>⟨hs',_,r'.put hdL v,hQ⟩
 ·refine⟨by simp,fun i o _ hi=>?_,fun l _ _=>?_,(fun l hl=>by cases hl),fun t=>?_,?_⟩
  ·rw [hz] at hi; cases hi
  ·rw [hz]; simp
  ·cases dstAt ops t with
   | none=>rfl
   | some j=>simp only [hz]; rfl
  ·show Plan P ops c f _ m [] vals w.heap
   rw [hw]; exact H
 ·have:=List.length_filter_le (fun i=>!(Array.replicate ops.length false).getD i false) (List.range ops.length)
  simpa using this
theorem wpf_draw_take {id:Nat} {all:List Oper} (k:Nat) {dst:Option Nat} {op:Op} {ty:TypeId} {pos:String} {after:Array Edge} (hk:all=all.take k ++ [(⟨dst,op,ty,pos,after,none⟩:Oper)]) (c:Cert) (m:Nat) (vals:List Value) (hc:certOk (all.take k) c=true) (hd:dstsOk n (all.take k)=true) (hdL:dstOk n dst=true)
  (hL:lastOk (all.take k) ⟨dst,op,ty,pos,after,none⟩=true) (hm:P.follows .mixedOrders=true)
  (H:Plan P (all.take k) c f (fun f' h'=>opH P op ty f' (fun v h''=>Q .normal (fputO f' dst v) h'') h') m [] vals h):wpf P n (.region id all.toArray true) Q f h:=by
 rw [hk]
 exact wpf_draw_last _ _ _ _ _ _ c m vals hc hd hdL hL hm H
theorem wpf_forget {code:Code} (H : ∀ f',f'=f→wpf P n code Q f' h):wpf P n code Q f h:=H f rfl
end
end Go.VC
namespace Go.VC
def fillL (pl:List (Nat × Nat)) (cells:List Value):List (Nat × Value)→Option (List Value)
 | []=>some cells
 | (i,v) :: rest=>match pl[i]? with
  | none=>none
  | some (off,size)=>bif Nat.beq v.cells.toList.length size && Nat.ble (off+size) cells.length then fillL pl (spl cells off v.cells.toList) rest else none
theorem foldl_set (off:Nat) : ∀ (us:List Value) (k:Nat) (cs:List Value),off+k+us.length≤cs.length →
  ((us.zipIdx k).foldl (fun (cs:Array Value) (p:Value × Nat)=>cs.setIfInBounds (off+p.2) p.1) cs.toArray)=(spl cs (off+k) us).toArray
 | [],k,cs,_=>by simp [spl]
 | u :: us,k,cs,h=>by
  simp only [List.length_cons] at h
  rw [List.zipIdx_cons,List.foldl_cons]
  have e1:cs.toArray.setIfInBounds (off+k) u=(cs.set (off+k) u).toArray:=by simp
  rw [e1,foldl_set off us (k+1) _ (by rw [List.length_set]; omega)]
  congr 1
  apply List.ext_getElem?
  intro j
  rw [spl_get (by rw [List.length_set]; omega),spl_get (by simp; omega),List.getElem?_set]
  simp only [List.length_cons]
  by_cases h1:j=off+k
  ·subst h1
   rw [if_neg (by omega),if_pos rfl,if_pos (by omega),if_pos (by omega)]
   simp
  ·by_cases h2:off+(k+1)≤j∧j<off+(k+1)+us.length
   ·rw [if_pos h2,if_pos (by omega)]
    have:j - (off+k)=(j - (off+(k+1)))+1:=by omega
    rw [this]; simp
   ·rw [if_neg h2,if_neg (fun q=>h1 q.symm),if_neg (by omega)]
theorem fillL_spec {pl:List (Nat × Nat)} : ∀ {vs:List (Nat × Value)} {cells cs:List Value},fillL pl cells vs=some cs→Instr.fill (pl[·]?) cells.toArray vs=some cs.toArray
 | [],cells,cs,h=>by simp [fillL] at h; subst h; rfl
 | (i,v) :: rest,cells,cs,h=>by
  simp only [fillL] at h
  unfold Instr.fill
  cases hp:pl[i]? with
  | none=>rw [hp] at h; cases h
  | some p=>
   obtain⟨off,size⟩:=p
   rw [hp] at h
   simp only at h ⊢
   cases hc:(Nat.beq v.cells.toList.length size && Nat.ble (off+size) cells.length) with
   | false=>rw [hc] at h; cases h
   | true=>
    rw [hc] at h
    simp only [cond_true] at h
    rw [Bool.and_eq_true,Nat.beq_eq,Nat.ble_eq] at hc
    obtain⟨h1,h2⟩:=hc
    have hsz:v.cells.size=size:=by simpa using h1
    have hz:v.cells.zipIdx.foldl (fun (cs:Array Value) (p:Value × Nat)=>cs.setIfInBounds (off+p.2) p.1) cells.toArray=(spl cells off v.cells.toList).toArray:=by
     rw [← Array.foldl_toList,Array.toList_zipIdx]
     have:=foldl_set off v.cells.toList 0 cells (by simp; omega)
     simpa using this
    have hif : ¬ ((v.cells.size≠size || off+v.cells.size > cells.toArray.size)=true):=by
     simp [hsz]; omega
    rw [if_neg hif]
    show Instr.fill _ (v.cells.zipIdx.foldl (fun (cs:Array Value) (p:Value × Nat)=>cs.setIfInBounds (off+p.2) p.1) cells.toArray) rest=_
    rw [hz]
    exact fillL_spec h
theorem op_buildL {P:Program} {f:Fr} {h:Heap} {K:Value→Heap→Prop} {ty:TypeId} {t:TypeId} {parts:List (Nat × Operand)} {vs:List (Nat × Value)} {z cs:List Value} {pl:List (Nat × Nat)} (hz:zeroOf P t=some (.agg z.toArray)) (hp:structPl P t=some pl)
  (hps:parts.map (fun p=>(p.1,ev f p.2))=vs) (hf:fillL pl z vs=some cs) (H:K (.agg cs.toArray) h):opH P (.build t parts.toArray) ty f K h:=
 op_build' hz hp hps (fillL_spec hf) H
end Go.VC
namespace Go.VC
theorem Sl.take {h:Heap} {e sz:Nat} {a:Option Addr} {n c:Nat} {vs:List Value} (s:Sl h e sz a n c vs) {i:Nat} (hi:i≤n):Sl h e sz (cutA a 0 c sz) i c (vs.take (i * sz)):=by
 have hl:=s.1
 have h1:i * sz≤n * sz:=Nat.mul_le_mul_right _ hi
 have ea:cutA a 0 c sz=a:=by
  unfold cutA; split
  ·rfl
  ·cases a with
   | none=>rfl
   | some x=>simp [Addr.add]
 rw [ea]
 refine⟨by rw [List.length_take]; omega,?_⟩
 rcases s.2 with⟨rfl,rfl,rfl⟩ | ⟨b,o,cur,rfl,hb,hn,hc,hq⟩
 ·exact .inl ⟨rfl,by omega,rfl⟩
 ·exact .inr ⟨b,o,cur,rfl,hb,by omega,hc,by rw [← hq,List.take_take,Nat.min_eq_left h1]⟩
theorem Sl.drop {h:Heap} {e sz:Nat} {a:Option Addr} {n c:Nat} {vs:List Value} (s:Sl h e sz a n c vs) {i:Nat} (hi:i≤n):Sl h e sz (cutA a i c sz) (n - i) (c - i) (vs.drop (i * sz)):=by
 have hl:=s.1
 have h1:i * sz≤n * sz:=Nat.mul_le_mul_right _ hi
 refine⟨by rw [List.length_drop,hl,Nat.sub_mul],?_⟩
 rcases s.2 with⟨rfl,rfl,rfl⟩ | ⟨b,o,cur,rfl,hb,hn,hc,hq⟩
 ·refine .inl ⟨?_,by omega,by omega⟩
  unfold cutA; split <;> rfl
 ·right
  by_cases hci:c=i
  ·refine⟨b,o,cur,by unfold cutA; rw [if_pos hci],hb,by omega,?_,?_⟩
   ·have:c - i=0:=by omega
    rw [this]; omega
   ·have hni:n=i:=by omega
    subst hni
    rw [Nat.sub_self,Nat.zero_mul,List.take_zero,List.drop_eq_nil_of_le (by omega)]
  ·have hm:(c - i) * sz=c * sz - i * sz:=Nat.sub_mul _ _ _
   have h2:i * sz≤c * sz:=Nat.mul_le_mul_right _ (by omega)
   refine⟨b,o+i * sz,cur,?_,hb,by omega,by omega,?_⟩
   ·unfold cutA; rw [if_neg hci]
    simp only [Option.map_some,Addr.add]
    split
    ·rename_i hz; rw [hz]; rfl
    ·rfl
   ·rw [← hq,List.drop_take,List.drop_drop,Nat.sub_mul]
theorem Sl.app_fresh {h0 h:Heap} {e sz by_:Nat} {z:Value} {a:Option Addr} {n c m:Nat} {vs news:List Value} {K:Option Addr→Nat→Nat→Heap→Prop} (s:Sl h e sz a n c vs) (x:Ext h0 h) (hf : ∀ y,blkOf a y→h0.size≤y)
  (hm:news.length=m * sz) (h1 : ∀ v∈news,v.oneCell'=true) (hz:z.cells.size=sz) (hb:n+m≤1099511627776∧(n+m) * by_≤1099511627776∧by_≤1048576)
  (H : ∀ a' c' h',Sl h' e sz a' (n+m) c' (vs ++ news)→Ext h0 h'→(∀ y,blkOf a' y→h0.size≤y)→K a' (n+m) c' h'):appH e sz by_ z a n c m news h K:=by
 refine s.append hm h1 hz hb fun a' c' h' s' ch hf'=>H a' c' h' s' ⟨Nat.le_trans x.1 ch.1,fun y hy=>?_⟩ fun y hy=>?_
 ·rw [ch.2 y (Nat.lt_of_lt_of_le hy x.1) (fun q=>by have:=hf y q; omega),x.2 y hy]
 ·rcases hf' y hy with q | q
  ·exact hf y q
  ·have:=x.1; omega
theorem ldc_ext {h h':Heap} (x:Ext h h') {b:Nat} : ∀ {n o:Nat} {vs:List Value},ldCells h b o n=some vs→ldCells h' b o n=some vs
 | 0,o,vs,e=>e
 | n+1,o,vs,e=>by
  simp only [ldCells] at e ⊢
  cases hc:cellH h b o with
  | none=>rw [hc] at e; cases e
  | some v=>
   rw [hc] at e
   rw [x.cell hc]
   simp only at e ⊢
   obtain⟨us,hu,rfl⟩:=Option.map_eq_some_iff.1 e
   rw [ldc_ext x hu]; rfl
theorem firstH_ext {h h':Heap} (x:Ext h h') {sz m:Nat} {v:Value} {l:List Value} (e:firstH h sz m v=some l):firstH h' sz m v=some l:=by
 unfold firstH at e ⊢
 split at e
 ·exact ldc_ext x e
 ·exact e
 ·exact e
 ·exact e
 ·cases e
theorem ldc_get {h:Heap} {b:Nat} : ∀ {n o:Nat} {vs:List Value},ldCells h b o n=some vs→vs.length=n∧∀ i<n,cellH h b (o+i)=vs[i]?
 | 0,o,vs,e=>by simp [ldCells] at e; subst e; exact⟨rfl,fun i hi=>by omega⟩
 | n+1,o,vs,e=>by
  simp only [ldCells] at e
  split at e
  ·rename_i v hc
   obtain⟨us,hu,rfl⟩:=Option.map_eq_some_iff.1 e
   obtain⟨h1,h2⟩:=ldc_get hu
   refine⟨by simp [h1],fun i hi=>?_⟩
   cases i with
   | zero=>exact hc
   | succ i=>rw [List.getElem?_cons_succ,← h2 i (by omega)]; congr 1; omega
  ·cases e
theorem ldc_of {h:Heap} {b:Nat} : ∀ {vs:List Value} {o:Nat},(∀ i v,vs[i]? = some v→cellH h b (o+i)=some v)→ldCells h b o vs.length=some vs
 | [],_,_=>rfl
 | v :: vs,o,e=>by
  have h0:cellH h b o=some v:=e 0 v rfl
  have h1:=ldc_of (vs:=vs) (o:=o+1) fun i u hu=>by
   have:=e (i+1) u (by simpa using hu)
   rw [Nat.add_assoc,Nat.add_comm 1 i]; exact this
  simp only [List.length_cons,ldCells,h0,h1]; rfl
theorem Sl.firstN {h:Heap} {e sz:Nat} {a:Option Addr} {n c:Nat} {vs:List Value} (s:Sl h e sz a n c vs) {m:Nat} (hm:m≤n) (n' c':Nat):firstH h sz m (.slice a n' c')=some (vs.take (m * sz)):=by
 have:=s.first
 cases a with
 | none=>
  rcases s.2 with⟨_,rfl,rfl⟩ | ⟨b,o,cur,q,_⟩
  ·have:=s.1; simp at this; subst this; simp [firstH]
  ·cases q
 | some x=>
  rcases s.2 with⟨q,_⟩ | ⟨b,o,cur,q,hb,hn,hc,hq⟩
  ·cases q
  ·cases q
   simp only [firstH] at this ⊢
   have h1:n * sz≤c * sz:=Nat.mul_le_mul_right _ hn
   have h2:m * sz≤n * sz:=Nat.mul_le_mul_right _ hm
   rw [ld_lst hb _ _ (by omega),← hq,List.take_take,Nat.min_eq_left h2]
theorem Sl.of_blk {h:Heap} {e sz b:Nat} {l:List Value} (hb:h[b]? = some (.cells (List.toArray l) e (0,0))) {n:Nat} (hl:l.length=n * sz):Sl h e sz (some ⟨b,0,none⟩) n n l:=
 ⟨hl,.inr ⟨b,0,l,rfl,hb,Nat.le_refl _,by omega,by rw [List.drop_zero,← hl,List.take_length]⟩⟩
end Go.VC
namespace Go.VC
theorem cutA_some (b o l m sz:Nat) : ∃ o',cutA (some ⟨b,o,none⟩) l m sz=some ⟨b,o',none⟩∧(m≠l→o'=o+l * sz)∧(m=l→o'=o):=by
 unfold cutA
 by_cases h:m=l
 ·rw [if_pos h]; exact⟨o,rfl,fun q=>absurd h q,fun _=>rfl⟩
 ·rw [if_neg h]
  refine⟨o+l * sz,?_,fun _=>rfl,fun q=>absurd q h⟩
  simp only [Option.map_some,Addr.add]
  split
  ·rename_i h0; rw [h0]; rfl
  ·rfl
theorem cutA_zero (a:Option Addr) (m sz:Nat):cutA a 0 m sz=a:=by
 unfold cutA; split
 ·rfl
 ·cases a with
  | none=>rfl
  | some x=>simp [Addr.add]
section
variable {h:Heap} {e sz:Nat} {a:Option Addr} {n c:Nat} {vs:List Value}
theorem Sl.put (s:Sl h e sz a n c vs) {i m:Nat} {cs:List Value} (hm:cs.length=m * sz) (him:i+m≤c) (h1 : ∀ v∈cs,v.oneCell'=true) :
  (a=none∧cs = [])∨∃ b o h',a=some ⟨b,o,none⟩∧stCells b h (o+i * sz) cs=some h'∧Ch (blkOf a) h h'∧h'.size=h.size ∧
   (i+m≤n→Sl h' e sz a n c (spl vs (i * sz) cs))∧(n≤i→Sl h' e sz a n c vs)∧(i=n→Sl h' e sz a (n+m) c (vs ++ cs)):=by
 rcases s.2 with⟨rfl,rfl,rfl⟩ | ⟨b,o,cur,rfl,hb,hn,hc,hq⟩
 ·left
  have:m=0:=by omega
  subst this
  simp at hm
  exact⟨rfl,hm⟩
 ·right
  have g1:(i+m) * sz≤c * sz:=Nat.mul_le_mul_right _ him
  rw [Nat.add_mul] at g1
  have hl:=s.1
  obtain⟨h',q1,q2,q3,q4⟩:=st_ex (o:=o+i * sz) cs hb (by omega) h1
  have hlen:=spl_length (c:=cur) (o:=o+i * sz) (vs:=cs) (by omega)
  have hg:=fun j=>spl_get (c:=cur) (o:=o+i * sz) (vs:=cs) (by omega) j
  have hnc:n * sz≤c * sz:=Nat.mul_le_mul_right _ hn
  refine⟨b,o,h',rfl,q1,⟨by omega,fun x _ hx=>q3 x fun ex=>hx (blkOf_some.2 ex)⟩,q4,fun hin=>?_,fun hni=>?_,fun hin=>?_⟩
  ·have g2:(i+m) * sz≤n * sz:=Nat.mul_le_mul_right _ hin
   rw [Nat.add_mul] at g2
   refine⟨by rw [spl_length (by omega)]; exact hl,.inr ⟨b,o,_,rfl,q2,hn,by omega,?_⟩⟩
   apply List.ext_getElem?
   intro j
   rw [List.getElem?_take,List.getElem?_drop,hg,spl_get (by omega),← hq,List.getElem?_take,List.getElem?_drop]
   by_cases hj:j<n * sz
   ·rw [if_pos hj,if_pos hj]
    by_cases hr:i * sz≤j∧j<i * sz+cs.length
    ·rw [if_pos hr,if_pos (by omega)]; congr 1; omega
    ·rw [if_neg hr,if_neg (by omega)]
   ·rw [if_neg hj,if_neg hj,if_neg (by omega)]
  ·have g2:n * sz≤i * sz:=Nat.mul_le_mul_right _ hni
   refine⟨hl,.inr ⟨b,o,_,rfl,q2,hn,by omega,?_⟩⟩
   rw [← hq]
   apply List.ext_getElem?
   intro j
   rw [List.getElem?_take,List.getElem?_drop,hg,List.getElem?_take,List.getElem?_drop]
   by_cases hj:j<n * sz
   ·rw [if_pos hj,if_pos hj,if_neg (by omega)]
   ·rw [if_neg hj,if_neg hj]
  ·subst hin
   refine⟨by rw [List.length_append,hl,hm,Nat.add_mul],.inr ⟨b,o,_,rfl,q2,by omega,by omega,?_⟩⟩
   rw [Nat.add_mul]
   apply List.ext_getElem?
   intro j
   rw [List.getElem?_take,List.getElem?_drop,hg,List.getElem?_append,hl]
   by_cases hi:j<i * sz
   ·rw [if_pos (by omega),if_neg (by omega),if_pos hi,← hq,List.getElem?_take,if_pos hi,List.getElem?_drop]
   ·rw [if_neg hi]
    by_cases hi2:j<i * sz+m * sz
    ·rw [if_pos hi2,if_pos (by omega)]
     congr 1; omega
    ·rw [if_neg hi2,List.getElem?_eq_none (by omega)]
theorem Sl.append_room {by_ m:Nat} {z:Value} {news:List Value} {K:Option Addr→Nat→Nat→Heap→Prop} (s:Sl h e sz a n c vs) (hr:n+m≤c) (hm:news.length=m * sz) (h1 : ∀ v∈news,v.oneCell'=true)
  (hb:n+m≤1099511627776∧(n+m) * by_≤1099511627776∧by_≤1048576)
  (H : ∀ h',Sl h' e sz a (n+m) c (vs ++ news)→Ch (blkOf a) h h'→h'.size=h.size→K a (n+m) c h'):appH e sz by_ z a n c m news h K:=by
 refine⟨hb,fun _=>?_,fun hg=>by omega⟩
 rcases s.put (i:=n) hm hr h1 with⟨rfl,rfl⟩ | ⟨b,o,h',rfl,q1,q2,q3,-,-,q4⟩
 ·right
  refine⟨rfl,H h ?_ (Ch.refl _ _) rfl⟩
  rcases s.2 with⟨_,rfl,rfl⟩ | ⟨_,_,_,q,_⟩
  ·have:=s.1; simp at this; subst this
   have:m=0:=by omega
   subst this
   exact Sl.nil _ _ _
  ·cases q
 ·exact .inl ⟨b,o,h',rfl,q1,H h' (q4 rfl) q2 q3⟩
theorem Sl.append_grow {by_ m:Nat} {z:Value} {news:List Value} {K:Option Addr→Nat→Nat→Heap→Prop} (s:Sl h e sz a n c vs) (hr:c<n+m) (hm:news.length=m * sz) (hz:z.cells.size=sz)
  (hb:n+m≤1099511627776∧(n+m) * by_≤1099511627776∧by_≤1048576)
  (H : ∀ cap h',n+m≤cap→Sl h' e sz (some ⟨h.size,0,none⟩) (n+m) cap (vs ++ news)→Ext h h'→h'.size=h.size+1→K (some ⟨h.size,0,none⟩) (n+m) cap h'):appH e sz by_ z a n c m news h K:=by
 refine⟨hb,fun hg=>by omega,fun _=>⟨vs,s.first,fun cap hcap=>?_⟩⟩
 have e1:((vs ++ news).toArray ++ Builtin.zeroCells z.cells (cap - (n+m)))=(vs ++ news ++ (Builtin.zeroCells z.cells (cap - (n+m))).toList).toArray:=by
  apply Array.toList_inj.1; simp
 rw [e1]
 obtain⟨p1,p2,p3⟩:=push_get (h:=h) (o:=.cells (vs ++ news ++ (Builtin.zeroCells z.cells (cap - (n+m))).toList).toArray e (0,0)) rfl
 have hl:(vs ++ news).length=(n+m) * sz:=by rw [List.length_append,s.1,hm,Nat.add_mul]
 refine H _ _ hcap ⟨hl,.inr ⟨_,_,_,rfl,p1,hcap,?_,?_⟩⟩ p2 p3
 ·rw [List.length_append,hl,Array.length_toList,size_zeroCells,hz]
  have:cap * sz=(n+m) * sz+(cap - (n+m)) * sz:=by rw [← Nat.add_mul]; congr 1; omega
  omega
 ·rw [List.drop_zero,← hl,List.take_left]
theorem Sl.copy_to {i m k:Nat} {src:Value} {cs:List Value} (s:Sl h e sz a n c vs) (hk:k=min m (n - i)) (hi:i≤n) (hl:lenH src=some m) (hf:firstH h sz (min m (n - i)) src=some cs) (hcs:cs.length=k * sz) (h1 : ∀ v∈cs,v.oneCell'=true) :
  ∃ h',copyH sz (n - i) m (cutA a i c sz) src h h'∧Sl h' e sz a n c (spl vs (i * sz) cs)∧Ch (blkOf a) h h'∧h'.size=h.size:=by
 have hle:=s.le
 rcases s.put (i:=i) (m:=k) hcs (by omega) h1 with⟨rfl,rfl⟩ | ⟨b,o,h',rfl,q1,q2,q3,q4,-,-⟩
 ·refine⟨h,⟨[],hl,hf,.inl ⟨by unfold cutA; split <;> rfl,rfl⟩⟩,?_,Ch.refl _ _,rfl⟩
  have:spl vs (i * sz) []=vs:=by simp [spl]
  rw [this]; exact s
 ·refine⟨h',⟨cs,hl,hf,.inr ?_⟩,q4 (by omega),q2,q3⟩
  obtain⟨o',e1,e2,e3⟩:=cutA_some b o i c sz
  refine⟨b,o',e1,?_⟩
  by_cases hci:c=i
  ·have:k=0:=by omega
   have:cs = []:=List.eq_nil_of_length_eq_zero (by rw [hcs,this,Nat.zero_mul])
   subst this
   exact q1
  ·rw [e2 hci]; exact q1
theorem Sl.clear_tail {m:Nat} {zl:List Value} (s:Sl h e sz a n c vs) (hnm:n≤m) (hmc:m≤c) (hz:zl.length=sz) (h1 : ∀ v∈zl,v.oneCell'=true) :
  ∃ h',clearH sz (m - n) (cutA a n c sz) zl h h'∧Sl h' e sz a n c vs∧Ch (blkOf a) h h'∧h'.size=h.size:=by
 have hzr : ∀ k,∀ v∈zrep k zl,v.oneCell'=true:=fun k=>by
  induction k with
  | zero=>intro v hv; cases hv
  | succ k ih=>
   intro v hv
   rcases List.mem_append.1 hv with q | q
   ·exact h1 v q
   ·exact ih v q
 by_cases h0:m - n=0
 ·exact⟨h,.inl ⟨.inr h0,rfl⟩,s,Ch.refl _ _,rfl⟩
 rcases s.put (i:=n) (m:=m - n) (cs:=zrep (m - n) zl) (by rw [zrep_length,hz]) (by omega) (hzr _) with⟨rfl,_⟩ | ⟨b,o,h',rfl,q1,q2,q3,-,q4,-⟩
 ·exact⟨h,.inl ⟨.inl (by unfold cutA; split <;> rfl),rfl⟩,s,Ch.refl _ _,rfl⟩
 ·refine⟨h',.inr ?_,q4 (Nat.le_refl _),q2,q3⟩
  obtain⟨o',e1,e2,e3⟩:=cutA_some b o n c sz
  refine⟨b,o',e1,by omega,hz,?_⟩
  rw [e2 (by omega)]; exact q1
theorem Sl.extend {m:Nat} (s:Sl h e sz a n c vs) (hnm:n≤m) (hmc:m≤c) : ∃ ws,Sl h e sz a m c ws∧ws.take (n * sz)=vs:=by
 rcases s.2 with⟨rfl,rfl,rfl⟩ | ⟨b,o,cur,rfl,hb,hn,hc,hq⟩
 ·have:m=0:=by omega
  subst this
  have:=s.1; simp at this; subst this
  exact⟨[],Sl.nil _ _ _,by simp⟩
 ·have g1:m * sz≤c * sz:=Nat.mul_le_mul_right _ hmc
  have g2:n * sz≤m * sz:=Nat.mul_le_mul_right _ hnm
  refine⟨(cur.drop o).take (m * sz),⟨by simp; omega,.inr ⟨b,o,cur,rfl,hb,hmc,hc,rfl⟩⟩,?_⟩
  rw [List.take_take,Nat.min_eq_left g2,hq]
end
end Go.VC
namespace Go.VC
section
variable {α : Type} {f : α→List Value} {k:Nat}
theorem fl_length (hk : ∀ x,(f x).length=k) (l:List α):(l.flatMap f).length=l.length * k:=by
 induction l with
 | nil=>simp
 | cons a l ih=>rw [List.flatMap_cons,List.length_append,ih,hk,List.length_cons,Nat.succ_mul,Nat.add_comm]
theorem fl_drop (hk : ∀ x,(f x).length=k) : ∀ (l:List α) (i:Nat),(l.flatMap f).drop (i * k)=(l.drop i).flatMap f
 | l,0=>by simp
 | [],i+1=>by simp
 | a :: l,i+1=>by
  have e:(i+1) * k=k+i * k:=by rw [Nat.succ_mul,Nat.add_comm]
  rw [e,← List.drop_drop]
  have:((a :: l).flatMap f).drop k=l.flatMap f:=by rw [List.flatMap_cons,← hk a,List.drop_left]
  rw [this,fl_drop hk l i]; rfl
theorem fl_take (hk : ∀ x,(f x).length=k) : ∀ (l:List α) (i:Nat),(l.flatMap f).take (i * k)=(l.take i).flatMap f
 | l,0=>by simp
 | [],i+1=>by simp
 | a :: l,i+1=>by
  have e:(i+1) * k=k+i * k:=by rw [Nat.succ_mul,Nat.add_comm]
  rw [e,List.flatMap_cons,List.take_succ_cons,List.flatMap_cons,← fl_take hk l i,← hk a,List.take_length_add_append]
theorem fl_get (hk : ∀ x,(f x).length=k) {l:List α} {i:Nat} {x : α} (h:l[i]? = some x) {j:Nat} (hj:j<k):(l.flatMap f)[i * k+j]? = (f x)[j]?:=by
 have hd:=fl_drop hk l i
 have hlt:=(List.getElem?_eq_some_iff.1 h).1
 have e1:l.drop i=x :: l.drop (i+1):=by
  rw [List.drop_eq_getElem_cons hlt]; congr 1
  rw [List.getElem?_eq_getElem hlt] at h; exact Option.some.inj h
 rw [e1,List.flatMap_cons] at hd
 rw [← List.getElem?_drop,hd,List.getElem?_append_left (by rw [hk]; exact hj)]
theorem fl_one (h1 : ∀ x,∀ v∈f x,v.oneCell'=true) (l:List α) : ∀ v∈l.flatMap f,v.oneCell'=true:=by
 intro v hv
 obtain⟨x,_,hx⟩:=List.mem_flatMap.1 hv
 exact h1 x v hx
theorem Sl.elem {h:Heap} {e:Nat} {a:Option Addr} {n c:Nat} (hk : ∀ x,(f x).length=k) (h0:0<k) {l:List α} (s:Sl h e k a n c (l.flatMap f)) {i:Nat} {x : α} (hx:l[i]? = some x) :
  ∃ b o,a=some ⟨b,o,none⟩∧ldCells h b (o+i * k) k=some (f x)∧∀ j v,(f x)[j]? = some v→cellH h b (o+i * k+j)=some v:=by
 obtain⟨v0,hv0⟩ : ∃ v,(f x)[0]? = some v:=⟨_,List.getElem?_eq_getElem (by rw [hk]; exact h0)⟩
 obtain⟨b,o,rfl,c0⟩:=s.get (i:=i * k+0) (by rw [fl_get hk hx h0]; exact hv0)
 have key : ∀ j v,(f x)[j]? = some v→cellH h b (o+i * k+j)=some v:=by
  intro j v hv
  have hj:j<k:=by have:=(List.getElem?_eq_some_iff.1 hv).1; rwa [hk] at this
  obtain⟨b',o',e',c'⟩:=s.get (i:=i * k+j) (by rw [fl_get hk hx hj]; exact hv)
  cases e'
  rw [Nat.add_assoc]; exact c'
 refine⟨b,o,rfl,?_,key⟩
 have:=ldc_of (h:=h) (b:=b) (vs:=f x) (o:=o+i * k) key
 rwa [hk] at this
end
end Go.VC
namespace Go.VC
structure MP {α : Type} (enc : α→List Value) (ty:TypeId) (Own:Nat→Prop) (h:Heap) (mo:Nat) (F:Int→Option α) (l:List (ME Int)) (c:Nat) (blk:Int→Nat):Prop where
 map:h[mo]? = some (mobj (Value.int .i64) l c)
 ok:mapOk l c
 look : ∀ k,mlook l k=(F k).map fun _=>.pointer (some ⟨blk k,0,none⟩)
 at_ : ∀ k x,F k=some x→h[blk k]? = some (.cells (List.toArray (enc x)) ty (0,0))
 inj : ∀ k k' x x',F k=some x→F k'=some x'→blk k=blk k'→k=k'
 own:Own mo∧∀ k x,F k=some x→Own (blk k)
 bnd : ∀ y,Own y→y<h.size
def MS {α : Type} (enc : α→List Value) (ty:TypeId) (Own:Nat→Prop) (h:Heap) (mo:Nat) (F:Int→Option α):Prop:=∃ l c blk,MP enc ty Own h mo F l c blk
def updF {α : Type} (F:Int→Option α) (k:Int) (v:Option α):Int→Option α:=fun j=>if j=k then v else F j
section
variable {α : Type} {enc : α→List Value} {ty:TypeId} {Own:Nat→Prop} {h h':Heap} {mo:Nat} {F:Int→Option α} {l:List (ME Int)} {c:Nat} {blk:Int→Nat}
theorem MP.keep (R:MP enc ty Own h mo F l c blk) (hz:h.size≤h'.size) (hk : ∀ y,y<h.size→Own y→h'[y]? = h[y]?):MP enc ty Own h' mo F l c blk:=
 {R with
  map:=by rw [hk _ (lt_of_get R.map) R.own.1]; exact R.map
  at_:=fun k x hx=>by rw [hk _ (lt_of_get (R.at_ k x hx)) (R.own.2 k x hx)]; exact R.at_ k x hx
  bnd:=fun y hy=>Nat.lt_of_lt_of_le (R.bnd y hy) hz }
theorem MS.keep (R:MS enc ty Own h mo F) (hz:h.size≤h'.size) (hk : ∀ y,y<h.size→Own y→h'[y]? = h[y]?):MS enc ty Own h' mo F:=by
 obtain⟨l,c,b,R⟩:=R; exact⟨l,c,b,R.keep hz hk⟩
theorem MS.bnd (R:MS enc ty Own h mo F) : ∀ y,Own y→y<h.size:=by obtain⟨_,_,_,R⟩:=R; exact R.bnd
theorem MP.grow (R:MP enc ty Own h' mo F l c blk) (hz:h.size≤h'.size) (hb : ∀ y,Own y→y<h.size):MS enc ty (Grow Own h h') h' mo F:=
 ⟨l,c,blk,{ R with
  own:=⟨.inl R.own.1,fun k x hx=>.inl (R.own.2 k x hx)⟩
  bnd:=fun y hy=>by
   rcases hy with q | q
   ·have:=hb y q; omega
   ·exact q.2 }⟩
theorem MP.ne (R:MP enc ty Own h mo F l c blk) {k:Int} {x : α} (hx:F k=some x):blk k≠mo:=by
 intro e
 have:=R.at_ k x hx
 rw [e,R.map] at this
 simp [mobj] at this
theorem MP.set (R:MP enc ty Own h mo F l c blk) {k:Int} {x x' : α} (hx:F k=some x) (h1:h'[blk k]? = some (.cells (List.toArray (enc x')) ty (0,0))) (h2 : ∀ y,y≠blk k→h'[y]? = h[y]?) (hz:h'.size=h.size) :
  MP enc ty Own h' mo (updF F k (some x')) l c blk∧Ch Own h h':=by
 refine⟨?_,by omega,fun y _ hn=>h2 y fun e=>hn (e ▸ R.own.2 k x hx)⟩
 exact
 {map:=by rw [h2 _ (R.ne hx).symm]; exact R.map
  ok:=R.ok
  look:=fun j=>by
   rw [R.look]; unfold updF
   by_cases hj:j=k
   ·subst hj; simp [hx]
   ·simp [hj]
  at_:=fun j z hz'=>by
   unfold updF at hz'
   by_cases hj:j=k
   ·subst hj; simp at hz'; subst hz'; exact h1
   ·rw [if_neg hj] at hz'
    rw [h2 _ (fun e=>hj (R.inj j k z x hz' hx e))]; exact R.at_ j z hz'
  inj:=fun a b y y' ha hb e=>by
   unfold updF at ha hb
   have fa : ∃ z,F a=some z:=by
    by_cases q:a=k
    ·exact⟨x,q ▸ hx⟩
    ·rw [if_neg q] at ha; exact⟨_,ha⟩
   have fb : ∃ z,F b=some z:=by
    by_cases q:b=k
    ·exact⟨x,q ▸ hx⟩
    ·rw [if_neg q] at hb; exact⟨_,hb⟩
   obtain⟨za,fa⟩:=fa
   obtain⟨zb,fb⟩:=fb
   exact R.inj a b za zb fa fb e
  own:=⟨R.own.1,fun j z hz'=>by
   unfold updF at hz'
   by_cases hj:j=k
   ·subst hj; exact R.own.2 j x hx
   ·rw [if_neg hj] at hz'; exact R.own.2 j z hz'⟩
  bnd:=fun y hy=>by have:=R.bnd y hy; omega }
theorem MP.put (R:MP enc ty Own h mo F l c blk) {k:Int} {x' : α} {nb:Nat} (hnb:h.size≤nb∧nb<h'.size)
  (h0:h'[mo]? = some (mobj (Value.int .i64) (mput l k (.pointer (some ⟨nb,0,none⟩)) c) (mclk l k c))) (h1:h'[nb]? = some (.cells (List.toArray (enc x')) ty (0,0))) (h2 : ∀ y,y<h.size→y≠mo→h'[y]? = h[y]?) (hz:h.size≤h'.size) :
  MS enc ty (Grow Own h h') h' mo (updF F k (some x'))∧Ch Own h h':=by
 refine⟨⟨mput l k (.pointer (some ⟨nb,0,none⟩)) c,mclk l k c,fun j=>if j=k then nb else blk j,?_⟩,hz,fun y hy hn=>h2 y hy fun e=>hn (e ▸ R.own.1)⟩
 exact
 {map:=h0
  ok:=mput_ok R.ok
  look:=fun j=>by
   rw [mlook_mput]; unfold updF
   by_cases hj:j=k
   ·simp [hj]
   ·simp only [hj,if_false]; exact R.look j
  at_:=fun j z hz'=>by
   unfold updF at hz'
   by_cases hj:j=k
   ·subst hj; simp at hz'; subst hz'; simp only [if_true]; exact h1
   ·rw [if_neg hj] at hz'
    simp only [hj,if_false]
    rw [h2 _ (R.bnd _ (R.own.2 j z hz')) (R.ne hz')]; exact R.at_ j z hz'
  inj:=fun a b y y' ha hb e=>by
   unfold updF at ha hb
   by_cases qa:a=k
   ·by_cases qb:b=k
    ·rw [qa,qb]
    ·rw [if_neg qb] at hb
     simp only [qa,qb,if_true,if_false] at e
     have:=R.bnd _ (R.own.2 b y' hb); omega
   ·rw [if_neg qa] at ha
    by_cases qb:b=k
    ·simp only [qa,qb,if_true,if_false] at e
     have:=R.bnd _ (R.own.2 a y ha); omega
    ·rw [if_neg qb] at hb
     simp only [qa,qb,if_false] at e
     exact R.inj a b y y' ha hb e
  own:=⟨.inl R.own.1,fun j z hz'=>by
   unfold updF at hz'
   by_cases hj:j=k
   ·simp only [hj,if_true]; exact .inr hnb
   ·rw [if_neg hj] at hz'
    simp only [hj,if_false]; exact .inl (R.own.2 j z hz')⟩
  bnd:=fun y hy=>by
   rcases hy with q | q
   ·have:=R.bnd y q; omega
   ·exact q.2 }
theorem MP.del (R:MP enc ty Own h mo F l c blk) (k:Int) (h0:h'[mo]? = some (mobj (Value.int .i64) (mdel l k) c)) (h2 : ∀ y,y≠mo→h'[y]? = h[y]?) (hz:h'.size=h.size) :
  MP enc ty Own h' mo (updF F k none) (mdel l k) c blk∧Ch Own h h':=by
 refine⟨?_,by omega,fun y _ hn=>h2 y fun e=>hn (e ▸ R.own.1)⟩
 have sub : ∀ {j:Int} {z : α},updF F k none j=some z→F j=some z:=fun {j z} q=>by
  unfold updF at q
  by_cases hj:j=k
  ·rw [if_pos hj] at q; cases q
  ·rw [if_neg hj] at q; exact q
 exact
 {map:=h0
  ok:=mdel_ok R.ok
  look:=fun j=>by
   rw [mlook_mdel R.ok]; unfold updF
   by_cases hj:j=k
   ·simp [hj]
   ·simp only [hj,if_false]; exact R.look j
  at_:=fun j z hz'=>by rw [h2 _ (R.ne (sub hz'))]; exact R.at_ j z (sub hz')
  inj:=fun a b y y' ha hb e=>R.inj a b y y' (sub ha) (sub hb) e
  own:=⟨R.own.1,fun j z hz'=>R.own.2 j z (sub hz')⟩
  bnd:=fun y hy=>by have:=R.bnd y hy; omega }
theorem MP.got (R:MP enc ty Own h mo F l c blk) (k:Int):(mlook l k).getD (.pointer none) = .pointer ((F k).map fun _=>⟨blk k,0,none⟩)∧(mlook l k).isSome=(F k).isSome:=by
 rw [R.look]
 cases F k <;> exact⟨rfl,rfl⟩
theorem MP.length (R:MP enc ty Own h mo F l c blk) {lo hi:Nat} (hk : ∀ k,(F k).isSome=true↔∃ n:Nat,k=n∧lo≤n∧n<hi):l.length=hi - lo:=by
 have hnd:(l.map (·.key)).Nodup:=R.ok.2.2
 have hmem : ∀ k:Int,k∈l.map (·.key)↔∃ n:Nat,k=n∧lo≤n∧n<hi:=fun k=>by
  rw [mem_keys_iff,R.look,Option.isSome_map,hk]
 have hperm:(l.map (·.key)).Perm ((List.range' lo (hi - lo)).map fun n:Nat=>(n:Int)):=by
  rw [List.perm_ext_iff_of_nodup hnd]
  ·intro k
   rw [hmem]
   simp only [List.mem_map,List.mem_range'_1]
   constructor
   ·rintro⟨n,rfl,h1,h2⟩; exact⟨n,by omega,rfl⟩
   ·rintro⟨n,h1,rfl⟩; exact⟨n,rfl,by omega,by omega⟩
  ·rw [List.nodup_iff_pairwise_ne,List.pairwise_map]
   exact (List.nodup_iff_pairwise_ne.1 List.nodup_range').imp fun h e=>h (by omega)
 have:=hperm.length_eq
 simpa using this
theorem ms_new {h h1:Heap} {α : Type} (enc : α→List Value) (ty:TypeId) (e:h1=h.push (.map #[] 0)) (Own:Nat→Prop) (ho:Own h.size) (hb : ∀ y,Own y→y<h1.size):MS enc ty Own h1 h.size (fun _=>none):=by
 obtain⟨a1,a2,a3⟩:=push_get e
 exact⟨[],0,fun _=>0,{ map:=a1,ok:=mapOk_nil _ _,look:=fun k=>rfl,at_:=fun k x hx=>(by cases hx),inj:=fun k k' x x' hx=>(by cases hx),own:=⟨ho,fun k x hx=>(by cases hx)⟩,bnd:=hb }⟩
end
end Go.VC
