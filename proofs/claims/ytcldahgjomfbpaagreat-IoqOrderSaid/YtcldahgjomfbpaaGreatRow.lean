/- Contracts of functions of the program over the heap, and laws that follow from them. Conditions: as stated at each. -/
import Derived.Test.YtcldahgjomfbpaaGreatRows
import Derived.WalkKit
import Derived.ProofKit
import Derived.OpenShut
import Derived.Test.YtcldahgjomfbpaaGreatQ
namespace Go.Proofs.Vf
open Go Go.RowKit Go.VC Go.ChangeShapes Go.WideShapes Go.ChangeAt
def Quiet (w w':World):Prop:=Ext w.heap w'.heap∧Same w w'
theorem Quiet.frame {w w':World} (q:Quiet w w') (may:MemPlace→Prop):w.keptBut w' may:=by
 obtain ⟨x,s⟩:=q
 refine ⟨s.2.1,s.2.2,fun i hi=>?_⟩
 rw [x.2 i hi]
 cases w.heap[i]? with
 | none=>rfl
 | some o=>cases o with
  | cells c t fr=>exact ⟨rfl,rfl,rfl,fun _ _=>rfl⟩
  | map es clock=>exact .inr ⟨rfl,rfl⟩
  | _=>rfl
theorem quiet_of {P:Program} {g:FuncId} {args:Array Value} {w:World} (H:CallsH P g args w.heap (fun v h'=>v = .bool true∧Ext w.heap h')):Calls P g args w fun e w'=>e = .returned (.bool true)∧Quiet w w':=
 (H w rfl).mono fun _ _ ⟨_,he,⟨hv,hx⟩,hs⟩=>⟨by rw [he,hv],hx,hs⟩
end Go.Proofs.Vf
namespace Go.Proofs.Vf
open Go Go.RowKit Go.VC Go.ChangeShapes Go.WideShapes Go.ChangeAt
theorem Quiet.below {w w':World} (q:Quiet w w'):Below w.heap.size w w':=⟨q.2.2.1,q.2.1,q.2.2.2,q.1.1,q.1.2⟩
theorem u8quad {H:Type} {enc:TypeId × Value→H} {P:Program} {W:World} {r:Reach} {b0:Nat} {t e:TypeId} {v:Value} {d:DataW H} {p:List MemPlace} (ht:P.underlying t=some (.array 4 e)) (he:P.underlying e=some (.int .u8)) (hC:P.cellsOf t=4) (hc:P.cellsOf e=1)
  (hv:Value.okWide P W r b0 t v) (h:DataW.Trod enc P W 0 (fun _=>true) true t v d p) : ∃ x y z u,v = .agg #[.int .u8 x,.int .u8 y,.int .u8 z,.int .u8 u]∧(Lit.int .u8 x).wf=true∧(Lit.int .u8 y).wf=true∧(Lit.int .u8 z).wf=true∧(Lit.int .u8 u).wf=true:=by
 unfold Value.okWide at hv
 rw [ht] at hv
 obtain ⟨cs,rfl,hs,_⟩:=hv
 obtain ⟨fuel,hf⟩:=h
 obtain ⟨xs,m,rfl,_,hl,hxl,hx⟩:=DataW.trod_array ht hf
 rw [hC] at hl
 obtain ⟨c0,c1,c2,c3,hcs⟩ : ∃ c0 c1 c2 c3,cs.toList = [c0,c1,c2,c3]:=by
  have:cs.toList.length=4:=by rw [Array.length_toList,hs,hC]
  match cs.toList,this with
  | [a,b,c,d],_=>exact ⟨a,b,c,d,rfl⟩
 have ec:cs = #[c0,c1,c2,c3]:=by cases cs; simp at hcs; rw [hcs]
 subst ec
 have g0:=hx 0 (by omega)
 have g1:=hx 1 (by omega)
 have g2:=hx 2 (by omega)
 have g3:=hx 3 (by omega)
 simp only [Value.cells,hc] at g0 g1 g2 g3
 rw [List.getElem?_eq_getElem (by omega)] at g0 g1 g2 g3
 simp at g0 g1 g2 g3
 obtain ⟨n0,e0,_,w0⟩:=DataW.trod_int he g0
 obtain ⟨n1,e1,_,w1⟩:=DataW.trod_int he g1
 obtain ⟨n2,e2,_,w2⟩:=DataW.trod_int he g2
 obtain ⟨n3,e3,_,w3⟩:=DataW.trod_int he g3
 simp at e0 e1 e2 e3
 subst e0 e1 e2 e3
 exact ⟨n0,n1,n2,n3,rfl,w0,w1,w2,w3⟩
end Go.Proofs.Vf
