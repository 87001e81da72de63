/- Contracts of functions of the program over the heap, and laws that follow from them. Conditions: as stated at each. -/
import Derived.Test.YtcldahgjomfbpaaGreatRows
import Derived.WalkKit
import Derived.ProofKit
import Derived.OpenShut
import Derived.Test.YtcldahgjomfbpaaGreatQ
namespace Go.Proofs.Vf
open Go Go.RowKit Go.VC Go.ChangeShapes Go.WideShapes Go.ChangeAt
def Quiet (w w':World):Prop:=Ext w.heap w'.heap∧Same w w'
theorem Quiet.frame {w w':World} (q:Quiet w w') (may:MemPlace→Prop):w.keptBut w' may:=by
  obtain ⟨x,s⟩:=q
  refine ⟨s.2.1,s.2.2,fun i hi=>?_⟩
  rw [x.2 i hi]
  cases w.heap[i]? with
  | none=>rfl
  | some o=>cases o with
    | cells c t fr=>exact ⟨rfl,rfl,rfl,fun _ _=>rfl⟩
    | map es clock=>exact .inr ⟨rfl,rfl⟩
    | _=>rfl
theorem quiet_of {P:Program} {g:FuncId} {args:Array Value} {w:World} (H:CallsH P g args w.heap (fun v h'=>v = .bool true∧Ext w.heap h')):Calls P g args w fun e w'=>e = .returned (.bool true)∧Quiet w w':=
  (H w rfl).mono fun _ _ ⟨_,he,⟨hv,hx⟩,hs⟩=>⟨by rw [he,hv],hx,hs⟩
end Go.Proofs.Vf
namespace Go.Proofs.Vf
open Go Go.RowKit Go.VC Go.ChangeShapes Go.WideShapes Go.ChangeAt
theorem Quiet.below {w w':World} (q:Quiet w w'):Below w.heap.size w w':=⟨q.2.2.1,q.2.1,q.2.2.2,q.1.1,q.1.2⟩
end Go.Proofs.Vf
