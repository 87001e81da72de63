/- Contracts of functions of the program over the heap, and laws that follow from them. Conditions: as stated at each. -/
import Derived.Test.YtcldahgjomfbpaaGreatRows
import Derived.WalkKit
import Derived.ProofKit
import Derived.OpenShut
import Derived.Test.YtcldahgjomfbpaaGreatQ
namespace Go.Proofs.Vf
open Go Go.RowKit Go.VC Go.ChangeShapes Go.WideShapes Go.ChangeAt
def Quiet (w w':World):Prop:=Ext w.heap w'.heap∧Same w w'
theorem Quiet.frame {w w':World} (q:Quiet w w') (may:MemPlace→Prop):w.keptBut w' may:=by
 obtain ⟨x,s⟩:=q
 refine ⟨s.2.1,s.2.2,fun i hi=>?_⟩
 rw [x.2 i hi]
 cases w.heap[i]? with
 | none=>rfl
 | some o=>cases o with
  | cells c t fr=>exact ⟨rfl,rfl,rfl,fun _ _=>rfl⟩
  | map es clock=>exact .inr ⟨rfl,rfl⟩
  | _=>rfl
theorem quiet_of {P:Program} {g:FuncId} {args:Array Value} {w:World} (H:CallsH P g args w.heap (fun v h'=>v = .bool true∧Ext w.heap h')):Calls P g args w fun e w'=>e = .returned (.bool true)∧Quiet w w':=
 (H w rfl).mono fun _ _ ⟨_,he,⟨hv,hx⟩,hs⟩=>⟨by rw [he,hv],hx,hs⟩
end Go.Proofs.Vf
namespace Go.Proofs.Vf
open Go Go.RowKit Go.VC Go.ChangeShapes Go.WideShapes Go.ChangeAt
theorem Quiet.below {w w':World} (q:Quiet w w'):Below w.heap.size w w':=⟨q.2.2.1,q.2.1,q.2.2.2,q.1.1,q.1.2⟩
def IsRow (k:IntKind) (w:World) (a:Option Addr) (len cap:Nat) (zs:List Int):Prop:=
 (a=none∧len=0∧cap=0∧zs = []) ∨
 ∃ x,a=some x∧len≤cap∧cap≤maxLen∧zs.length=cap∧(∀ i,i<zs.length→w.cell? (x.add i)=some (.int k (zs.getD i 0)))∧∀ n∈zs,(Lit.int k n).wf=true
theorem spot_none {w:World} {x:Addr} {v:Value} (h:w.cell? x=some v):x.spot=none:=by
 simp only [World.cell?] at h
 split at h
 ·cases hs:x.spot with
  | none=>rfl
  | some q=>simp [hs] at h
 ·cases h
theorem cell_plain {w:World} {b o:Nat} {v:Value} (h:w.cell? ⟨b,o,none⟩=some v):cellH w.heap b o=some v:=by
 simp only [World.cell?] at h
 unfold cellH
 split at h
 ·rename_i c t fr hb
  rw [hb]; simpa using h
 ·cases h
theorem cell_at {w:World} {x:Addr} {v0 v:Value} {i:Nat} (h0:w.cell? (x.add 0)=some v0) (h:w.cell? (x.add i)=some v) : ∃ b o,x=⟨b,o,none⟩∧cellH w.heap b (o+i)=some v:=by
 have h0:w.cell? x=some v0:=by simpa [Addr.add] using h0
 have hs:=spot_none h0
 obtain ⟨b,o,s⟩:=x
 simp only at hs
 subst hs
 refine ⟨b,o,rfl,cell_plain ?_⟩
 unfold Addr.add at h
 split at h
 ·rename_i e; subst e; exact h
 ·exact h
theorem IsRow.arg {k:IntKind} {w:World} {a:Option Addr} {len cap:Nat} {zs:List Int} (r:IsRow k w a len cap zs) :
  len=(zs.take len).length∧ArgI w.heap k a (zs.take len)∧∀ n∈zs.take len,(Lit.int k n).wf=true:=by
 rcases r with ⟨rfl,rfl,rfl,rfl⟩ | ⟨x,rfl,h1,h2,h3,h4,h5⟩
 ·exact ⟨rfl,fun i v hv=>by simp at hv,fun n hn=>by simp at hn⟩
 ·refine ⟨by rw [List.length_take]; omega,fun i v hv=>?_,fun n hn=>h5 n (List.mem_of_mem_take hn)⟩
  rw [List.getElem?_take] at hv
  split at hv
  ·have hi:i<zs.length:=(List.getElem?_eq_some_iff.1 hv).1
   have:=h4 i hi
   rw [List.getD_eq_getElem?_getD,hv] at this
   obtain ⟨b,o,rfl,hc⟩:=cell_at (h4 0 (by omega)) this
   exact ⟨b,o,rfl,hc⟩
  ·cases hv
theorem IsRow.short {k:IntKind} {w:World} {a:Option Addr} {len cap:Nat} {zs:List Int} (r:IsRow k w a len cap zs):len≤9223372036854775807:=by
 rcases r with ⟨rfl,rfl,rfl,rfl⟩ | ⟨x,rfl,h1,h2,h3,h4,h5⟩
 ·omega
 ·have:maxLen≤9223372036854775807:=by decide
  omega
theorem slice_spot {P:Program} {W:World} {r:Reach} {b0:Nat} {t e:TypeId} {a:Option Addr} {len cap:Nat} (ht:P.underlying t=some (.slice e)) (hv:Value.okWide P W r b0 t (.slice a len cap)) : ∀ A,a=some A→A.spot=none:=by
 rintro A rfl
 unfold Value.okWide at hv
 rw [ht] at hv
 dsimp only at hv
 unfold Cell.okWide at hv
 rw [ht] at hv
 dsimp only at hv
 unfold Cell.ok at hv
 rw [ht] at hv
 exact hv.2.2.2.1
end Go.Proofs.Vf
