/- Contracts of package life, and laws that follow from them. Conditions: as stated at each. -/
import Derived.Test.YtobbagjpngkpkaaRows
import Derived.WalkKit
import Derived.ProofKit
import Derived.OpenShut
import Derived.Test.YtobbagjpngkpkaaLE
namespace Go.Proofs.Vf
open Go Go.RowKit Go.VC Go.ChangeShapes Go.WideShapes Go.ChangeAt

/-- nothing that there was has changed; nothing was told outside -/
def Quiet (w w' : World) : Prop := Ext w.heap w'.heap ∧ Same w w'
theorem Quiet.frame {w w' : World} (q : Quiet w w') (may : MemPlace → Prop) : w.keptBut w' may := by
  obtain ⟨x, s⟩ := q
  refine ⟨s.2.1, s.2.2, fun i hi => ?_⟩
  rw [x.2 i hi]
  cases w.heap[i]? with
  | none => rfl
  | some o => cases o with
    | cells c t fr => exact ⟨rfl, rfl, rfl, fun _ _ => rfl⟩
    | map es clock => exact .inr ⟨rfl, rfl⟩
    | _ => rfl
theorem quiet_of {P : Program} {g : FuncId} {args : Array Value} {w : World} (H : CallsH P g args w.heap (fun v h' => v = .bool true ∧ Ext w.heap h')) : Calls P g args w fun e w' => e = .returned (.bool true) ∧ Quiet w w' :=
  (H w rfl).mono fun _ _ ⟨_, he, ⟨hv, hx⟩, hs⟩ => ⟨by rw [he, hv], hx, hs⟩

/-- the row's word on what a call leaves, where nothing that there was has changed -/
theorem post_quiet {H : Type} {enc : TypeId × Value → H} {P : Program} {f : Func} {s : ChangeSpec} {apart fresh handsOn : Bool} {W W' : World} {args : Array Value} {v : Value} {ds gs : List (DataW H)} {pa pv : List MemPlace}
    (hW : DataW.Whole enc P f.params.toList s.vars apart W args.toList ds gs (pa ++ pv)) (hq : Quiet W W')
    (hr : ∀ (b : Nat) (sp : Nat → Bool) (hd : Bool), DataW.TrodAll enc P W' b sp hd f.resultTypes.toList (v.resultList f.resultTypes.size) (s.fn H (ds ++ gs)).results [])
    (ha : DataW.TrodAll enc P W' 0 (fun b => decide (b < W.heap.size)) true f.params.toList args.toList (s.fn H (ds ++ gs)).args pa)
    (hg : DataW.TrodVars enc P W' (fun b => decide (b < W.heap.size)) s.vars (s.fn H (ds ++ gs)).vars pv) : s.post enc P f apart fresh handsOn false W args v W' :=
  ⟨ds, gs, _, [], pa, pv, hW, hr _ _ _, ha, hg, hq.frame _, fun e => (by cases e)⟩
end Go.Proofs.Vf
