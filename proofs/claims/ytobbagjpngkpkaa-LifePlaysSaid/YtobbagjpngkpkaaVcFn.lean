/- A library of this claim: rules that lead a call of a Go function to a formula over the heap alone, and laws on lists, maps and slices in the heap. No conditions. -/
import Derived.Test.YtobbagjpngkpkaaVcDraw
namespace Go.VC

def loadV (P : Program) (t : TypeId) (h : Heap) (b o : Nat) : Option Value :=
  match aggSize P t with
  | some (some n) => (ldCells h b o n).map fun vs => .agg vs.toArray
  | some none => cellH h b o
  | none => none

def resV (P : Program) (f : Fr) (h : Heap) : List ResultVar → Option (List Value)
  | [] => some []
  | .tmp t :: rs => (resV P f h rs).map (f t :: ·)
  | .cell a t :: rs => match f a with
    | .pointer (some ⟨b, o, none⟩) => match loadV P t h b o with
      | some v => (resV P f h rs).map (v :: ·)
      | none => none
    | _ => none

def tupV : List Value → Value
  | [v] => v
  | vs => .tuple vs.toArray

def retQ (P : Program) (rs : List ResultVar) (R : Value → Heap → Prop) : Post
  | .normal, f, h => ∃ vs, resV P f h rs = some vs ∧ R (tupV vs) h
  | .ret, f, h => ∃ vs, resV P f h rs = some vs ∧ R (tupV vs) h
  | _, _, _ => False

theorem run_loadV {P : Program} (w : World) {t : TypeId} {b o : Nat} {v : Value} (hv : loadV P t w.heap b o = some v) : (loadVar t ⟨b, o, none⟩).run P w = .ok v w := by
  unfold loadV at hv
  split at hv
  · rename_i n ha
    obtain ⟨vs, hvs, rfl⟩ := Option.map_eq_some_iff.1 hv
    exact run_loadVar w t b o n vs ha hvs
  · rename_i ha
    exact run_loadVar1 w t b o v ha hv
  · simp at hv

theorem run_results {P : Program} {fn : Func} {n : Nat} {a : Act} {f : Fr} (r : Rel n a f) (w : World) {vs : List Value} (hv : resV P f w.heap fn.results.toList = some vs) :
    (results fn a.tmps).run P w = .ok (tupV vs) w := by
  have key : ∀ (l : List ResultVar) (vs : List Value), resV P f w.heap l = some vs →
      (l.mapM (fun
        | .tmp t => pure (a.tmps.getD t undef)
        | .cell x t => do loadVar t (← asAddr (a.tmps.getD x undef)) : ResultVar → Sem Value)).run P w = .ok vs w := by
    intro l
    induction l with
    | nil => intro vs h; simp [resV] at h; subst h; simp
    | cons x l ih =>
      intro vs h
      cases x with
      | tmp t =>
        simp only [resV] at h
        obtain ⟨us, hus, rfl⟩ := Option.map_eq_some_iff.1 h
        have := ih us hus
        simp only [List.mapM_cons, Sem.run_bind, Sem.run_pure, Result.andThen_ok, this]
        rw [r.get]
      | cell x t =>
        simp only [resV] at h
        split at h
        · rename_i b o hfa
          split at h
          · rename_i v hv
            obtain ⟨us, hus, rfl⟩ := Option.map_eq_some_iff.1 h
            have := ih us hus
            have hg := r.get x
            rw [hfa] at hg
            have ha : (asAddr (.pointer (some ⟨b, o, none⟩))).run P w = .ok ⟨b, o, none⟩ w := rfl
            simp only [List.mapM_cons, Sem.run_bind, Sem.run_pure, Result.andThen_ok, hg, ha, run_loadV w hv, this]
          · simp at h
        · simp at h
  have hk := key fn.results.toList vs hv
  unfold results
  rw [Array.mapM_eq_mapM_toList]
  simp only [Sem.run_bind, Sem.run_map]
  refine Eq.trans (congrArg (fun q : Result (List Value) => (q.andThen fun a w' => .ok a.toArray w').andThen fun (vs : Array Value) w' => (Pure.pure (if h : vs.size = 1 then vs[0] else Value.tuple vs) : Sem Value).run P w') hk) ?_
  simp only [Result.andThen_ok, Sem.run_pure]
  cases vs with
  | nil => rfl
  | cons v vs => cases vs <;> rfl

theorem callsH_of {P : Program} {g : FuncId} {fn : Func} {c : Code} {args : List Value} {h : Heap} {R : Value → Heap → Prop} (hf : P.funcs[g]? = some fn) (hb : fn.body = some c)
    (hn : Nat.ble args.length fn.ntmps = true) (H : ∀ f : Fr, (∀ i v, args[i]? = some v → f i = v) → wpf P fn.ntmps c (retQ P fn.results.toList R) f h) : CallsH P g args.toArray h R := by
  intro w hw
  have hn' : args.length ≤ fn.ntmps := Nat.le_of_ble_eq_true hn
  refine calls_of_wp hf hb ?_
  let a : Act := { tmps := args.toArray ++ Array.replicate (fn.ntmps - args.toArray.size) undef, defers := [] }
  have r : Rel fn.ntmps a (fun t => a.tmps.getD t undef) := ⟨by simp [a]; omega, rfl, fun _ => rfl⟩
  refine wp_mono (H _ (fun i v hv => ?_) a w r hw) ?_
  · show a.tmps.getD i undef = v
    have hlt : i < args.length := (List.getElem?_eq_some_iff.1 hv).1
    simp only [a, Array.getD_eq_getD_getElem?]
    rw [Array.getElem?_append_left (by simpa using hlt)]
    simp [hv]
  · rintro e a' w' ⟨hs, f', r', q⟩
    cases e with
    | normal =>
      obtain ⟨vs, hvs, hR⟩ := q
      exact ⟨r'.defers, _, run_results r' w' hvs, _, rfl, hR, hs⟩
    | ret =>
      obtain ⟨vs, hvs, hR⟩ := q
      exact ⟨r'.defers, _, run_results r' w' hvs, _, rfl, hR, hs⟩
    | exit _ => exact q.elim
    | goto _ => exact q.elim
    | panic _ => exact q.elim
    | outgrown => exact q.elim

section
variable {P : Program} {f : Fr} {h : Heap} {rs : List ResultVar}
theorem resV_nil : resV P f h [] = some [] := rfl
theorem resV_tmp {t : Nat} {v : Value} {vs : List Value} (e : f t = v) (H : resV P f h rs = some vs) : resV P f h (.tmp t :: rs) = some (v :: vs) := by
  simp [resV, H, e]
theorem resV_cell1 {a t b o : Nat} {v : Value} {vs : List Value} (e : f a = .pointer (some ⟨b, o, none⟩)) (ha : aggSize P t = some none) (hc : cellH h b o = some v) (H : resV P f h rs = some vs) : resV P f h (.cell a t :: rs) = some (v :: vs) := by
  simp [resV, e, loadV, ha, hc, H]
theorem resV_cellN {a t b o n : Nat} {us : List Value} {vs : List Value} (e : f a = .pointer (some ⟨b, o, none⟩)) (ha : aggSize P t = some (some n)) (hc : ldCells h b o n = some us) (H : resV P f h rs = some vs) : resV P f h (.cell a t :: rs) = some (.agg us.toArray :: vs) := by
  simp [resV, e, loadV, ha, hc, H]
theorem ldCells_nil {b o : Nat} : ldCells h b o 0 = some [] := rfl
theorem ldCells_cons {b o n : Nat} {v : Value} {vs : List Value} (hc : cellH h b o = some v) (H : ldCells h b (o + 1) n = some vs) : ldCells h b o (n + 1) = some (v :: vs) := by
  simp [ldCells, hc, H]
end

/-- A loop, as it is told: a state, a relation that every round keeps, a measure that every round lowers. -/
def loopH {σ : Type} (step : σ → (σ → Heap → Prop) → Heap → Prop) (s : σ) (h : Heap) : Prop :=
  ∃ (I : σ → Heap → Prop) (μ : σ → Heap → Nat), I s h ∧ ∀ s h, I s h → step s (fun s' h' => I s' h' ∧ μ s' h' < μ s h) h

/-- Where ways meet again. -/
def joinH {σ : Type} (R : σ → Heap → Prop) (B : (σ → Heap → Prop) → Prop) : Prop :=
  ∃ J : σ → Heap → Prop, (∀ s h, J s h → R s h) ∧ B J
theorem joinH_all {σ : Type} {R : σ → Heap → Prop} {B : (σ → Heap → Prop) → Prop} (H : B R) : joinH R B := ⟨R, fun _ _ h => h, H⟩

end Go.VC
