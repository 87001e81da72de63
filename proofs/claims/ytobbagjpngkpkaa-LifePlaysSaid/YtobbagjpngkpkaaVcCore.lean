/- A library of this claim: rules that lead a call of a Go function to a formula over the heap alone, and laws on lists, maps and slices in the heap. No conditions. -/
import Derived.WalkKit
namespace Go.VC

abbrev Heap := Array Obj
abbrev Fr := Nat → Value

def fput (f : Fr) (d : Nat) (v : Value) : Fr := fun t => bif Nat.beq t d then v else f t
def fputO (f : Fr) : Option Nat → Value → Fr
  | some d, v => fput f d v
  | none, _ => f
def ev (f : Fr) : Operand → Value
  | .tmp t => f t
  | .const v => v
  | .global g => .pointer (some ⟨g, 0, none⟩)
  | .func g => .func (.func g) #[] #[]

structure Rel (n : Nat) (a : Act) (f : Fr) : Prop where
  size : a.tmps.size = n
  defers : a.defers = []
  get : ∀ t, a.tmps.getD t undef = f t

theorem Rel.eval {n : Nat} {a : Act} {f : Fr} (r : Rel n a f) (x : Operand) : a.eval x = ev f x := by
  cases x with
  | tmp t => exact r.get t
  | _ => rfl

theorem Rel.eval' {n : Nat} {a : Act} {f : Fr} (r : Rel n a f) : a.eval = ev f := funext r.eval

theorem beq_false_of {a b : Nat} (h : ¬ a = b) : Nat.beq a b = false := by
  cases e : Nat.beq a b with
  | false => rfl
  | true => exact absurd (Nat.eq_of_beq_eq_true e) h

def dstOk (n : Nat) : Option Nat → Bool
  | some d => Nat.blt d n
  | none => true

theorem Rel.put {n : Nat} {a : Act} {f : Fr} (r : Rel n a f) {dst : Option Nat} (hd : dstOk n dst = true) (v : Value) : Rel n (a.put dst v) (fputO f dst v) := by
  cases dst with
  | none => exact r
  | some d =>
    have hd' : d < n := by simpa [dstOk] using hd
    have hs := r.size
    refine ⟨by simp [Act.put, hs], r.defers, fun t => ?_⟩
    have hg := r.get t
    simp only [Act.put, fputO, fput]
    by_cases h : t = d
    · subst h
      simp [Array.getD_eq_getD_getElem?, hs, hd']
    · have hb : Nat.beq t d = false := beq_false_of h
      have h' : ¬ d = t := fun e => h e.symm
      rw [hb, cond_false, ← hg]
      simp only [Array.getD_eq_getD_getElem?]
      rw [Array.getElem?_setIfInBounds_ne h']

def Same (w w' : World) : Prop := w'.tape = w.tape ∧ w'.os = w.os ∧ w'.output = w.output
theorem Same.refl (w : World) : Same w w := ⟨rfl, rfl, rfl⟩
theorem Same.trans {w w' w'' : World} (h : Same w w') (h' : Same w' w'') : Same w w'' :=
  ⟨h'.1.trans h.1, h'.2.1.trans h.2.1, h'.2.2.trans h.2.2⟩

/-- A call, said over the heap alone: it returns, and what is told holds. -/
def CallsH (P : Program) (g : FuncId) (args : Array Value) (h : Heap) (R : Value → Heap → Prop) : Prop :=
  ∀ w : World, w.heap = h → Calls P g args w fun e w' => ∃ v, e = .returned v ∧ R v w'.heap ∧ Same w w'

theorem CallsH.mono {P : Program} {g : FuncId} {args : Array Value} {h : Heap} {R R' : Value → Heap → Prop} (H : CallsH P g args h R)
    (hr : ∀ v h', R v h' → R' v h') : CallsH P g args h R' :=
  fun w hw => (H w hw).mono fun _ _ ⟨v, he, hR, hs⟩ => ⟨v, he, hr _ _ hR, hs⟩

abbrev Post := Exit → Fr → Heap → Prop

def wpf (P : Program) (n : Nat) (c : Code) (Q : Post) (f : Fr) (h : Heap) : Prop :=
  ∀ a w, Rel n a f → w.heap = h → c.wp P (fun e a' w' => Same w w' ∧ ∃ f', Rel n a' f' ∧ Q e f' w'.heap) a w

abbrev thenQ (next : Fr → Heap → Prop) (Q : Post) : Post
  | .normal, f, h => next f h
  | e, f, h => Q e f h
abbrev blockQ (id : Nat) (Q : Post) : Post
  | .exit id', f, h => bif Nat.beq id' id then Q .normal f h else Q (.exit id') f h
  | e, f, h => Q e f h

section rules
variable {P : Program} {n : Nat} {Q : Post} {f : Fr} {h : Heap}

theorem wpf_mono {c : Code} {Q' : Post} (H : wpf P n c Q f h) (hq : ∀ e f h, Q e f h → Q' e f h) : wpf P n c Q' f h :=
  fun a w r hw => wp_mono (H a w r hw) fun _ _ _ ⟨hs, f', r', q⟩ => ⟨hs, f', r', hq _ _ _ q⟩

theorem wpf_skip (H : Q .normal f h) : wpf P n .skip Q f h := fun _ w r hw => wp_skip ⟨Same.refl w, f, r, by rw [hw]; exact H⟩
theorem wpf_label {l : Nat} (H : Q .normal f h) : wpf P n (.label l) Q f h := fun _ w r hw => wp_label ⟨Same.refl w, f, r, by rw [hw]; exact H⟩
theorem wpf_exit {id : Nat} (H : Q (.exit id) f h) : wpf P n (.exit id) Q f h := fun _ w r hw => wp_exit ⟨Same.refl w, f, r, by rw [hw]; exact H⟩
theorem wpf_goto {l : Nat} (H : Q (.goto l) f h) : wpf P n (.goto l) Q f h := fun _ w r hw => wp_goto ⟨Same.refl w, f, r, by rw [hw]; exact H⟩
theorem wpf_ret (H : Q .ret f h) : wpf P n .ret Q f h := fun _ w r hw => wp_ret ⟨Same.refl w, f, r, by rw [hw]; exact H⟩

theorem wpf_seq {x y : Code} (H : wpf P n x (thenQ (wpf P n y Q) Q) f h) : wpf P n (.seq x y) Q f h := by
  intro a w r hw
  refine wp_seq (wp_mono (H a w r hw) ?_)
  rintro e a' w' ⟨hs, f', r', q⟩
  cases e with
  | normal => exact wp_mono (q a' w' r' rfl) fun _ _ _ ⟨hs', f'', r'', q'⟩ => ⟨hs.trans hs', f'', r'', q'⟩
  | _ => exact ⟨hs, f', r', q⟩

/-- The assertion between two pieces is chosen. -/
theorem wpf_seq_cut {x y : Code} (J : Fr → Heap → Prop) (H : wpf P n x (thenQ J Q) f h) (H' : ∀ f h, J f h → wpf P n y Q f h) : wpf P n (.seq x y) Q f h :=
  wpf_seq (wpf_mono H fun e f h q => by cases e <;> first | exact H' f h q | exact q)

theorem wpf_cond {c : Operand} {x y : Code} (t : Bool) (hc : ev f c = .bool t) (ht : t = true → wpf P n x Q f h) (hf : t = false → wpf P n y Q f h) :
    wpf P n (.cond c x y) Q f h := by
  intro a w r hw
  refine wp_cond_split (t := t) (by rw [r.eval]; exact hc) (fun e => ht e a w r hw) (fun e => hf e a w r hw)

theorem wpf_block {id : Nat} {c : Code} (H : wpf P n c (blockQ id Q) f h) : wpf P n (.block id c) Q f h := by
  intro a w r hw
  refine wp_block (wp_mono (H a w r hw) ?_)
  rintro e a' w' ⟨hs, f', r', q⟩
  cases e with
  | exit id' =>
    simp only [Exit.inBlock]
    simp only [blockQ] at q
    by_cases hid : id' = id
    · subst hid
      have hb : Nat.beq id' id' = true := by simp
      rw [hb, cond_true] at q
      simp only [if_true]; exact ⟨hs, f', r', q⟩
    · have hb : Nat.beq id' id = false := beq_false_of hid
      rw [hb, cond_false] at q
      simp only [hid, if_false]; exact ⟨hs, f', r', q⟩
  | _ => exact ⟨hs, f', r', q⟩

theorem wpf_loop {c : Code} (I : Fr → Heap → Prop) (μ : Fr → Heap → Nat) (h0 : I f h)
    (round : ∀ f h, I f h → wpf P n c (thenQ (fun f' h' => I f' h' ∧ μ f' h' < μ f h) Q) f h) : wpf P n (.loop c) Q f h := by
  intro a w r hw
  refine wp_loop (fun a' w' => Same w w' ∧ ∃ f', Rel n a' f' ∧ I f' w'.heap) (fun a' w' => μ (fun t => a'.tmps.getD t undef) w'.heap) ⟨Same.refl w, f, r, by rw [hw]; exact h0⟩ ?_
  rintro a1 w1 ⟨hs1, f1, r1, hI⟩
  have e1 : (fun t => a1.tmps.getD t undef) = f1 := funext r1.get
  refine wp_mono (round f1 w1.heap hI a1 w1 r1 rfl) ?_
  rintro e a2 w2 ⟨hs2, f2, r2, q⟩
  cases e with
  | normal =>
    have e2 : (fun t => a2.tmps.getD t undef) = f2 := funext r2.get
    exact ⟨⟨hs1.trans hs2, f2, r2, q.1⟩, by rw [e1, e2]; exact q.2⟩
  | _ => exact ⟨hs1.trans hs2, f2, r2, q⟩

/-- What one operation comes to, over the heap. -/
def opUpon (P : Program) (K : Value → Heap → Prop) (w : World) : Result Next → Prop
  | .ok (.value v) w' => Same w w' ∧ K v w'.heap
  | .ok .skip w' => Same w w' ∧ K undef w'.heap
  | .ok (.enter g args) w' => Same w w' ∧ CallsH P g args w'.heap K
  | _ => False

def bareOp (op : Op) (ty : TypeId) : Oper := ⟨none, op, ty, "", #[], none⟩

def opH (P : Program) (op : Op) (ty : TypeId) (f : Fr) (K : Value → Heap → Prop) (h : Heap) : Prop :=
  ∀ w : World, w.heap = h → opUpon P K w ((execOp (ev f) (bareOp op ty)).run P w)

theorem execOp_bare (ρ : Operand → Value) (o : Oper) : execOp ρ o = execOp ρ (bareOp o.op o.type) := rfl

/-- From the operation's law to the base's. -/
theorem opH.wp {o : Oper} {K : Value → Heap → Prop} {next : Act → World → Prop} {Q' : Exit → Act → World → Prop} {a : Act} {w : World} {w0 : World}
    (H : opH P o.op o.type f K h) (r : Rel n a f) (hw : w.heap = h) (hs : Same w0 w)
    (hk : ∀ v w', Same w0 w' → K v w'.heap → next (a.put o.dst v) w') : o.wp P a w next Q' := by
  have H' := H w hw
  unfold Oper.wp
  rw [execOp_bare, r.eval']
  generalize (execOp (ev f) (bareOp o.op o.type)).run P w = R at H'
  cases R with
  | halt x w' => simp only [opUpon] at H'
  | ok x w' =>
    cases x <;> simp only [opUpon] at H'
    case value v => exact hk v w' (hs.trans H'.1) H'.2
    case skip => exact hk _ w' (hs.trans H'.1) H'.2
    case enter g args =>
      refine (H'.2 w' rfl).mono ?_
      rintro e w'' ⟨v, rfl, hK, hs'⟩
      exact hk v w'' ((hs.trans H'.1).trans hs') hK

theorem opH.mono {op : Op} {ty : TypeId} {K K' : Value → Heap → Prop} (H : opH P op ty f K h) (hk : ∀ v h, K v h → K' v h) : opH P op ty f K' h := by
  intro w hw
  have H' := H w hw
  generalize (execOp (ev f) (bareOp op ty)).run P w = R at H' ⊢
  cases R with
  | halt x w' => simp only [opUpon] at H'
  | ok x w' =>
    cases x <;> simp only [opUpon] at H' ⊢
    case value v => exact ⟨H'.1, hk _ _ H'.2⟩
    case skip => exact ⟨H'.1, hk _ _ H'.2⟩
    case enter g args => exact ⟨H'.1, H'.2.mono hk⟩

/-- whether an operation is wanted, by its guard. -/
def guardOk (ops : List Oper) (f : Fr) : Option (Nat × Bool) → Option Bool
  | none => some true
  | some (j, want) =>
    match (ops[j]?).bind (·.dst) with
    | none => some false
    | some t => match f t with
      | .bool b => some (bif want then b else !b)
      | _ => some false

theorem guardOk_spec {ops : List Oper} {o : Oper} {a : Act} {b : Bool} (r : Rel n a f) (hg : guardOk ops f o.guard = some b)
    (hd : ∀ x ∈ ops, dstOk n x.dst = true) : Region.wanted o (yielded ops.toArray a.tmps) = b := by
  unfold Region.wanted
  cases hgd : o.guard with
  | none => rw [hgd] at hg; simpa [guardOk] using hg
  | some jw =>
    obtain ⟨j, want⟩ := jw
    rw [hgd] at hg
    simp only [guardOk] at hg
    simp only [yielded, List.getElem?_toArray]
    cases hj : (ops[j]?).bind (·.dst) with
    | none => rw [hj] at hg; simp at hg ⊢; rw [hg]
    | some t =>
      rw [hj] at hg
      have htn : t < n := by
        cases ho : ops[j]? with
        | none => rw [ho] at hj; simp at hj
        | some x =>
          rw [ho] at hj
          have := hd x (List.mem_of_getElem? ho)
          simp at hj
          rw [hj] at this
          simpa [dstOk] using this
      have hlt : t < a.tmps.size := by rw [r.size]; exact htn
      have hft := r.get t
      rw [Array.getD_eq_getD_getElem?, Array.getElem?_eq_getElem hlt] at hft
      simp only [Option.getD_some] at hft
      simp only [Option.bind_some, Array.getElem?_eq_getElem hlt]
      simp only at hg
      rw [← hft] at hg
      generalize a.tmps[t] = v at hg ⊢
      cases v <;> simp only [Option.some.injEq] at hg <;> subst hg <;> first | rfl | (simp; done) | (rename_i bb; cases bb <;> cases want <;> rfl)

/-- The operations of a region that keeps its order. -/
def wpL (P : Program) (n : Nat) (ops : List Oper) (K : Fr → Heap → Prop) : List Oper → Fr → Heap → Prop
  | [], f, h => K f h
  | o :: rest, f, h => ∃ b, guardOk ops f o.guard = some b ∧
      (b = true → opH P o.op o.type f (fun v h' => wpL P n ops K rest (fputO f o.dst v) h') h) ∧ (b = false → wpL P n ops K rest (fputO f o.dst undef) h)

theorem wpL_sound {ops : List Oper} {K : Fr → Heap → Prop} {Q' : Exit → Act → World → Prop} {w0 : World} (hd : ∀ x ∈ ops, dstOk n x.dst = true)
    (hQ : ∀ a w f, Same w0 w → Rel n a f → K f w.heap → Q' .normal a w) : ∀ (l : List Oper) (k : Nat) (_ : ∀ j, l[j]? = ops[k + j]?) (f : Fr) (a : Act) (w : World),
      Same w0 w → Rel n a f → wpL P n ops K l f w.heap → wpOps P ops.toArray Q' (List.range' k l.length) a w := by
  intro l
  induction l with
  | nil => intro k _ f a w hs r H; exact hQ a w f hs r H
  | cons o rest ih =>
    intro k hl f a w hs r H
    obtain ⟨b, hg, ht, hf⟩ := H
    have h0 : ops[k]? = some o := by simpa using (hl 0).symm
    have hmem : o ∈ ops := List.mem_of_getElem? h0
    have hl' : ∀ j, rest[j]? = ops[k + 1 + j]? := fun j => by have := hl (j + 1); simpa [Nat.add_assoc, Nat.add_comm 1 j] using this
    have hw := guardOk_spec r hg hd
    simp only [List.length_cons, List.range'_succ, wpOps, List.getElem?_toArray, h0]
    cases b with
    | true =>
      rw [hw, if_pos rfl]
      exact .inl ((ht rfl).wp r rfl hs fun v w' hs' hK => ih (k + 1) hl' _ _ w' hs' (r.put (hd o hmem) v) hK)
    | false =>
      rw [hw]
      exact ih (k + 1) hl' _ _ w hs (r.put (hd o hmem) undef) (hf rfl)

def dstsOk (n : Nat) (ops : List Oper) : Bool := ops.all fun o => dstOk n o.dst

theorem dstsOk_spec {ops : List Oper} (hd : dstsOk n ops = true) : ∀ x ∈ ops, dstOk n x.dst = true := fun x hx => List.all_eq_true.1 hd x hx

theorem wpf_region {id : Nat} {ops : List Oper} (hd : dstsOk n ops = true) (H : wpL P n ops (Q .normal) ops f h) : wpf P n (.region id ops.toArray false) Q f h := by
  intro a w r hw
  refine wp_region ?_
  have := wpL_sound (P := P) (w0 := w) (Q' := fun e a' w' => Same w w' ∧ ∃ f', Rel n a' f' ∧ Q e f' w'.heap) (dstsOk_spec hd) (fun a' w' f' hs r' hK => ⟨hs, f', r', hK⟩) ops 0 (by simp) f a w (Same.refl w) r (by rw [hw]; exact H)
  simpa [List.range_eq_range'] using this

theorem wpL_nil {ops : List Oper} {K : Fr → Heap → Prop} (H : K f h) : wpL P n ops K [] f h := H
theorem wpL_op {ops : List Oper} {K : Fr → Heap → Prop} {dst : Option Nat} {op : Op} {ty : TypeId} {pos : String} {after : Array Edge} {rest : List Oper}
    (H : opH P op ty f (fun v h' => wpL P n ops K rest (fputO f dst v) h') h) : wpL P n ops K (⟨dst, op, ty, pos, after, none⟩ :: rest) f h :=
  ⟨true, rfl, fun _ => H, fun e => by cases e⟩
theorem wpL_yes {ops : List Oper} {K : Fr → Heap → Prop} {dst : Option Nat} {op : Op} {ty : TypeId} {pos : String} {after : Array Edge} {rest : List Oper} {g : Nat × Bool}
    (hg : guardOk ops f (some g) = some true) (H : opH P op ty f (fun v h' => wpL P n ops K rest (fputO f dst v) h') h) : wpL P n ops K (⟨dst, op, ty, pos, after, some g⟩ :: rest) f h :=
  ⟨true, hg, fun _ => H, fun e => by cases e⟩
theorem gv {α : Type} {b : Bool} {v u : α} (hb : b = true) : (bif b then v else u) = v := by rw [hb]; rfl
/-- a quiet operation under a guard -/
theorem wpL_gq {ops : List Oper} {K : Fr → Heap → Prop} {dst : Option Nat} {op : Op} {ty : TypeId} {pos : String} {after : Array Edge} {rest : List Oper} {g : Nat × Bool} {b : Bool}
    (hg : guardOk ops f (some g) = some b) (v : Value) (hop : b = true → ∀ N : Value → Heap → Prop, N v h → opH P op ty f N h) (H : wpL P n ops K rest (fputO f dst (bif b then v else undef)) h) :
    wpL P n ops K (⟨dst, op, ty, pos, after, some g⟩ :: rest) f h := by
  cases b with
  | true => exact ⟨true, hg, fun _ => hop rfl _ H, fun e => by cases e⟩
  | false => exact ⟨false, hg, (fun e => by cases e), fun _ => H⟩
/-- a loud one under a guard -/
theorem wpL_gl {ops : List Oper} {K : Fr → Heap → Prop} {dst : Option Nat} {op : Op} {ty : TypeId} {pos : String} {after : Array Edge} {rest : List Oper} {g : Nat × Bool} {b : Bool}
    (hg : guardOk ops f (some g) = some b) (J : Value → Heap → Prop) (hout : ∀ v h', J v h' → wpL P n ops K rest (fputO f dst v) h') (ht : b = true → opH P op ty f J h) (hf : b = false → J undef h) :
    wpL P n ops K (⟨dst, op, ty, pos, after, some g⟩ :: rest) f h := by
  cases b with
  | true => exact ⟨true, hg, fun _ => (ht rfl).mono hout, fun e => by cases e⟩
  | false => exact ⟨false, hg, (fun e => by cases e), fun _ => hout _ _ (hf rfl)⟩
theorem guard_slot {ops : List Oper} {t j : Nat} {want b : Bool} (hj : (ops[j]?).bind (·.dst) = some t) (hf : f t = .bool b) : guardOk ops f (some (j, want)) = some (bif want then b else !b) := by
  simp only [guardOk, hj, hf]
/-- the guard's own value was under a guard -/
theorem guard_cond {ops : List Oper} {t j : Nat} {want b c : Bool} (hj : (ops[j]?).bind (·.dst) = some t) (hf : f t = (bif c then .bool b else undef)) : guardOk ops f (some (j, want)) = some (c && (bif want then b else !b)) := by
  simp only [guardOk, hj, hf]
  cases c <;> rfl
theorem wpL_no {ops : List Oper} {K : Fr → Heap → Prop} {dst : Option Nat} {op : Op} {ty : TypeId} {pos : String} {after : Array Edge} {rest : List Oper} {g : Nat × Bool}
    (hg : guardOk ops f (some g) = some false) (H : wpL P n ops K rest (fputO f dst undef) h) : wpL P n ops K (⟨dst, op, ty, pos, after, some g⟩ :: rest) f h :=
  ⟨false, hg, (fun e => by cases e), fun _ => H⟩

end rules

end Go.VC
