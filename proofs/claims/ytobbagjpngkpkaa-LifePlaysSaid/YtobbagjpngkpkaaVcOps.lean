/- A library of this claim: rules that lead a call of a Go function to a formula over the heap alone, and laws on lists, maps and slices in the heap. No conditions. -/
import Derived.Test.YtobbagjpngkpkaaVcCore
import Derived.WalkSpells
import Derived.WalkLawsBesides
namespace Go.VC

def cellH (h : Heap) (b o : Nat) : Option Value :=
  match h[b]? with
  | some (.cells c _ _) => c[o]?
  | _ => none
def frozH (h : Heap) (b o : Nat) : Bool :=
  match h[b]? with
  | some (.cells _ _ (lo, hi)) => lo ≤ o && o < hi
  | _ => false
def setH (h : Heap) (b o : Nat) (v : Value) : Heap :=
  h.modify b fun
    | .cells c elem frozen => .cells (c.setIfInBounds o v) elem frozen
    | x => x

theorem cell_of (w : World) (b o : Nat) : w.cell? ⟨b, o, none⟩ = cellH w.heap b o := by
  unfold World.cell? cellH; rfl
theorem frozen_of (w : World) (b o : Nat) : w.frozen? ⟨b, o, none⟩ = frozH w.heap b o := rfl
theorem setCell_heap (w : World) (b o : Nat) (v : Value) : (w.setCell ⟨b, o, none⟩ v).heap = setH w.heap b o v := rfl

def ldCells (h : Heap) (b : Nat) : Nat → Nat → Option (List Value)
  | _, 0 => some []
  | o, n + 1 => match cellH h b o with
    | some v => (ldCells h b (o + 1) n).map (v :: ·)
    | none => none

def stCells (b : Nat) : Heap → Nat → List Value → Option Heap
  | h, _, [] => some h
  | h, o, v :: vs => if (cellH h b o).isSome && !frozH h b o && v.oneCell' then stCells b (setH h b o v) (o + 1) vs else none

def aggSize (P : Program) (t : TypeId) : Option (Option Nat) :=
  match P.info? t, P.underlying t with
  | some i, some (.struct _) => some (some i.size)
  | some i, some (.array _ _) => some (some i.size)
  | some i, some _ => if i.size = 1 then some none else none
  | _, _ => none

def fieldOff (P : Program) (s : TypeId) (i : Nat) : Option Nat :=
  match P.underlying s with
  | some (.struct fs) => match fs[i]? with
    | some f => match P.info? f.type with
      | some ti => if ti.size = 0 then none else some f.offset
      | none => none
    | none => none
  | _ => none

def fieldPart (P : Program) (s : TypeId) (i : Nat) : Option (Nat × Option Nat) :=
  match P.underlying s with
  | some (.struct fs) => match fs[i]? with
    | some f => (aggSize P f.type).map fun n => (f.offset, n)
    | none => none
  | _ => none

def elemInfo (P : Program) (t : TypeId) : Option (Option Nat × TypeId × Nat) :=
  match P.underlying t with
  | some (.array n e) => (P.info? e).map fun i => (some n, e, i.size)
  | some (.slice e) => (P.info? e).map fun i => (none, e, i.size)
  | _ => none

def zeroOf (P : Program) (t : TypeId) : Option Value := (P.info? t).bind (·.zero)

section
variable {P : Program} {f : Fr} {h : Heap} {K : Value → Heap → Prop} {ty : TypeId}

theorem op_move {x : Operand} {v : Value} (hx : ev f x = v) (H : K v h) : opH P (.move x) ty f K h := by
  intro w hw; subst hw; subst hx; exact ⟨Same.refl w, H⟩
theorem op_assign {x : Operand} {v : Value} (hx : ev f x = v) (H : K v h) : opH P (.assign x) ty f K h := by
  intro w hw; subst hw; subst hx; exact ⟨Same.refl w, H⟩

/-- from a run that keeps the world -/
theorem opH_of_run {op : Op} {v : Value} (hr : ∀ w : World, w.heap = h → (execOp (ev f) (bareOp op ty)).run P w = .ok (.value v) w) (H : K v h) : opH P op ty f K h := by
  intro w hw
  rw [hr w hw]
  exact ⟨Same.refl w, by rw [hw]; exact H⟩

theorem op_pick {c a b : Operand} {t : Bool} (hc : ev f c = .bool t) (H : K (bif t then ev f a else ev f b) h) : opH P (.pick c a b) ty f K h := by
  refine opH_of_run (fun w _ => ?_) H
  simp only [execOp, bareOp, hc, go_sem]
  cases t <;> rfl

theorem op_pick_or {c a b : Operand} {t u : Bool} (hc : ev f c = .bool t) (ha : ev f a = .bool true) (hb : t = false → ev f b = .bool u) (H : K (.bool (t || u)) h) : opH P (.pick c a b) ty f K h := by
  refine op_pick hc ?_
  cases t with
  | true => rw [cond_true, ha]; exact H
  | false => rw [cond_false, hb rfl]; exact H
theorem op_pick_and {c a b : Operand} {t u : Bool} (hc : ev f c = .bool t) (ha : t = true → ev f a = .bool u) (hb : ev f b = .bool false) (H : K (.bool (t && u)) h) : opH P (.pick c a b) ty f K h := by
  refine op_pick hc ?_
  cases t with
  | true => rw [cond_true, ha rfl]; exact H
  | false => rw [cond_false, hb]; exact H
theorem op_nilCheck {x : Operand} {a : Addr} (hx : ev f x = .pointer (some a)) (H : K (.pointer (some a)) h) : opH P (.nilCheck x) ty f K h := by
  refine opH_of_run (fun w _ => ?_) H
  simp only [execOp, bareOp, hx]; rfl
theorem op_nilCheck_fn {x : Operand} {g : FuncId} {a b : Array Value} (hx : ev f x = .func (.func g) a b) (H : K (.func (.func g) a b) h) : opH P (.nilCheck x) ty f K h := by
  refine opH_of_run (fun w _ => ?_) H
  simp only [execOp, bareOp, hx]; rfl

theorem op_fieldAddr {s : TypeId} {x : Operand} {i b o off : Nat} (hx : ev f x = .pointer (some ⟨b, o, none⟩)) (hf : fieldOff P s i = some off)
    (H : K (.pointer (some ⟨b, o + off, none⟩)) h) : opH P (.fieldAddr s x i) ty f K h := by
  refine opH_of_run (fun w _ => ?_) H
  unfold fieldOff at hf
  split at hf <;> try simp at hf
  rename_i fs hu
  split at hf <;> try simp at hf
  rename_i fd hfd
  split at hf <;> try simp at hf
  rename_i ti hti
  obtain ⟨hne, rfl⟩ := hf
  simp [execOp, bareOp, hx, Instr.fieldAt, run_underlying hu, hfd, Instr.sureAddr, fieldPlace, sizeOf, typeInfo, hti, hne, Addr.add_lit]

theorem run_loadCells (w : World) (b : Nat) : ∀ (n o i : Nat) (acc : Array Value) (vs : List Value), ldCells w.heap b (o + i) n = some vs →
    (loadCellsFrom ⟨b, o, none⟩ i n acc).run P w = .ok (acc ++ vs.toArray) w := by
  intro n
  induction n with
  | zero => intro o i acc vs hv; simp [ldCells] at hv; subst hv; simp [loadCellsFrom]
  | succ n ih =>
    intro o i acc vs hv
    simp only [ldCells] at hv
    split at hv
    · rename_i v hc
      cases hr : ldCells w.heap b (o + i + 1) n with
      | none => rw [hr] at hv; simp at hv
      | some rest =>
        rw [hr] at hv; simp at hv; subst hv
        have hadd : Addr.add ⟨b, o, none⟩ i = ⟨b, o + i, none⟩ := Addr.add_lit b o i
        have hc' : w.cell? ⟨b, o + i, none⟩ = some v := by rw [cell_of]; exact hc
        have := ih o (i + 1) (acc.push v) rest (by rw [← Nat.add_assoc]; exact hr)
        simp only [loadCellsFrom, Sem.run_bind, hadd, run_load, hc', Result.andThen_ok, this]
        simp
    · simp at hv

theorem agg_yes {t : TypeId} {n : Nat} (ha : aggSize P t = some (some n)) (w : World) : (isAgg t).run P w = .ok true w ∧ ∃ i, P.info? t = some i ∧ i.size = n := by
  unfold aggSize at ha
  cases hi : P.info? t with
  | none => rw [hi] at ha; simp at ha
  | some i =>
    cases hu : P.underlying t with
    | none => rw [hi, hu] at ha; simp at ha
    | some d =>
      rw [hi, hu] at ha
      refine ⟨?_, i, rfl, ?_⟩
      · cases d <;> simp_all [isAgg, run_underlying hu]
      · cases d <;> simp_all

theorem agg_no {t : TypeId} (ha : aggSize P t = some none) (w : World) : (isAgg t).run P w = .ok false w ∧ ∃ i, P.info? t = some i ∧ i.size = 1 := by
  unfold aggSize at ha
  cases hi : P.info? t with
  | none => rw [hi] at ha; simp at ha
  | some i =>
    cases hu : P.underlying t with
    | none => rw [hi, hu] at ha; simp at ha
    | some d =>
      rw [hi, hu] at ha
      refine ⟨?_, i, rfl, ?_⟩
      · cases d <;> simp_all [isAgg, run_underlying hu]
      · cases d <;> simp_all

theorem run_loadVar (w : World) (t : TypeId) (b o : Nat) (n : Nat) (vs : List Value) (ha : aggSize P t = some (some n)) (hv : ldCells w.heap b o n = some vs) :
    (loadVar t ⟨b, o, none⟩).run P w = .ok (.agg vs.toArray) w := by
  obtain ⟨h1, i, hi, rfl⟩ := agg_yes ha w
  have := run_loadCells (P := P) w b i.size o 0 #[] vs (by simpa using hv)
  simp [loadVar, h1, sizeOf, typeInfo, hi, loadCells, this]

theorem run_loadVar1 (w : World) (t : TypeId) (b o : Nat) (v : Value) (ha : aggSize P t = some none) (hv : cellH w.heap b o = some v) :
    (loadVar t ⟨b, o, none⟩).run P w = .ok v w := by
  have hc : w.cell? ⟨b, o, none⟩ = some v := by rw [cell_of]; exact hv
  obtain ⟨h1, -⟩ := agg_no ha w
  simp [loadVar, h1, hc]

theorem op_load1 {t : TypeId} {x : Operand} {b o : Nat} {v : Value} (hx : ev f x = .pointer (some ⟨b, o, none⟩)) (ha : aggSize P t = some none)
    (hc : cellH h b o = some v) (H : K v h) : opH P (.load t x) ty f K h := by
  refine opH_of_run (fun w hw => ?_) H
  subst hw
  simp [execOp, bareOp, hx, Instr.loadAt, Instr.sureAddr, run_loadVar1 w t b o v ha hc]

theorem op_loadN {t : TypeId} {x : Operand} {b o n : Nat} {vs : List Value} (hx : ev f x = .pointer (some ⟨b, o, none⟩)) (ha : aggSize P t = some (some n))
    (hc : ldCells h b o n = some vs) (H : K (.agg vs.toArray) h) : opH P (.load t x) ty f K h := by
  refine opH_of_run (fun w hw => ?_) H
  subst hw
  simp [execOp, bareOp, hx, Instr.loadAt, Instr.sureAddr, run_loadVar w t b o n vs ha hc]

theorem run_storeCells (b : Nat) : ∀ (vs : List Value) (o i : Nat) (w : World) (h' : Heap), stCells b w.heap (o + i) vs = some h' →
    ∃ w', (storeCells ⟨b, o, none⟩ vs i).run P w = .ok () w' ∧ Same w w' ∧ w'.heap = h' := by
  intro vs
  induction vs with
  | nil => intro o i w h' hs; simp [stCells] at hs; subst hs; exact ⟨w, by simp [storeCells], Same.refl w, rfl⟩
  | cons v vs ih =>
    intro o i w h' hs
    simp only [stCells] at hs
    split at hs
    · rename_i hc
      simp only [Bool.and_eq_true, Bool.not_eq_true'] at hc
      obtain ⟨⟨hc1, hc2⟩, hc3⟩ := hc
      obtain ⟨u, hu⟩ := Option.isSome_iff_exists.1 hc1
      have hcell : w.cell? ⟨b, o + i, none⟩ = some u := by rw [cell_of]; exact hu
      have hfz : w.frozen? ⟨b, o + i, none⟩ = false := by rw [frozen_of]; exact hc2
      obtain ⟨w', hr, hsame, hh⟩ := ih o (i + 1) (w.setCell ⟨b, o + i, none⟩ v) h' (by rw [setCell_heap, ← Nat.add_assoc]; exact hs)
      refine ⟨w', ?_, hsame, hh⟩
      have hadd : Addr.add ⟨b, o, none⟩ i = ⟨b, o + i, none⟩ := Addr.add_lit b o i
      simp only [storeCells, Sem.run_bind, hadd, run_store P w _ v .plain hc3, hcell, hfz]
      simpa using hr
    · simp at hs

theorem run_storeVar (w : World) (t : TypeId) (b o : Nat) (v : Value) (n : Nat) (h' : Heap) (ha : (P.info? t).map (·.size) = some n) (hn : v.cells.size = n)
    (hs : stCells b w.heap o v.cells.toList = some h') : ∃ w', (storeVar t ⟨b, o, none⟩ v).run P w = .ok () w' ∧ Same w w' ∧ w'.heap = h' := by
  obtain ⟨w', hr, hsame, hh⟩ := run_storeCells (P := P) b v.cells.toList o 0 w h' (by simpa using hs)
  refine ⟨w', ?_, hsame, hh⟩
  obtain ⟨i, hi, rfl⟩ := Option.map_eq_some_iff.1 ha
  simp [storeVar, sizeOf, typeInfo, hi, hn, hr]

def sizeT (P : Program) (t : TypeId) : Option Nat := (P.info? t).map (·.size)

theorem op_store {t : TypeId} {x y : Operand} {b o n : Nat} {v : Value} {h' : Heap} (hx : ev f x = .pointer (some ⟨b, o, none⟩)) (hy : ev f y = v) (ha : sizeT P t = some n)
    (hn : v.cells.size = n) (hs : stCells b h o v.cells.toList = some h') (H : K undef h') : opH P (.store t x y) ty f K h := by
  intro w hw
  subst hw
  obtain ⟨w', hr, hsame, hh⟩ := run_storeVar (P := P) w t b o v n h' ha hn hs
  subst hh
  simp [execOp, bareOp, hx, hy, Instr.storeAt, Instr.sureAddr, hr, opUpon]
  exact ⟨hsame, H⟩

/-- from a run that lays one block -/
theorem opH_of_new {op : Op} {v : Value} {ob : Obj} (hr : ∀ w : World, w.heap = h → (execOp (ev f) (bareOp op ty)).run P w = .ok (.value v) { w with heap := w.heap.push ob }) (H : K v (h.push ob)) : opH P op ty f K h := by
  intro w hw
  rw [hr w hw]
  exact ⟨Same.refl w, by show K v (w.heap.push ob); rw [hw]; exact H⟩

theorem op_alloc {t : TypeId} {z : Value} {h1 : Heap} (hz : zeroOf P t = some z) (hh : h1 = h.push (.cells z.cells t (0, 0))) (H : K (.pointer (some ⟨h.size, 0, none⟩)) h1) : opH P (.alloc t) ty f K h := by
  subst hh
  refine opH_of_new (fun w hw => ?_) H
  subst hw
  obtain ⟨i, hi, hiz⟩ := Option.bind_eq_some_iff.1 hz
  simp [execOp, bareOp, Instr.alloc, zeroValue, typeInfo, hi, hiz, newVar, newRow]

theorem op_box {t : TypeId} {x : Operand} {v : Value} {h1 : Heap} (hx : ev f x = v) (hh : h1 = h.push (.cells v.cells t (0, 0))) (H : K (.pointer (some ⟨h.size, 0, none⟩)) h1) : opH P (.box t x) ty f K h := by
  subst hh
  refine opH_of_new (fun w hw => ?_) H
  subst hw
  simp [execOp, bareOp, Instr.box, hx, newVar, newRow]

theorem op_extract {x : Operand} {i : Nat} {vs : List Value} {v : Value} (hx : ev f x = .tuple vs.toArray) (hv : vs[i]? = some v) (H : K v h) : opH P (.extract x i) ty f K h := by
  refine opH_of_run (fun w _ => ?_) H
  simp [execOp, bareOp, hx, Instr.extract, hv]

theorem run_part1 (w : World) {t : TypeId} {cs : Array Value} {off : Nat} {v : Value} (ha : aggSize P t = some none) (hv : cs[off]? = some v) : (part t cs off).run P w = .ok v w := by
  obtain ⟨h1, -⟩ := agg_no ha w
  simp [part, h1, hv]
theorem run_partN (w : World) {t : TypeId} {cs : Array Value} {off n : Nat} (ha : aggSize P t = some (some n)) : (part t cs off).run P w = .ok (.agg (cs.extract off (off + n))) w := by
  obtain ⟨h1, i, hi, rfl⟩ := agg_yes ha w
  simp [part, h1, sizeOf, typeInfo, hi]

theorem fieldPart_spec {s : TypeId} {i off : Nat} {r : Option Nat} (hf : fieldPart P s i = some (off, r)) : ∃ fs fd, P.underlying s = some (.struct fs) ∧ fs[i]? = some fd ∧ fd.offset = off ∧ aggSize P fd.type = some r := by
  unfold fieldPart at hf
  split at hf <;> try simp at hf
  rename_i fs hu
  split at hf <;> simp at hf
  rename_i fd hfd
  obtain ⟨ha, rfl⟩ := hf
  exact ⟨fs, fd, hu, hfd, rfl, ha⟩

theorem op_field1 {s : TypeId} {x : Operand} {i off : Nat} {cs : List Value} {v : Value} (hx : ev f x = .agg cs.toArray) (hf : fieldPart P s i = some (off, none)) (hv : cs[off]? = some v) (H : K v h) :
    opH P (.field s x i) ty f K h := by
  obtain ⟨fs, fd, hu, hfd, rfl, ha⟩ := fieldPart_spec hf
  refine opH_of_run (fun w _ => ?_) H
  simp [execOp, bareOp, hx, Instr.field, run_underlying hu, hfd, asAgg, run_part1 (cs := cs.toArray) w ha (by simpa using hv)]

theorem op_fieldN {s : TypeId} {x : Operand} {i off n : Nat} {cs cs' : List Value} (hx : ev f x = .agg cs.toArray) (hf : fieldPart P s i = some (off, some n)) (hv : (cs.drop off).take n = cs') (H : K (.agg cs'.toArray) h) :
    opH P (.field s x i) ty f K h := by
  obtain ⟨fs, fd, hu, hfd, rfl, ha⟩ := fieldPart_spec hf
  refine opH_of_run (fun w _ => ?_) H
  subst hv
  simp [execOp, bareOp, hx, Instr.field, run_underlying hu, hfd, asAgg, run_partN w ha, List.extract_toArray, List.extract_eq_take_drop]

/-! numbers -/
theorem op_add {t u : TypeId} {x y : Operand} {k : IntKind} {a b c : Int} (hx : ev f x = .int k a) (hy : ev f y = .int k b) (e : k.wrap (a + b) = c) (H : K (.int k c) h) : opH P (.binOp .add t x y u) ty f K h := by
  refine opH_of_run (fun w _ => ?_) H
  subst e; simp [execOp, bareOp, hx, hy, go_sem, Op.intArith]
theorem op_sub {t u : TypeId} {x y : Operand} {k : IntKind} {a b c : Int} (hx : ev f x = .int k a) (hy : ev f y = .int k b) (e : k.wrap (a - b) = c) (H : K (.int k c) h) : opH P (.binOp .sub t x y u) ty f K h := by
  refine opH_of_run (fun w _ => ?_) H
  subst e; simp [execOp, bareOp, hx, hy, go_sem, Op.intArith]
theorem op_mul {t u : TypeId} {x y : Operand} {k : IntKind} {a b c : Int} (hx : ev f x = .int k a) (hy : ev f y = .int k b) (e : k.wrap (a * b) = c) (H : K (.int k c) h) : opH P (.binOp .mul t x y u) ty f K h := by
  refine opH_of_run (fun w _ => ?_) H
  subst e; simp [execOp, bareOp, hx, hy, go_sem, Op.intArith]
theorem op_eql {t u : TypeId} {x y : Operand} {k : IntKind} {a b : Int} (hx : ev f x = .int k a) (hy : ev f y = .int k b) (H : K (.bool (decide (a = b))) h) : opH P (.binOp .eql t x y u) ty f K h := by
  refine opH_of_run (fun w _ => ?_) H
  have e : decide (a = b) = (a == b) := rfl
  rw [e]; simp [execOp, bareOp, hx, hy, go_sem]
theorem op_neq {t u : TypeId} {x y : Operand} {k : IntKind} {a b : Int} (hx : ev f x = .int k a) (hy : ev f y = .int k b) (H : K (.bool (!decide (a = b))) h) : opH P (.binOp .neq t x y u) ty f K h := by
  refine opH_of_run (fun w _ => ?_) H
  have e : (!decide (a = b)) = (a != b) := rfl
  rw [e]; simp [execOp, bareOp, hx, hy, go_sem]
theorem op_lss {t u : TypeId} {x y : Operand} {k : IntKind} {a b : Int} (hx : ev f x = .int k a) (hy : ev f y = .int k b) (H : K (.bool (decide (a < b))) h) : opH P (.binOp .lss t x y u) ty f K h := by
  refine opH_of_run (fun w _ => ?_) H
  simp [execOp, bareOp, hx, hy, go_sem]
theorem op_leq {t u : TypeId} {x y : Operand} {k : IntKind} {a b : Int} (hx : ev f x = .int k a) (hy : ev f y = .int k b) (H : K (.bool (decide (a ≤ b))) h) : opH P (.binOp .leq t x y u) ty f K h := by
  refine opH_of_run (fun w _ => ?_) H
  simp [execOp, bareOp, hx, hy, go_sem]
theorem op_gtr {t u : TypeId} {x y : Operand} {k : IntKind} {a b : Int} (hx : ev f x = .int k a) (hy : ev f y = .int k b) (H : K (.bool (decide (b < a))) h) : opH P (.binOp .gtr t x y u) ty f K h := by
  refine opH_of_run (fun w _ => ?_) H
  simp [execOp, bareOp, hx, hy, go_sem]
theorem op_geq {t u : TypeId} {x y : Operand} {k : IntKind} {a b : Int} (hx : ev f x = .int k a) (hy : ev f y = .int k b) (H : K (.bool (decide (b ≤ a))) h) : opH P (.binOp .geq t x y u) ty f K h := by
  refine opH_of_run (fun w _ => ?_) H
  simp [execOp, bareOp, hx, hy, go_sem]
theorem op_not {t : TypeId} {x : Operand} {a : Bool} (hx : ev f x = .bool a) (H : K (.bool (!a)) h) : opH P (.unOp .not t x) ty f K h := by
  refine opH_of_run (fun w _ => ?_) H
  simp [execOp, bareOp, hx, go_sem, Op.unary]
theorem op_neg {t : TypeId} {x : Operand} {k : IntKind} {a c : Int} (hx : ev f x = .int k a) (e : k.wrap (0 - a) = c) (H : K (.int k c) h) : opH P (.unOp .neg t x) ty f K h := by
  refine opH_of_run (fun w _ => ?_) H
  subst e; simp [execOp, bareOp, hx, Op.unary, Op.intArith]
theorem op_quo {t u : TypeId} {x y : Operand} {k : IntKind} {a b c : Int} (hx : ev f x = .int k a) (hy : ev f y = .int k b) (hb : b ≠ 0) (e : k.wrap (a.tdiv b) = c) (H : K (.int k c) h) : opH P (.binOp .quo t x y u) ty f K h := by
  refine opH_of_run (fun w _ => ?_) H
  subst e; simp [execOp, bareOp, hx, hy, go_sem, Op.intDiv, hb]
theorem op_rem {t u : TypeId} {x y : Operand} {k : IntKind} {a b c : Int} (hx : ev f x = .int k a) (hy : ev f y = .int k b) (hb : b ≠ 0) (e : a.tmod b = c) (H : K (.int k c) h) : opH P (.binOp .rem t x y u) ty f K h := by
  refine opH_of_run (fun w _ => ?_) H
  subst e; simp [execOp, bareOp, hx, hy, go_sem, Op.intDiv, hb]
def bitsAnd (k : IntKind) (a b : Int) : Int := k.wrap (((BitVec.ofInt k.bits a) &&& (BitVec.ofInt k.bits b)).toNat : Nat)
theorem op_and {t u : TypeId} {x y : Operand} {k : IntKind} {a b c : Int} (hx : ev f x = .int k a) (hy : ev f y = .int k b) (e : bitsAnd k a b = c) (H : K (.int k c) h) : opH P (.binOp .and t x y u) ty f K h := by
  refine opH_of_run (fun w _ => ?_) H
  subst e; simp [execOp, bareOp, hx, hy, binOp, Op.intBits, bitsAnd, eqGuard]
theorem op_shl {t u : TypeId} {x y : Operand} {k k' : IntKind} {a b c : Int} (hx : ev f x = .int k a) (hy : ev f y = .int k' b) (hb : 0 ≤ b) (e : k.wrap (a * 2 ^ (min b.toNat k.bits)) = c) (H : K (.int k c) h) : opH P (.binOp .shl t x y u) ty f K h := by
  refine opH_of_run (fun w _ => ?_) H
  have : ¬ b < 0 := by omega
  subst e; simp [execOp, bareOp, hx, hy, binOp, Op.shift, this, eqGuard]
theorem op_shr {t u : TypeId} {x y : Operand} {k k' : IntKind} {a b c : Int} (hx : ev f x = .int k a) (hy : ev f y = .int k' b) (hb : 0 ≤ b) (e : a.fdiv (2 ^ (min b.toNat k.bits)) = c) (H : K (.int k c) h) : opH P (.binOp .shr t x y u) ty f K h := by
  refine opH_of_run (fun w _ => ?_) H
  have : ¬ b < 0 := by omega
  subst e; simp [execOp, bareOp, hx, hy, binOp, Op.shift, this, eqGuard]
theorem run_equalIn_bool (w : World) (d : Nat) {t : TypeId} {a b : Bool} (ht : P.underlying t = some .bool) : (Op.equalIn (d + 1) t (.bool a) (.bool b)).run P w = .ok (a == b) w := by
  simp [Op.equalIn, run_underlying ht]
theorem run_eql_bool (w : World) {t : TypeId} {a b : Bool} (ht : P.underlying t = some .bool) : (binOp .eql t (.bool a) (.bool b)).run P w = .ok (.bool (decide (a = b))) w := by
  simp only [binOp]
  simp only [Op.equal, Op.maxDepth, Sem.run_bind, run_equalIn_bool w 9999 ht, Result.andThen_ok, Sem.run_pure]
  cases a <;> cases b <;> rfl
theorem run_neq_bool (w : World) {t : TypeId} {a b : Bool} (ht : P.underlying t = some .bool) : (binOp .neq t (.bool a) (.bool b)).run P w = .ok (.bool (!decide (a = b))) w := by
  simp only [binOp]
  simp only [Op.equal, Op.maxDepth, Sem.run_bind, run_equalIn_bool w 9999 ht, Result.andThen_ok, Sem.run_pure]
  cases a <;> cases b <;> rfl
theorem op_eqb {t u : TypeId} {x y : Operand} {a b : Bool} (ht : P.underlying t = some .bool) (hx : ev f x = .bool a) (hy : ev f y = .bool b) (H : K (.bool (decide (a = b))) h) : opH P (.binOp .eql t x y u) ty f K h := by
  refine opH_of_run (fun w _ => ?_) H
  simp only [execOp, bareOp, hx, hy, eqGuard_at_bool, pure_bind, Sem.run_bind, run_eql_bool w ht, Result.andThen_ok, Sem.run_pure]
theorem op_neb {t u : TypeId} {x y : Operand} {a b : Bool} (ht : P.underlying t = some .bool) (hx : ev f x = .bool a) (hy : ev f y = .bool b) (H : K (.bool (!decide (a = b))) h) : opH P (.binOp .neq t x y u) ty f K h := by
  refine opH_of_run (fun w _ => ?_) H
  simp only [execOp, bareOp, hx, hy, eqGuard_at_bool, pure_bind, Sem.run_bind, run_neq_bool w ht, Result.andThen_ok, Sem.run_pure]
theorem op_conv {s d : TypeId} {x : Operand} {k k' : IntKind} {a c : Int} (hx : ev f x = .int k a) (hs : (P.underlying s).map (fun _ => ()) = some ()) (hd : P.underlying d = some (.int k')) (e : k'.wrap a = c) (H : K (.int k' c) h) : opH P (.convert s d x) ty f K h := by
  refine opH_of_run (fun w _ => ?_) H
  obtain ⟨ds, hus, -⟩ := Option.map_eq_some_iff.1 hs
  subst e; simp [execOp, bareOp, hx, convert, run_underlying hus, run_underlying hd, Conv.intToInt]
theorem op_eq_map_nil {t u tk te : TypeId} {x y : Operand} {m : Option Nat} (hx : ev f x = .map m) (hy : ev f y = .map none) (ht : P.underlying t = some (.map tk te)) (H : K (.bool m.isNone) h) : opH P (.binOp .eql t x y u) ty f K h := by
  refine opH_of_run (fun w _ => ?_) H
  simp [execOp, bareOp, hx, hy, go_sem, run_eql_map_nil w t tk te m ht]
theorem op_eq_sl_nil {t u te : TypeId} {x y : Operand} {a : Option Addr} {n c : Nat} (hx : ev f x = .slice a n c) (hy : ev f y = .slice none 0 0) (ht : P.underlying t = some (.slice te)) (H : K (.bool a.isNone) h) : opH P (.binOp .eql t x y u) ty f K h := by
  refine opH_of_run (fun w _ => ?_) H
  simp [execOp, bareOp, hx, hy, go_sem, Lib.run_eql_slice_nil w t te a n c 0 0 ht]
theorem op_ne_sl_nil {t u te : TypeId} {x y : Operand} {a : Option Addr} {n c : Nat} (hx : ev f x = .slice a n c) (hy : ev f y = .slice none 0 0) (ht : P.underlying t = some (.slice te)) (H : K (.bool (!a.isNone)) h) : opH P (.binOp .neq t x y u) ty f K h := by
  refine opH_of_run (fun w _ => ?_) H
  simp [execOp, bareOp, hx, hy, go_sem, run_neq_slice_nil w t te a n c ht]
theorem pointee_of {t te : TypeId} (ht : P.underlying t = some (.pointer te)) : P.underlying t = some (.pointer (P.pointee t)) := by
  rw [ht]; simp [Program.pointee, ht]
theorem op_eq_ptr_nil {t u te : TypeId} {x y : Operand} {a : Option Addr} (hx : ev f x = .pointer a) (hy : ev f y = .pointer none) (ht : P.underlying t = some (.pointer te)) (H : K (.bool a.isNone) h) : opH P (.binOp .eql t x y u) ty f K h := by
  refine opH_of_run (fun w _ => ?_) H
  simp [execOp, bareOp, hx, hy, go_sem, run_eql_pointer_nil w t a (pointee_of ht)]
theorem op_ne_ptr_nil {t u te : TypeId} {x y : Operand} {a : Option Addr} (hx : ev f x = .pointer a) (hy : ev f y = .pointer none) (ht : P.underlying t = some (.pointer te)) (H : K (.bool (!a.isNone)) h) : opH P (.binOp .neq t x y u) ty f K h := by
  refine opH_of_run (fun w _ => ?_) H
  simp [execOp, bareOp, hx, hy, go_sem, run_neq_pointer_nil w t a (pointee_of ht)]

theorem elem_array {t e : TypeId} {n sz : Nat} (he : elemInfo P t = some (some n, e, sz)) : P.underlying t = some (.array n e) ∧ sizeT P e = some sz := by
  unfold elemInfo at he
  split at he <;> simp at he
  · obtain ⟨i, hi, rfl, rfl, rfl⟩ := he
    rename_i hu
    exact ⟨hu, by simp [sizeT, hi]⟩
theorem elem_slice {t e : TypeId} {sz : Nat} (he : elemInfo P t = some (none, e, sz)) : P.underlying t = some (.slice e) ∧ sizeT P e = some sz := by
  unfold elemInfo at he
  split at he <;> simp at he
  · obtain ⟨i, hi, rfl, rfl⟩ := he
    rename_i hu
    exact ⟨hu, by simp [sizeT, hi]⟩
theorem run_sizeOf {t : TypeId} {n : Nat} (ha : sizeT P t = some n) (w : World) : (sizeOf t).run P w = .ok n w := by
  obtain ⟨i, hi, rfl⟩ := Option.map_eq_some_iff.1 ha
  simp [sizeOf, typeInfo, hi]

theorem op_indexAddr_array {t e : TypeId} {x y : Operand} {b o n sz : Nat} {k : IntKind} {i : Int} (hx : ev f x = .pointer (some ⟨b, o, none⟩)) (hy : ev f y = .int k i) (he : elemInfo P t = some (some n, e, sz))
    (hi : 0 ≤ i ∧ i < n) (H : K (.pointer (some ⟨b, o + i.toNat * sz, none⟩)) h) : opH P (.indexAddr t x y) ty f K h := by
  obtain ⟨hu, hs⟩ := elem_array he
  refine opH_of_run (fun w _ => ?_) H
  simp [execOp, bareOp, hx, hy, Instr.indexAt, asIntOf, run_underlying hu, Instr.sureAddr, hi, run_sizeOf hs, Addr.add_lit]
theorem op_indexAddr_slice {t e : TypeId} {x y : Operand} {b o n c sz : Nat} {k : IntKind} {i : Int} (hx : ev f x = .slice (some ⟨b, o, none⟩) n c) (hy : ev f y = .int k i) (he : elemInfo P t = some (none, e, sz))
    (hi : 0 ≤ i ∧ i < n) (H : K (.pointer (some ⟨b, o + i.toNat * sz, none⟩)) h) : opH P (.indexAddr t x y) ty f K h := by
  obtain ⟨hu, hs⟩ := elem_slice he
  refine opH_of_run (fun w _ => ?_) H
  simp [execOp, bareOp, hx, hy, Instr.indexAt, asIntOf, run_underlying hu, hi, run_sizeOf hs, Addr.add_lit]
theorem op_index_array1 {t e : TypeId} {x y : Operand} {n sz : Nat} {cs : List Value} {k : IntKind} {i : Int} {v : Value} (hx : ev f x = .agg cs.toArray) (hy : ev f y = .int k i) (he : elemInfo P t = some (some n, e, sz)) (ha : aggSize P e = some none)
    (hi : 0 ≤ i ∧ i < n) (hv : cs[i.toNat * sz]? = some v) (H : K v h) : opH P (.index t x y) ty f K h := by
  obtain ⟨hu, hs⟩ := elem_array he
  refine opH_of_run (fun w _ => ?_) H
  simp [execOp, bareOp, hx, hy, Instr.index, asIntOf, run_underlying hu, hi, run_sizeOf hs, run_part1 (cs := cs.toArray) w ha (by simpa using hv)]
theorem op_index_string {t : TypeId} {x y : Operand} {s : ByteArray} {k : IntKind} {i : Int} {v : UInt8} (hx : ev f x = .string s) (hy : ev f y = .int k i) (hu : P.underlying t = some .string)
    (hi : 0 ≤ i) (hv : s[i.toNat]? = some v) (H : K (.int .u8 v.toNat) h) : opH P (.index t x y) ty f K h := by
  refine opH_of_run (fun w _ => ?_) H
  simp [execOp, bareOp, hx, hy, Instr.index, asIntOf, run_underlying hu, hi, hv]

theorem op_len_slice {t : TypeId} {x : Operand} {e : TypeId} {a : Option Addr} {n c : Nat} (hx : ev f x = .slice a n c) (hu : P.underlying t = some (.slice e)) (H : K (.int .i64 n) h) :
    opH P (.call ⟨.builtin .len, #[x], #[t]⟩) ty f K h := by
  refine opH_of_run (fun w _ => ?_) H
  simp [execOp, bareOp, resolve, invoke, builtin, hx, Builtin.len_, run_underlying hu, goInt]
theorem op_cap_slice {t : TypeId} {x : Operand} {e : TypeId} {a : Option Addr} {n c : Nat} (hx : ev f x = .slice a n c) (hu : P.underlying t = some (.slice e)) (H : K (.int .i64 c) h) :
    opH P (.call ⟨.builtin .cap, #[x], #[t]⟩) ty f K h := by
  refine opH_of_run (fun w _ => ?_) H
  simp [execOp, bareOp, resolve, invoke, builtin, hx, Builtin.cap_, run_underlying hu, goInt]
theorem op_len_string {t : TypeId} {x : Operand} {s : ByteArray} (hx : ev f x = .string s) (hu : P.underlying t = some .string) (H : K (.int .i64 s.size) h) :
    opH P (.call ⟨.builtin .len, #[x], #[t]⟩) ty f K h := by
  refine opH_of_run (fun w _ => ?_) H
  simp [execOp, bareOp, resolve, invoke, builtin, hx, Builtin.len_, run_underlying hu, goInt]
theorem op_len_array {t e : TypeId} {x : Operand} {n : Nat} (hu : P.underlying t = some (.array n e)) (H : K (.int .i64 n) h) :
    opH P (.call ⟨.builtin .len, #[x], #[t]⟩) ty f K h := by
  refine opH_of_run (fun w _ => ?_) H
  simp [execOp, bareOp, resolve, invoke, builtin, Builtin.len_, run_underlying hu, goInt]
theorem op_min {x y : Operand} {ts : Array TypeId} {k k' : IntKind} {a b : Int} (hx : ev f x = .int k a) (hy : ev f y = .int k' b) (H : K (.int k (if b < a then b else a)) h) :
    opH P (.call ⟨.builtin .min, #[x, y], ts⟩) ty f K h := by
  refine opH_of_run (fun w _ => ?_) H
  simp [execOp, bareOp, resolve, invoke, builtin, Builtin.min_, Builtin.min2, hx, hy]
theorem op_max {x y : Operand} {ts : Array TypeId} {k k' : IntKind} {a b : Int} (hx : ev f x = .int k a) (hy : ev f y = .int k' b) (H : K (.int k (if a < b then b else a)) h) :
    opH P (.call ⟨.builtin .max, #[x, y], ts⟩) ty f K h := by
  refine opH_of_run (fun w _ => ?_) H
  simp [execOp, bareOp, resolve, invoke, builtin, Builtin.max_, Builtin.max2, hx, hy]

theorem op_makeInterface {t : TypeId} {x : Operand} (ht : P.concrete t = true) (H : K (.iface t (ev f x)) h) : opH P (.makeInterface t x) ty f K h := by
  refine opH_of_run (fun w _ => ?_) H
  simp [execOp, bareOp, run_makeInterface w t _ ht]
theorem op_makeFunc {fn : Fn} {fi ca : Array Operand} (H : K (.func fn (fi.map (ev f)) (ca.map (ev f))) h) : opH P (.makeFunc fn fi ca) ty f K h := by
  refine opH_of_run (fun w _ => ?_) H
  simp [execOp, bareOp, Instr.makeFunc]
theorem op_makeMap {t : TypeId} (H : K (.map (some h.size)) (h.push (.map #[] 0))) : opH P (.makeMap t none) ty f K h := by
  refine opH_of_new (fun w hw => ?_) H
  subst hw
  simp [execOp, bareOp, Instr.makeMap]

theorem args_nil : ([] : List Operand).map (ev f) = [] := rfl
theorem args_cons {x : Operand} {xs : List Operand} {v : Value} {vs : List Value} (e : ev f x = v) (H : xs.map (ev f) = vs) : (x :: xs).map (ev f) = v :: vs := by
  rw [List.map_cons, e, H]

/-- A call of a named Go function. -/
theorem op_call {g : FuncId} {args : List Operand} {ts : Array TypeId} {vs : List Value} (he : ∀ args w, (callFunc g args).run P w = .ok (.enter g args) w) (ha : args.map (ev f) = vs) (H : CallsH P g vs.toArray h K) :
    opH P (.call ⟨.value (.func g), args.toArray, ts⟩) ty f K h := by
  intro w hw
  have e1 : args.toArray.map (ev f) = vs.toArray := by rw [List.map_toArray, ha]
  simp only [execOp, bareOp, resolve, Deferred.ofValue, ev, pure_bind, invoke, e1, he, opUpon, Array.empty_append, Array.append_empty]
  exact ⟨Same.refl w, by rw [hw]; exact H⟩
/-- A call of a function value. -/
theorem op_callv {g : FuncId} {x : Operand} {args : List Operand} {ts : Array TypeId} {vs : List Value} {fi ca : List Value} (hx : ev f x = .func (.func g) fi.toArray ca.toArray) (he : ∀ args w, (callFunc g args).run P w = .ok (.enter g args) w) (ha : args.map (ev f) = vs)
    (H : CallsH P g (fi ++ vs ++ ca).toArray h K) : opH P (.call ⟨.value x, args.toArray, ts⟩) ty f K h := by
  intro w hw
  have e1 : args.toArray.map (ev f) = vs.toArray := by rw [List.map_toArray, ha]
  simp only [execOp, bareOp, resolve, hx, Deferred.ofValue, pure_bind, invoke, e1, he, opUpon]
  exact ⟨Same.refl w, by rw [hw]; simpa using H⟩

theorem parts_nil : ([] : List (Nat × Operand)).map (fun p => (p.1, ev f p.2)) = [] := rfl
theorem parts_cons {i : Nat} {x : Operand} {xs : List (Nat × Operand)} {v : Value} {vs : List (Nat × Value)} (e : ev f x = v) (H : xs.map (fun p => (p.1, ev f p.2)) = vs) : ((i, x) :: xs).map (fun p => (p.1, ev f p.2)) = (i, v) :: vs := by
  rw [List.map_cons, H]; simp only [e]

theorem op_build {t : TypeId} {parts : List (Nat × Operand)} {vs : List (Nat × Value)} {z cs : Array Value} {fs : Array Field} {pl : List (Nat × Nat)} (hz : zeroOf P t = some (.agg z)) (hu : P.underlying t = some (.struct fs))
    (hp : fs.toList.map (fun fd => (sizeT P fd.type).map fun n => (fd.offset, n)) = pl.map some)
    (hps : parts.map (fun p => (p.1, ev f p.2)) = vs) (hf : Instr.fill (pl[·]?) z vs = some cs) (H : K (.agg cs) h) : opH P (.build t parts.toArray) ty f K h := by
  refine opH_of_run (fun w _ => ?_) H
  obtain ⟨i, hi, hiz⟩ := Option.bind_eq_some_iff.1 hz
  have key : ∀ (l : List Field) (q : List (Nat × Nat)), l.map (fun fd => (sizeT P fd.type).map fun n => (fd.offset, n)) = q.map some →
      (l.mapM (fun fd => do pure (fd.offset, ← sizeOf fd.type) : Field → Sem (Nat × Nat))).run P w = .ok q w := by
    intro l
    induction l with
    | nil => intro q hq; cases q <;> simp at hq; simp
    | cons a l ih =>
      intro q hq
      cases q with
      | nil => simp at hq
      | cons b q =>
        simp only [List.map_cons, List.cons.injEq] at hq
        obtain ⟨h1, h2⟩ := hq
        obtain ⟨m, hm, rfl⟩ := Option.map_eq_some_iff.1 h1
        have ih' := ih q h2
        simp only [bind_pure_comp] at ih'
        simp [List.mapM_cons, run_sizeOf hm, ih']
  have hk := key fs.toList pl hp
  have hps' : (parts.toArray.map fun (p : Nat × Operand) => (p.1, ev f p.2)).toList = vs := by simp [hps]
  have hpl : (fun x : Nat => pl.toArray[x]?) = (fun x : Nat => pl[x]?) := by funext x; simp
  have hk' : (fs.mapM (fun fd => do pure (fd.offset, ← sizeOf fd.type) : Field → Sem (Nat × Nat))).run P w = .ok pl.toArray w := by
    rw [Array.mapM_eq_mapM_toList]
    simp only [bind_pure_comp] at hk ⊢
    simp [hk]
  simp only [execOp, bareOp, Instr.build, Sem.run_bind, zeroValue, typeInfo, run_program, Result.andThen_ok, hi, hiz, Sem.run_pure, Value.cells, run_underlying hu, hk', hps', hpl, hf]

end
end Go.VC
