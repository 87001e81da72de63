/- A library of this claim: rules that lead a call of a Go function to a formula over the heap alone, and laws on lists, maps and slices in the heap. No conditions. -/
import Derived.Test.YtobbagjpngkpkaaVcCont
namespace Go.VC

def rowInfo (P : Program) (t : TypeId) : Option (TypeId × Nat × Nat × Value) :=
  match P.underlying t with
  | some (.slice e) => match P.info? e with
    | some i => i.zero.map fun z => (e, i.size, i.bytes, z)
    | none => none
  | _ => none

theorem rowInfo_spec {P : Program} {t e : TypeId} {sz by_ : Nat} {z : Value} (hr : rowInfo P t = some (e, sz, by_, z)) : P.underlying t = some (.slice e) ∧ ∃ i, P.info? e = some i ∧ i.size = sz ∧ i.bytes = by_ ∧ i.zero = some z := by
  unfold rowInfo at hr
  split at hr <;> try simp at hr
  rename_i e' hu
  split at hr <;> try simp at hr
  rename_i i hi
  obtain ⟨z', hz, rfl, rfl, rfl, rfl⟩ := hr
  exact ⟨hu, i, hi, rfl, rfl, hz⟩

/-- the first m elements' cells -/
def firstH (h : Heap) (sz m : Nat) : Value → Option (List Value)
  | .slice (some ⟨b, o, none⟩) _ _ => ldCells h b o (m * sz)
  | .slice none _ _ => some []
  | .string s => some ((s.extract 0 m).data.toList.map fun b => .int .u8 b.toNat)
  | _ => none
def lenH : Value → Option Nat
  | .slice _ n _ => some n
  | .string s => some s.size
  | _ => none

section
variable {P : Program} {f : Fr} {h : Heap} {K : Value → Heap → Prop} {ty : TypeId}

theorem run_firstH (w : World) {sz m : Nat} {v : Value} {l : List Value} (hf : firstH w.heap sz m v = some l) : (Builtin.firstCells sz m v).run P w = .ok l.toArray w := by
  unfold firstH at hf
  split at hf
  · rename_i b o _ _
    have := run_loadCells (P := P) w b (m * sz) o 0 #[] l (by simpa using hf)
    simpa [Builtin.firstCells, loadCells] using this
  · simp at hf; subst hf; rfl
  · simp at hf; subst hf; simp [Builtin.firstCells]; apply Array.ext'; simp
  · simp at hf

theorem run_lenH (w : World) {v : Value} {n : Nat} (hl : lenH v = some n) : (Builtin.lenOf v).run P w = .ok n w := by
  cases v <;> simp_all [lenH, Builtin.lenOf]

theorem growBy_le (k : Nat) : ∀ (r c : Nat), c ≤ 2 * k + 192 → Builtin.growBy k r c ≤ 2 * k + 192 := by
  intro r
  induction r with
  | zero => intro c hc; simpa [Builtin.growBy] using hc
  | succ r ih =>
    intro c hc
    simp only [Builtin.growBy]
    split
    · exact hc
    · exact ih _ (by omega)
theorem nextslicecap_le {k c : Nat} (hc : c < k) : Builtin.nextslicecap k c ≤ 2 * k + 192 := by
  unfold Builtin.nextslicecap
  split
  · omega
  · split
    · omega
    · exact growBy_le k 4 c (by omega)

theorem op_append {t t' e : TypeId} {x y : Operand} {sz by_ n c m : Nat} {z src : Value} {base : Option Addr} {news : List Value} (hr : rowInfo P t = some (e, sz, by_, z))
    (ht' : (∃ e', P.underlying t' = some (.slice e')) ∨ P.underlying t' = some .string)
    (hx : ev f x = .slice base n c) (hy : ev f y = src) (hm : lenH src = some m) (hn : firstH h sz m src = some news) (hfit : (n + m) * by_ ≤ 1099511627776) (hlen : n + m ≤ 1099511627776) (hby : by_ ≤ 1048576)
    (H0 : n + m ≤ c → (∃ b o h', base = some ⟨b, o, none⟩ ∧ stCells b h (o + n * sz) news = some h' ∧ K (.slice base (n + m) c) h') ∨ (base = none ∧ K (.slice none (n + m) c) h))
    (H1 : c < n + m → ∃ olds, firstH h sz n (.slice base n c) = some olds ∧ ∀ cap, n + m ≤ cap → K (.slice (some ⟨h.size, 0, none⟩) (n + m) cap) (h.push (.cells ((olds ++ news).toArray ++ Builtin.zeroCells z.cells (cap - (n + m))) e (0, 0)))) :
    opH P (.call ⟨.builtin .append, #[x, y], #[t, t']⟩) ty f K h := by
  obtain ⟨hu, i, hi, rfl, rfl, hz⟩ := rowInfo_spec hr
  intro w hw
  subst hw
  have hs1 := run_sizeOf (P := P) (t := e) (n := i.size) (by simp [sizeT, hi]) w
  have hl := fun w => run_lenH (P := P) w hm
  have hf := run_firstH (P := P) w hn
  have hti : ∀ w, (typeInfo e).run P w = .ok i w := fun w => by simp [typeInfo, hi]
  simp only [execOp, bareOp, resolve, invoke, builtin, pure_bind, List.map_toArray, List.map_cons, List.map_nil, hx, hy, Builtin.append_, List.getElem?_toArray, List.getElem?_cons_zero, List.getElem?_cons_succ]
  by_cases hroom : n + m ≤ c
  · rcases ht' with ⟨e', hd'⟩ | hd' <;> rcases H0 hroom with ⟨b, o, h', rfl, hst, hK⟩ | ⟨rfl, hK⟩
    case inl.inl | inr.inl =>
      obtain ⟨w', hrun, hsame, hh⟩ := run_storeCells (P := P) b news (o + n * i.size) 0 w h' (by simpa using hst)
      subst hh
      have hadd : Addr.add ⟨b, o, none⟩ (n * i.size) = ⟨b, o + n * i.size, none⟩ := Addr.add_lit _ _ _
      simp only [Sem.run_bind, run_underlying hu, run_underlying hd', Result.andThen_ok, hs1, Bool.false_eq_true, if_false, hl, Bool.not_false, if_true, hroom, hf, hadd, hrun, Sem.run_pure, opUpon]
      exact ⟨hsame, hK⟩
    case inl.inr | inr.inr =>
      simp only [Sem.run_bind, run_underlying hu, run_underlying hd', Result.andThen_ok, hs1, Bool.false_eq_true, if_false, hl, Bool.not_false, if_true, hroom, hf, Sem.run_pure, opUpon]
      exact ⟨Same.refl w, hK⟩
  · obtain ⟨olds, ho, hK⟩ := H1 (by omega)
    have h1 : ¬ (((n + m : Nat) : Int) > IntKind.i64.max) := by simp [IntKind.max, IntKind.signed, IntKind.bits]; omega
    have hnc := nextslicecap_le (k := n + m) (c := c) (by omega)
    have h2 : ¬ (Builtin.nextslicecap (n + m) c * i.bytes > 2 ^ 48) := by
      have : Builtin.nextslicecap (n + m) c * i.bytes ≤ (2 * (n + m) + 192) * i.bytes := Nat.mul_le_mul_right _ hnc
      have e1 : (2 * (n + m) + 192) * i.bytes = 2 * ((n + m) * i.bytes) + 192 * i.bytes := by rw [Nat.add_mul, Nat.mul_assoc]
      omega
    have hq : (Question.appendCap (n + m) c e).forced = false := rfl
    let cap := (Question.appendCap (n + m) c e).cut (w.tape w.drawn (Question.appendCap (n + m) c e))
    have hcap : n + m ≤ cap := by show _ ≤ (n + m) + _; omega
    let w1 : World := { w with drawn := w.drawn + 1 }
    have hch : (choose (.appendCap (n + m) c e)).run P w = .ok cap w1 := by simp [choose, Sem.run, hq, cap, w1]
    have hf1 := run_firstH (P := P) w1 (v := src) (l := news) (m := m) (sz := i.size) hn
    have ho1 := run_firstH (P := P) w1 (v := .slice base n c) (l := olds) (m := n) (sz := i.size) ho
    have hzv : (zeroValue e).run P w1 = .ok z w1 := by simp [zeroValue, typeInfo, hi, hz]
    have e2 : olds.toArray ++ news.toArray ++ Builtin.zeroCells z.cells (cap - (n + m)) = (olds ++ news).toArray ++ Builtin.zeroCells z.cells (cap - (n + m)) := by simp
    rcases ht' with ⟨e', hd'⟩ | hd'
    all_goals
      simp only [Sem.run_bind, run_underlying hu, run_underlying hd', Result.andThen_ok, hs1, Bool.false_eq_true, if_false, hl, Bool.not_false, if_true, hroom, false_or, hti, h1, false_and, h2, hch, run_askRoom, hf1, ho1, hzv, newRow, run_newObj, Sem.run_pure, opUpon]
      refine ⟨⟨rfl, rfl, rfl⟩, ?_⟩
      rw [e2]
      exact hK cap hcap

theorem op_makeSlice {t e : TypeId} {x y : Operand} {sz by_ l c : Nat} {z : Value} {k k' : IntKind} (hr : rowInfo P t = some (e, sz, by_, z)) (hx : ev f x = .int k l) (hy : ev f y = .int k' c) (hlc : l ≤ c) (hb : by_ * c ≤ 281474976710656) (h63 : c ≤ 9223372036854775807)
    {h1 : Heap} (hh : h1 = h.push (.cells (madeCells z.cells (c * sz)) e (0, 0))) (H : K (.slice (some ⟨h.size, 0, none⟩) l c) h1) : opH P (.makeSlice t x y) ty f K h := by
  subst hh
  obtain ⟨hu, i, hi, rfl, rfl, hz⟩ := rowInfo_spec hr
  refine opH_of_new (fun w hw => ?_) H
  subst hw
  have hr := run_make (P := P) w t e i z hu hi hz k k' l c (by omega) (by omega) (by rw [← Int.natCast_mul]; omega) (by omega)
  simp only [Int.toNat_natCast] at hr
  simp [execOp, bareOp, hx, hy, hr]

def optN (f : Fr) (d : Nat) : Option Operand → Nat → Prop
  | none, l => l = d
  | some x, l => ∃ k, ev f x = .int k (l : Int)

theorem run_sliceBound (w : World) {k : IntKind} {l y : Nat} {code : BoundsCode} (hle : l ≤ y) : (Instr.sliceBound (.int k l) y code).run P w = .ok l w := by
  simp [Instr.sliceBound, asIntOf, hle]

theorem run_sliceBounds (w : World) {s : Bool} {len cap l hh m : Nat} {lo hi mx : Option Operand} (hl : optN f 0 lo l) (hh' : optN f len hi hh) (hm : optN f cap mx m) (hmx : mx = none ∨ hi.isSome) (h1 : l ≤ hh) (h2 : hh ≤ m) (h3 : m ≤ cap) (hlen : mx = none → hi = none → True) :
    (Instr.sliceBounds s len cap (lo.map (ev f)) (hi.map (ev f)) (mx.map (ev f))).run P w = .ok (l, hh, m) w := by
  unfold Instr.sliceBounds
  cases mx with
  | none =>
    simp only [optN] at hm; subst hm
    cases hi with
    | none =>
      simp only [optN] at hh'; subst hh'
      cases lo with
      | none => simp only [optN] at hl; subst hl; simp
      | some x => obtain ⟨k, hx⟩ := hl; simp [hx, run_sliceBound w h1]
    | some y =>
      obtain ⟨k', hy⟩ := hh'
      cases lo with
      | none => simp only [optN] at hl; subst hl; simp [hy, run_sliceBound w h2]
      | some x => obtain ⟨k, hx⟩ := hl; simp [hx, hy, run_sliceBound w h1, run_sliceBound w h2]
  | some q =>
    obtain ⟨k'', hq⟩ := hm
    cases hi with
    | none => rcases hmx with h | h <;> simp at h
    | some y =>
      obtain ⟨k', hy⟩ := hh'
      cases lo with
      | none => simp only [optN] at hl; subst hl; simp [hq, hy, run_sliceBound w h2, run_sliceBound w h3]
      | some x => obtain ⟨k, hx⟩ := hl; simp [hq, hx, hy, run_sliceBound w h1, run_sliceBound w h2, run_sliceBound w h3]

/-- where a slice of a slice begins -/
def cutA (a : Option Addr) (l m sz : Nat) : Option Addr := if m = l then a else a.map (·.add (l * sz))

theorem op_slice_sl {t e : TypeId} {x : Operand} {sz n c l hh m : Nat} {a : Option Addr} {lo hi mx : Option Operand} (he : elemInfo P t = some (none, e, sz)) (hx : ev f x = .slice a n c)
    (hl : optN f 0 lo l) (hh' : optN f n hi hh) (hm : optN f c mx m) (hmx : mx = none ∨ hi.isSome = true) (h1 : l ≤ hh) (h2 : hh ≤ m) (h3 : m ≤ c)
    (H : K (.slice (cutA a l m sz) (hh - l) (m - l)) h) : opH P (.slice t x lo hi mx) ty f K h := by
  obtain ⟨hu, hs⟩ := elem_slice he
  refine opH_of_run (fun w _ => ?_) H
  have hb := run_sliceBounds (P := P) w (s := true) hl hh' hm hmx h1 h2 h3 (fun _ _ => trivial)
  simp [execOp, bareOp, Instr.sliceAt, run_underlying hu, Instr.slice, hx, hb, run_sizeOf hs, cutA]

theorem op_slice_arr {t e : TypeId} {x : Operand} {sz n b o l hh m : Nat} {lo hi mx : Option Operand} (he : elemInfo P t = some (some n, e, sz)) (hx : ev f x = .pointer (some ⟨b, o, none⟩))
    (hl : optN f 0 lo l) (hh' : optN f n hi hh) (hm : optN f n mx m) (hmx : mx = none ∨ hi.isSome = true) (h1 : l ≤ hh) (h2 : hh ≤ m) (h3 : m ≤ n)
    (H : K (.slice (cutA (some ⟨b, o, none⟩) l m sz) (hh - l) (m - l)) h) : opH P (.slice t x lo hi mx) ty f K h := by
  obtain ⟨hu, hs⟩ := elem_array he
  refine opH_of_run (fun w _ => ?_) H
  have hb := run_sliceBounds (P := P) w (s := false) hl hh' hm hmx h1 h2 h3 (fun _ _ => trivial)
  simp [execOp, bareOp, Instr.sliceAt, run_underlying hu, hx, Instr.sureAddr, hb, run_sizeOf hs, cutA]
  split <;> rfl

theorem op_slice_str {t : TypeId} {x : Operand} {s : ByteArray} {l hh : Nat} {lo hi : Option Operand} (hu : P.underlying t = some .string) (hx : ev f x = .string s)
    (hl : optN f 0 lo l) (hh' : optN f s.size hi hh) (h1 : l ≤ hh) (h2 : hh ≤ s.size)
    (H : K (.string (s.extract l hh)) h) : opH P (.slice t x lo hi none) ty f K h := by
  refine opH_of_run (fun w _ => ?_) H
  have hb := run_sliceBounds (P := P) (f := f) w (s := false) (len := s.size) (cap := s.size) (mx := none) (m := s.size) hl hh' rfl (.inl rfl) h1 h2 (Nat.le_refl _) (fun _ _ => trivial)
  simp only [Option.map_none] at hb
  simp [execOp, bareOp, Instr.sliceAt, run_underlying hu, Instr.slice, hx, hb]

def madeZeros (z : Value) (n : Nat) : Array Value := (Array.range n).map fun i => (if n = 0 then #[] else z.cells)[i % (if n = 0 then #[] else z.cells).size]!

theorem op_buildSlice {t e : TypeId} {len sz by_ : Nat} {parts : List (Nat × Operand)} {vs : List (Nat × Value)} {z : Value} {cs : Array Value} {h1 : Heap} (hr : rowInfo P t = some (e, sz, by_, z)) (hsz : len * sz ≤ 16777216)
    (hps : parts.map (fun p => (p.1, ev f p.2)) = vs) (hf : Instr.fill (fun i => some (i * sz, sz)) (madeZeros z (len * sz)) vs = some cs)
    (hh : h1 = h.push (.cells cs e (0, 0))) (H : K (.slice (some ⟨h.size, 0, none⟩) len len) h1) : opH P (.buildSlice t len parts.toArray) ty f K h := by
  subst hh
  obtain ⟨hu, i, hi, rfl, rfl, hz⟩ := rowInfo_spec hr
  refine opH_of_new (fun w hw => ?_) H
  subst hw
  have hs1 := run_sizeOf (P := P) (t := e) (n := i.size) (by simp [sizeT, hi]) w
  have hzv : (zeroValue e).run P w = .ok z w := by simp [zeroValue, typeInfo, hi, hz]
  have hnot : ¬ (len * i.size > 2 ^ 24) := by omega
  have hps' : (parts.toArray.map fun (p : Nat × Operand) => (p.1, ev f p.2)).toList = vs := by simp [hps]
  simp only [execOp, bareOp, Instr.buildSlice, Sem.run_bind, run_underlying hu, Result.andThen_ok, hs1, hnot, if_false, hps']
  unfold madeZeros at hf
  by_cases h0 : len * i.size = 0
  · simp only [h0, if_true] at hf ⊢
    simp only [Sem.run_pure, Result.andThen_ok, hf, newRow, Sem.run_bind, run_newObj]
  · simp only [h0, if_false] at hf ⊢
    simp only [Sem.run_bind, hzv, Sem.run_pure, Result.andThen_ok, hf, newRow, run_newObj]

theorem op_copy {t t' e : TypeId} {x y : Operand} {sz n c m b o : Nat} {src : Value} {cs : List Value} {h' : Heap} (he : elemInfo P t = some (none, e, sz)) (hx : ev f x = .slice (some ⟨b, o, none⟩) n c) (hy : ev f y = src)
    (hm : lenH src = some m) (hc : firstH h sz (min m n) src = some cs) (hs : stCells b h o cs = some h') (H : K (.int .i64 (min m n : Nat)) h') : opH P (.call ⟨.builtin .copy, #[x, y], #[t, t']⟩) ty f K h := by
  obtain ⟨hu, hsz⟩ := elem_slice he
  intro w hw
  subst hw
  obtain ⟨w', hrun, hsame, hh⟩ := run_storeCells (P := P) b cs o 0 w h' (by simpa using hs)
  subst hh
  have hl := run_lenH (P := P) w hm
  have hf := run_firstH (P := P) w hc
  have e1 : Nat.min m n = min m n := rfl
  simp only [execOp, bareOp, resolve, invoke, builtin, pure_bind, List.map_toArray, List.map_cons, List.map_nil, hx, hy, Builtin.copy_, List.getElem?_toArray, List.getElem?_cons_zero, List.getElem?_cons_succ, Sem.run_bind, run_underlying hu, Result.andThen_ok, hl, run_sizeOf hsz, e1, hf, hrun, Sem.run_pure, opUpon]
  exact ⟨hsame, H⟩
theorem op_copy_nil {t t' e : TypeId} {x y : Operand} {sz n c m : Nat} {src : Value} {cs : List Value} (he : elemInfo P t = some (none, e, sz)) (hx : ev f x = .slice none n c) (hy : ev f y = src)
    (hm : lenH src = some m) (hc : firstH h sz (min m n) src = some cs) (H : K (.int .i64 (min m n : Nat)) h) : opH P (.call ⟨.builtin .copy, #[x, y], #[t, t']⟩) ty f K h := by
  obtain ⟨hu, hsz⟩ := elem_slice he
  intro w hw
  subst hw
  have hl := run_lenH (P := P) w hm
  have hf := run_firstH (P := P) w hc
  have e1 : Nat.min m n = min m n := rfl
  simp only [execOp, bareOp, resolve, invoke, builtin, pure_bind, List.map_toArray, List.map_cons, List.map_nil, hx, hy, Builtin.copy_, List.getElem?_toArray, List.getElem?_cons_zero, List.getElem?_cons_succ, Sem.run_bind, run_underlying hu, Result.andThen_ok, hl, run_sizeOf hsz, e1, hf, Sem.run_pure, opUpon]
  exact ⟨Same.refl w, H⟩

end
end Go.VC
