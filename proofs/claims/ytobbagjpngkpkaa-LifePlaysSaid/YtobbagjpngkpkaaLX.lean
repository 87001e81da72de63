/- Contracts of package life, and laws that follow from them. Conditions: as stated at each. -/
import Derived.Test.YtobbagjpngkpkaaLY
import Derived.Test.YtobbagjpngkpkaaLK
import Derived.Deep.Slices
namespace Go.Proofs.Vf
open Go Go.RowKit Go.VC Go.ChangeShapes Go.WideShapes Go.ChangeAt Go.Deep
theorem list4 {α : Type} {l : List α} (h : l.length = 4) : ∃ a b c d, l = [a, b, c, d] := by
  match l, h with
  | [a, b, c, d], _ => exact ⟨a, b, c, d, rfl⟩

set_option maxRecDepth 100000 in
theorem argD_of {H : Type} {enc : TypeId × Value → H} {W : World} {a : Option Addr} {len cap fuel : Nat} {x : DataW H × List MemPlace}
    (hf : DataW.trod enc Try.prog W 0 (fun _ => true) true fuel 38 [.slice a len cap] = some x) : ArgD W.heap a len := by
  rcases open_slice Try.underlying38 hf with ⟨hcs, _⟩ | ⟨A, l, c, m, n, D, Pl, hcs, hb, hl, hm, hmm, _, hx⟩
  · intro i hi
    simp at hcs; omega
  simp only [List.cons.injEq, Value.slice.injEq, and_true] at hcs
  obtain ⟨rfl, rfl, rfl⟩ := hcs
  have ce : Try.prog.cellsOf 41 = 4 := by kernel_rfl
  have c3 : Try.prog.cellsOf 3 = 1 := by kernel_rfl
  have c29 : Try.prog.cellsOf 29 = 1 := by kernel_rfl
  have each : ∀ i, i < len → ∃ k id N s, (W.cell? (A.add (i * 4 + 0)) = some (.int .i64 k) ∧ W.cell? (A.add (i * 4 + 1)) = some (.int .i64 id) ∧ W.cell? (A.add (i * 4 + 2)) = some (.int .u64 N) ∧ W.cell? (A.add (i * 4 + 3)) = some (.int .i64 s)) ∧
      (Lit.int .i64 id).wf = true ∧ (Lit.int .u64 N).wf = true := by
    intro i hi
    obtain ⟨cs', h1, h2⟩ := hx i (by simp at hmm; omega)
    rw [ce] at h1
    obtain ⟨_, hlen, hcell⟩ := World.cells?_some h1
    obtain ⟨xs, k, hk, hxy, _, hxl, hf⟩ := DataW.trod_struct Try.underlying41 h2
    obtain ⟨y0, y1, y2, y3, rfl⟩ := list4 (l := xs) hxl
    obtain ⟨v0, v1, v2, v3, rfl⟩ := list4 hlen
    have g0 := hf 0 _ rfl
    have g1 := hf 1 _ rfl
    have g2 := hf 2 _ rfl
    have g3 := hf 3 _ rfl
    simp [c3, c29] at g0 g1 g2 g3
    obtain ⟨n0, e0, _, _⟩ := DataW.trod_int Try.underlying3 g0
    obtain ⟨n1, e1, _, w1⟩ := DataW.trod_int Try.underlying3 g1
    obtain ⟨n2, e2, _, w2⟩ := DataW.trod_int Try.underlying29 g2
    obtain ⟨n3, e3, _, _⟩ := DataW.trod_int Try.underlying3 g3
    have d0 := hcell 0 (by omega)
    have d1 := hcell 1 (by omega)
    have d2 := hcell 2 (by omega)
    have d3 := hcell 3 (by omega)
    rw [add_add] at d0 d1 d2 d3
    simp at e0 e1 e2 e3
    subst e0 e1 e2 e3
    exact ⟨n0, n1, n2, n3, ⟨by simpa using d0, by simpa using d1, by simpa using d2, by simpa using d3⟩, w1, w2⟩
  intro i hi
  obtain ⟨_, _, _, _, ⟨z0, _, _, _⟩, _⟩ := each 0 (by omega)
  rw [Nat.zero_mul] at z0
  obtain ⟨k, id, N, s, ⟨d0, d1, d2, d3⟩, w1, w2⟩ := each i hi
  obtain ⟨b, o, e, q0⟩ := cell_at z0 d0
  obtain ⟨b1, o1, e1, q1⟩ := cell_at z0 d1
  obtain ⟨b2, o2, e2, q2⟩ := cell_at z0 d2
  obtain ⟨b3, o3, e3, q3⟩ := cell_at z0 d3
  subst e
  cases e1; cases e2; cases e3
  simp [Lit.wf, IntKind.bits, IntKind.signed, IntKind.min, IntKind.max] at w1 w2
  refine ⟨b, o, k, id, N, s, rfl, ?_, ⟨by omega, by omega⟩, ⟨by omega, by omega⟩⟩
  simp only [Nat.add_zero, ← Nat.add_assoc] at q0 q1 q2 q3
  have q2' : cellH W.heap b (o + i * 4 + 1 + 1) = _ := q2
  have q3' : cellH W.heap b (o + i * 4 + 1 + 1 + 1) = _ := q3
  simp only [ldCells, q0, q1, q2', q3']
  rfl
end Go.Proofs.Vf
