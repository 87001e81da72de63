/-
  No cell of these rows narrows 'for every input' (looked for: loops, veiled, ifaces, maps, wideKeys, modest, calm, conditions, laid).
  DERIVED. THE GIVEN ROWS OF THIS SEAT. 10 by the template 'for every input the law returns true; each argument reads behind the call as it read before'; 0 by the template 'total and deterministic' (their statements: YtcldahgjomfbpaaGreatTotals.lean).
  GIVEN WITH THE SEED: the statements are not yours to turn. If you find one false, say at which input.
  Laid BY PROGRAM, IN A SANDBOX (cutbox-rows.mjs): the forced cells as the released guide's own fill.sh prints them over the translation b8a31317e01b7024… (all of the seat's roots in one cut). By AI agents, Wed Nov 11 2026. No macro, syntax, notation, axiom, sorry.
-/
import Derived.Test.YtcldahgjomfbpaaGreatChecked
import GoSem.Claim
import GoSem.ClaimJoined
import GoSem.ClaimMapViews
import Derived.JoinedTies
import Derived.KernelRfl
namespace Go.Proofs.YtcldahgjomfbpaaGreat
/- THE CELL 'sum', in the pinned program and in every row, IS THE sha256 OF THE DUMP (.gsa) THAT YtcldahgjomfbpaaGreatProg.lean LOADS. Nothing in Lean hashes anything: it is a label: what it is worth is what the hold of that sum in a sandbox is worth. -/
noncomputable def Tryz.pinned : Pinned := { name := "ytcldahgjomfbpaagreat", sum := "b8a31317e01b7024f56ab7c45f31d0b60a89220c1e3ebba2860bd16473eba222", checked := Tryz.checked }
namespace Rows
def none {H : Type} : Left H := { results := [], args := [] }

/-- 'linchpinlaw24.EngineSteals': WHATEVER THE INPUT: true; the input reads as it did. -/
def engineStealsSpec : ChangeSpec := { name := "engineSteals", fn := fun _ => fun
  | [d1, d2, d3] => { results := [.lit (.bool true)], args := [d1, d2, d3] }
  | _ => none }
def engineStealsRow : OpenClaim := { program := "ytcldahgjomfbpaagreat", sum := "b8a31317e01b7024f56ab7c45f31d0b60a89220c1e3ebba2860bd16473eba222", func := "linchpin/linchpinlaw24.EngineSteals", spec := "engineSteals", inPlace := ["slices.overlaps[linchpin/api.Want]"], unfollowed := true, recurses := true, apart := false }
def EngineStealsSaid : Prop := engineStealsRow.holds Tryz.pinned (OpenSpec.ofChange engineStealsSpec)

/-- ITS FALSE NEIGHBOUR: 'it returns false'. Refute it at one input. -/
def engineStealsWrong : ChangeSpec := { name := "engineSteals", fn := fun _ => fun
  | [d1, d2, d3] => { results := [.lit (.bool false)], args := [d1, d2, d3] }
  | _ => none }
def EngineStealsWrongFalsely : Prop := engineStealsRow.holds Tryz.pinned (OpenSpec.ofChange engineStealsWrong)

/-- 'linchpinlaw20.IoqDone': WHATEVER THE INPUT: true; the input reads as it did. -/
def ioqDoneSpec : ChangeSpec := { name := "ioqDone", fn := fun _ => fun
  | [d1, d2, d3] => { results := [.lit (.bool true)], args := [d1, d2, d3] }
  | _ => none }
def ioqDoneRow : OpenClaim := { program := "ytcldahgjomfbpaagreat", sum := "b8a31317e01b7024f56ab7c45f31d0b60a89220c1e3ebba2860bd16473eba222", func := "linchpin/linchpinlaw20.IoqDone", spec := "ioqDone", inPlace := ["slices.overlaps[linchpin/api.Want]"], unfollowed := true, recurses := true, apart := false }
def IoqDoneSaid : Prop := ioqDoneRow.holds Tryz.pinned (OpenSpec.ofChange ioqDoneSpec)

/-- ITS FALSE NEIGHBOUR: 'it returns false'. Refute it at one input. -/
def ioqDoneWrong : ChangeSpec := { name := "ioqDone", fn := fun _ => fun
  | [d1, d2, d3] => { results := [.lit (.bool false)], args := [d1, d2, d3] }
  | _ => none }
def IoqDoneWrongFalsely : Prop := ioqDoneRow.holds Tryz.pinned (OpenSpec.ofChange ioqDoneWrong)

/-- 'linchpinlaw20.IoqSilent': WHATEVER THE INPUT: true; the input reads as it did. -/
def ioqSilentSpec : ChangeSpec := { name := "ioqSilent", fn := fun _ => fun
  | [d1, d2, d3] => { results := [.lit (.bool true)], args := [d1, d2, d3] }
  | _ => none }
def ioqSilentRow : OpenClaim := { program := "ytcldahgjomfbpaagreat", sum := "b8a31317e01b7024f56ab7c45f31d0b60a89220c1e3ebba2860bd16473eba222", func := "linchpin/linchpinlaw20.IoqSilent", spec := "ioqSilent", inPlace := ["slices.overlaps[linchpin/api.Want]"], unfollowed := true, recurses := true, apart := false }
def IoqSilentSaid : Prop := ioqSilentRow.holds Tryz.pinned (OpenSpec.ofChange ioqSilentSpec)

/-- ITS FALSE NEIGHBOUR: 'it returns false'. Refute it at one input. -/
def ioqSilentWrong : ChangeSpec := { name := "ioqSilent", fn := fun _ => fun
  | [d1, d2, d3] => { results := [.lit (.bool false)], args := [d1, d2, d3] }
  | _ => none }
def IoqSilentWrongFalsely : Prop := ioqSilentRow.holds Tryz.pinned (OpenSpec.ofChange ioqSilentWrong)

/-- 'linchpinlaw20.IoqOrder': WHATEVER THE INPUT: true; the input reads as it did. -/
def ioqOrderSpec : ChangeSpec := { name := "ioqOrder", fn := fun _ => fun
  | [d1, d2] => { results := [.lit (.bool true)], args := [d1, d2] }
  | _ => none }
def ioqOrderRow : OpenClaim := { program := "ytcldahgjomfbpaagreat", sum := "b8a31317e01b7024f56ab7c45f31d0b60a89220c1e3ebba2860bd16473eba222", func := "linchpin/linchpinlaw20.IoqOrder", spec := "ioqOrder", inPlace := ["slices.overlaps[linchpin/api.Want]"], unfollowed := true, recurses := true, apart := false }
def IoqOrderSaid : Prop := ioqOrderRow.holds Tryz.pinned (OpenSpec.ofChange ioqOrderSpec)

/-- ITS FALSE NEIGHBOUR: 'it returns false'. Refute it at one input. -/
def ioqOrderWrong : ChangeSpec := { name := "ioqOrder", fn := fun _ => fun
  | [d1, d2] => { results := [.lit (.bool false)], args := [d1, d2] }
  | _ => none }
def IoqOrderWrongFalsely : Prop := ioqOrderRow.holds Tryz.pinned (OpenSpec.ofChange ioqOrderWrong)

/-- 'linchpinlaw20.IoqBad': WHATEVER THE INPUT: true; the input reads as it did. -/
def ioqBadSpec : ChangeSpec := { name := "ioqBad", fn := fun _ => fun
  | [d1, d2] => { results := [.lit (.bool true)], args := [d1, d2] }
  | _ => none }
def ioqBadRow : OpenClaim := { program := "ytcldahgjomfbpaagreat", sum := "b8a31317e01b7024f56ab7c45f31d0b60a89220c1e3ebba2860bd16473eba222", func := "linchpin/linchpinlaw20.IoqBad", spec := "ioqBad", inPlace := ["slices.overlaps[linchpin/api.Want]"], unfollowed := true, recurses := true, apart := false }
def IoqBadSaid : Prop := ioqBadRow.holds Tryz.pinned (OpenSpec.ofChange ioqBadSpec)

/-- ITS FALSE NEIGHBOUR: 'it returns false'. Refute it at one input. -/
def ioqBadWrong : ChangeSpec := { name := "ioqBad", fn := fun _ => fun
  | [d1, d2] => { results := [.lit (.bool false)], args := [d1, d2] }
  | _ => none }
def IoqBadWrongFalsely : Prop := ioqBadRow.holds Tryz.pinned (OpenSpec.ofChange ioqBadWrong)

/-- 'linchpinlaw20.IoqPlays': WHATEVER THE INPUT: true; the input reads as it did. -/
def ioqPlaysSpec : ChangeSpec := { name := "ioqPlays", fn := fun _ => fun
  | [d1, d2, d3] => { results := [.lit (.bool true)], args := [d1, d2, d3] }
  | _ => none }
def ioqPlaysRow : OpenClaim := { program := "ytcldahgjomfbpaagreat", sum := "b8a31317e01b7024f56ab7c45f31d0b60a89220c1e3ebba2860bd16473eba222", func := "linchpin/linchpinlaw20.IoqPlays", spec := "ioqPlays", inPlace := ["slices.overlaps[linchpin/api.Want]"], unfollowed := true, recurses := true, apart := false }
def IoqPlaysSaid : Prop := ioqPlaysRow.holds Tryz.pinned (OpenSpec.ofChange ioqPlaysSpec)

/-- ITS FALSE NEIGHBOUR: 'it returns false'. Refute it at one input. -/
def ioqPlaysWrong : ChangeSpec := { name := "ioqPlays", fn := fun _ => fun
  | [d1, d2, d3] => { results := [.lit (.bool false)], args := [d1, d2, d3] }
  | _ => none }
def IoqPlaysWrongFalsely : Prop := ioqPlaysRow.holds Tryz.pinned (OpenSpec.ofChange ioqPlaysWrong)

/-- 'linchpinlaw20.IoqQuiet': WHATEVER THE INPUT: true; the input reads as it did. -/
def ioqQuietSpec : ChangeSpec := { name := "ioqQuiet", fn := fun _ => fun
  | [d1, d2, d3] => { results := [.lit (.bool true)], args := [d1, d2, d3] }
  | _ => none }
def ioqQuietRow : OpenClaim := { program := "ytcldahgjomfbpaagreat", sum := "b8a31317e01b7024f56ab7c45f31d0b60a89220c1e3ebba2860bd16473eba222", func := "linchpin/linchpinlaw20.IoqQuiet", spec := "ioqQuiet", inPlace := ["slices.overlaps[linchpin/api.Want]"], unfollowed := true, recurses := true, apart := false }
def IoqQuietSaid : Prop := ioqQuietRow.holds Tryz.pinned (OpenSpec.ofChange ioqQuietSpec)

/-- ITS FALSE NEIGHBOUR: 'it returns false'. Refute it at one input. -/
def ioqQuietWrong : ChangeSpec := { name := "ioqQuiet", fn := fun _ => fun
  | [d1, d2, d3] => { results := [.lit (.bool false)], args := [d1, d2, d3] }
  | _ => none }
def IoqQuietWrongFalsely : Prop := ioqQuietRow.holds Tryz.pinned (OpenSpec.ofChange ioqQuietWrong)

/-- 'linchpinlaw24.EngineWhole': WHATEVER THE INPUT: true; the input reads as it did. -/
def engineWholeSpec : ChangeSpec := { name := "engineWhole", fn := fun _ => fun
  | [d1, d2, d3] => { results := [.lit (.bool true)], args := [d1, d2, d3] }
  | _ => none }
def engineWholeRow : OpenClaim := { program := "ytcldahgjomfbpaagreat", sum := "b8a31317e01b7024f56ab7c45f31d0b60a89220c1e3ebba2860bd16473eba222", func := "linchpin/linchpinlaw24.EngineWhole", spec := "engineWhole", inPlace := ["slices.overlaps[linchpin/api.Want]"], unfollowed := true, recurses := true, apart := false }
def EngineWholeSaid : Prop := engineWholeRow.holds Tryz.pinned (OpenSpec.ofChange engineWholeSpec)

/-- ITS FALSE NEIGHBOUR: 'it returns false'. Refute it at one input. -/
def engineWholeWrong : ChangeSpec := { name := "engineWhole", fn := fun _ => fun
  | [d1, d2, d3] => { results := [.lit (.bool false)], args := [d1, d2, d3] }
  | _ => none }
def EngineWholeWrongFalsely : Prop := engineWholeRow.holds Tryz.pinned (OpenSpec.ofChange engineWholeWrong)

/-- 'linchpinlaw24.EngineQuiet': WHATEVER THE INPUT: true; the input reads as it did. -/
def engineQuietSpec : ChangeSpec := { name := "engineQuiet", fn := fun _ => fun
  | [d] => { results := [.lit (.bool true)], args := [d] }
  | _ => none }
def engineQuietRow : OpenClaim := { program := "ytcldahgjomfbpaagreat", sum := "b8a31317e01b7024f56ab7c45f31d0b60a89220c1e3ebba2860bd16473eba222", func := "linchpin/linchpinlaw24.EngineQuiet", spec := "engineQuiet", inPlace := ["slices.overlaps[linchpin/api.Want]"], unfollowed := true, recurses := true, apart := false }
def EngineQuietSaid : Prop := engineQuietRow.holds Tryz.pinned (OpenSpec.ofChange engineQuietSpec)

/-- ITS FALSE NEIGHBOUR: 'it returns false'. Refute it at one input. -/
def engineQuietWrong : ChangeSpec := { name := "engineQuiet", fn := fun _ => fun
  | [d] => { results := [.lit (.bool false)], args := [d] }
  | _ => none }
def EngineQuietWrongFalsely : Prop := engineQuietRow.holds Tryz.pinned (OpenSpec.ofChange engineQuietWrong)

/-- 'linchpinlaw24.EnginePlays': WHATEVER THE INPUT: true; the input reads as it did. -/
def enginePlaysSpec : ChangeSpec := { name := "enginePlays", fn := fun _ => fun
  | [d1, d2] => { results := [.lit (.bool true)], args := [d1, d2] }
  | _ => none }
def enginePlaysRow : OpenClaim := { program := "ytcldahgjomfbpaagreat", sum := "b8a31317e01b7024f56ab7c45f31d0b60a89220c1e3ebba2860bd16473eba222", func := "linchpin/linchpinlaw24.EnginePlays", spec := "enginePlays", inPlace := ["slices.overlaps[linchpin/api.Want]"], unfollowed := true, recurses := true, apart := false }
def EnginePlaysSaid : Prop := enginePlaysRow.holds Tryz.pinned (OpenSpec.ofChange enginePlaysSpec)

/-- ITS FALSE NEIGHBOUR: 'it returns false'. Refute it at one input. -/
def enginePlaysWrong : ChangeSpec := { name := "enginePlays", fn := fun _ => fun
  | [d1, d2] => { results := [.lit (.bool false)], args := [d1, d2] }
  | _ => none }
def EnginePlaysWrongFalsely : Prop := enginePlaysRow.holds Tryz.pinned (OpenSpec.ofChange enginePlaysWrong)

/- THE SECOND FORM. 'bulk': how many values and letters a reading holds, each counted each time it is reached (what is shared counts as often as it is met; a slice's spare places count too). A statement '..UptoSaid' is the law's where the arguments, and the package variables that the reading takes, are together of bulk at most 1048576: NARROWER than '..Said'. Prove '..Said' where nothing that the law and all that it calls make is longer than what came in: it says more and counts as full. Else prove '..UptoSaid'. A law counts once. -/
mutual
def uptoBulk {H : Type} : DataW H → Nat
  | .lit (.string bytes) => bytes.length + 1
  | .lit _ => 1
  | .nil => 1
  | .ptr d => uptoBulk d + 1
  | .slice elems spare => uptoBulkAll elems + uptoBulkAll spare + 1
  | .agg parts => uptoBulkAll parts + 1
  | .iface _ d => uptoBulk d + 1
  | .map entries => uptoBulkEntries entries + 1
  | .held _ => 1
def uptoBulkAll {H : Type} : List (DataW H) → Nat
  | [] => 0
  | d :: r => uptoBulk d + uptoBulkAll r
def uptoBulkEntries {H : Type} : List (Lit × DataW H) → Nat
  | [] => 0
  | x :: r => uptoBulkEntry x + uptoBulkEntries r
def uptoBulkEntry {H : Type} : Lit × DataW H → Nat
  | (.string bytes, d) => bytes.length + uptoBulk d + 1
  | (_, d) => uptoBulk d + 1
 end
def uptoSmall : (H : Type) → List (DataW H) → Bool := fun _ ds => decide (uptoBulkAll ds ≤ 1048576)
def OpenSpec.upto (s : _root_.Go.ChangeSpec) : _root_.Go.OpenSpec := { _root_.Go.OpenSpec.ofChange s with cond := some uptoSmall }

/-- 'linchpinlaw24.EngineSteals', WHERE WHAT IT READS IS OF BULK AT MOST 1048576: true; the input reads as it did. -/
def engineStealsUptoRow : OpenClaim := { program := "ytcldahgjomfbpaagreat", sum := "b8a31317e01b7024f56ab7c45f31d0b60a89220c1e3ebba2860bd16473eba222", func := "linchpin/linchpinlaw24.EngineSteals", spec := "engineSteals", inPlace := ["slices.overlaps[linchpin/api.Want]"], unfollowed := true, recurses := true, apart := false, narrowed := true }
def EngineStealsUptoSaid : Prop := engineStealsUptoRow.holds Tryz.pinned (OpenSpec.upto engineStealsSpec)

/-- 'linchpinlaw20.IoqDone', WHERE WHAT IT READS IS OF BULK AT MOST 1048576: true; the input reads as it did. -/
def ioqDoneUptoRow : OpenClaim := { program := "ytcldahgjomfbpaagreat", sum := "b8a31317e01b7024f56ab7c45f31d0b60a89220c1e3ebba2860bd16473eba222", func := "linchpin/linchpinlaw20.IoqDone", spec := "ioqDone", inPlace := ["slices.overlaps[linchpin/api.Want]"], unfollowed := true, recurses := true, apart := false, narrowed := true }
def IoqDoneUptoSaid : Prop := ioqDoneUptoRow.holds Tryz.pinned (OpenSpec.upto ioqDoneSpec)

/-- 'linchpinlaw20.IoqSilent', WHERE WHAT IT READS IS OF BULK AT MOST 1048576: true; the input reads as it did. -/
def ioqSilentUptoRow : OpenClaim := { program := "ytcldahgjomfbpaagreat", sum := "b8a31317e01b7024f56ab7c45f31d0b60a89220c1e3ebba2860bd16473eba222", func := "linchpin/linchpinlaw20.IoqSilent", spec := "ioqSilent", inPlace := ["slices.overlaps[linchpin/api.Want]"], unfollowed := true, recurses := true, apart := false, narrowed := true }
def IoqSilentUptoSaid : Prop := ioqSilentUptoRow.holds Tryz.pinned (OpenSpec.upto ioqSilentSpec)

/-- 'linchpinlaw20.IoqOrder', WHERE WHAT IT READS IS OF BULK AT MOST 1048576: true; the input reads as it did. -/
def ioqOrderUptoRow : OpenClaim := { program := "ytcldahgjomfbpaagreat", sum := "b8a31317e01b7024f56ab7c45f31d0b60a89220c1e3ebba2860bd16473eba222", func := "linchpin/linchpinlaw20.IoqOrder", spec := "ioqOrder", inPlace := ["slices.overlaps[linchpin/api.Want]"], unfollowed := true, recurses := true, apart := false, narrowed := true }
def IoqOrderUptoSaid : Prop := ioqOrderUptoRow.holds Tryz.pinned (OpenSpec.upto ioqOrderSpec)

/-- 'linchpinlaw20.IoqBad', WHERE WHAT IT READS IS OF BULK AT MOST 1048576: true; the input reads as it did. -/
def ioqBadUptoRow : OpenClaim := { program := "ytcldahgjomfbpaagreat", sum := "b8a31317e01b7024f56ab7c45f31d0b60a89220c1e3ebba2860bd16473eba222", func := "linchpin/linchpinlaw20.IoqBad", spec := "ioqBad", inPlace := ["slices.overlaps[linchpin/api.Want]"], unfollowed := true, recurses := true, apart := false, narrowed := true }
def IoqBadUptoSaid : Prop := ioqBadUptoRow.holds Tryz.pinned (OpenSpec.upto ioqBadSpec)

/-- 'linchpinlaw20.IoqPlays', WHERE WHAT IT READS IS OF BULK AT MOST 1048576: true; the input reads as it did. -/
def ioqPlaysUptoRow : OpenClaim := { program := "ytcldahgjomfbpaagreat", sum := "b8a31317e01b7024f56ab7c45f31d0b60a89220c1e3ebba2860bd16473eba222", func := "linchpin/linchpinlaw20.IoqPlays", spec := "ioqPlays", inPlace := ["slices.overlaps[linchpin/api.Want]"], unfollowed := true, recurses := true, apart := false, narrowed := true }
def IoqPlaysUptoSaid : Prop := ioqPlaysUptoRow.holds Tryz.pinned (OpenSpec.upto ioqPlaysSpec)

/-- 'linchpinlaw20.IoqQuiet', WHERE WHAT IT READS IS OF BULK AT MOST 1048576: true; the input reads as it did. -/
def ioqQuietUptoRow : OpenClaim := { program := "ytcldahgjomfbpaagreat", sum := "b8a31317e01b7024f56ab7c45f31d0b60a89220c1e3ebba2860bd16473eba222", func := "linchpin/linchpinlaw20.IoqQuiet", spec := "ioqQuiet", inPlace := ["slices.overlaps[linchpin/api.Want]"], unfollowed := true, recurses := true, apart := false, narrowed := true }
def IoqQuietUptoSaid : Prop := ioqQuietUptoRow.holds Tryz.pinned (OpenSpec.upto ioqQuietSpec)

/-- 'linchpinlaw24.EngineWhole', WHERE WHAT IT READS IS OF BULK AT MOST 1048576: true; the input reads as it did. -/
def engineWholeUptoRow : OpenClaim := { program := "ytcldahgjomfbpaagreat", sum := "b8a31317e01b7024f56ab7c45f31d0b60a89220c1e3ebba2860bd16473eba222", func := "linchpin/linchpinlaw24.EngineWhole", spec := "engineWhole", inPlace := ["slices.overlaps[linchpin/api.Want]"], unfollowed := true, recurses := true, apart := false, narrowed := true }
def EngineWholeUptoSaid : Prop := engineWholeUptoRow.holds Tryz.pinned (OpenSpec.upto engineWholeSpec)

/-- 'linchpinlaw24.EngineQuiet', WHERE WHAT IT READS IS OF BULK AT MOST 1048576: true; the input reads as it did. -/
def engineQuietUptoRow : OpenClaim := { program := "ytcldahgjomfbpaagreat", sum := "b8a31317e01b7024f56ab7c45f31d0b60a89220c1e3ebba2860bd16473eba222", func := "linchpin/linchpinlaw24.EngineQuiet", spec := "engineQuiet", inPlace := ["slices.overlaps[linchpin/api.Want]"], unfollowed := true, recurses := true, apart := false, narrowed := true }
def EngineQuietUptoSaid : Prop := engineQuietUptoRow.holds Tryz.pinned (OpenSpec.upto engineQuietSpec)

/-- 'linchpinlaw24.EnginePlays', WHERE WHAT IT READS IS OF BULK AT MOST 1048576: true; the input reads as it did. -/
def enginePlaysUptoRow : OpenClaim := { program := "ytcldahgjomfbpaagreat", sum := "b8a31317e01b7024f56ab7c45f31d0b60a89220c1e3ebba2860bd16473eba222", func := "linchpin/linchpinlaw24.EnginePlays", spec := "enginePlays", inPlace := ["slices.overlaps[linchpin/api.Want]"], unfollowed := true, recurses := true, apart := false, narrowed := true }
def EnginePlaysUptoSaid : Prop := enginePlaysUptoRow.holds Tryz.pinned (OpenSpec.upto enginePlaysSpec)

end Rows
end Go.Proofs.YtcldahgjomfbpaaGreat
