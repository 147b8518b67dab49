/-
  No cell of these rows narrows 'for every input' (looked for: loops, veiled, ifaces, maps, wideKeys, modest, calm, conditions, laid).
  DERIVED. THE GIVEN ROWS OF THIS SEAT. 7 by the template 'for every input the law returns true; each argument reads behind the call as it read before'; 0 by the template 'total and deterministic' (their statements: YtidcpndlloppdaaGreatTotals.lean).
  GIVEN WITH THE SEED: the statements are not yours to turn. If you find one false, say at which input.
  Laid BY PROGRAM, IN A SANDBOX (cutbox-rows.mjs): the forced cells as the released guide's own fill.sh prints them over the translation bacf8f249ee9cb4a… (all of the seat's roots in one cut). By AI agents, Wed Nov 11 2026. No macro, syntax, notation, axiom, sorry.
-/
import Derived.Test.YtidcpndlloppdaaGreatChecked
import GoSem.Claim
import GoSem.ClaimJoined
import GoSem.ClaimMapViews
import Derived.JoinedTies
import Derived.KernelRfl
namespace Go.Proofs.YtidcpndlloppdaaGreat
/- THE CELL 'sum', in the pinned program and in every row, IS THE sha256 OF THE DUMP (.gsa) THAT YtidcpndlloppdaaGreatProg.lean LOADS. Nothing in Lean hashes anything: it is a label: what it is worth is what the hold of that sum in a sandbox is worth. -/
noncomputable def Tryz.pinned : Pinned := { name := "ytidcpndlloppdaagreat", sum := "bacf8f249ee9cb4aee73bc215e753296fe1aa4aa1ece1bfd99bc2c6c67d335f1", checked := Tryz.checked }
namespace Rows
def none {H : Type} : Left H := { results := [], args := [] }

/-- 'rickyardlaw21.AbsmRuns': WHATEVER THE INPUT: true; the input reads as it did. -/
def absmRunsSpec : ChangeSpec := { name := "absmRuns", fn := fun _ => fun
  | [d1, d2, d3, d4] => { results := [.lit (.bool true)], args := [d1, d2, d3, d4] }
  | _ => none }
def absmRunsRow : OpenClaim := { program := "ytidcpndlloppdaagreat", sum := "bacf8f249ee9cb4aee73bc215e753296fe1aa4aa1ece1bfd99bc2c6c67d335f1", func := "rickyard/rickyardlaw21.AbsmRuns", spec := "absmRuns", inPlace := ["math.Float64bits", "math.Float64frombits", "math.archFloor", "math.archTrunc", "math.archMin", "math.archMax"], unfollowed := true, recurses := true, apart := false }
def AbsmRunsSaid : Prop := absmRunsRow.holds Tryz.pinned (OpenSpec.ofChange absmRunsSpec)

/-- ITS FALSE NEIGHBOUR: 'it returns false'. Refute it at one input. -/
def absmRunsWrong : ChangeSpec := { name := "absmRuns", fn := fun _ => fun
  | [d1, d2, d3, d4] => { results := [.lit (.bool false)], args := [d1, d2, d3, d4] }
  | _ => none }
def AbsmRunsWrongFalsely : Prop := absmRunsRow.holds Tryz.pinned (OpenSpec.ofChange absmRunsWrong)

/-- 'rickyardlaw22.VmPlaces': WHATEVER THE INPUT: true; the input reads as it did. -/
def vmPlacesSpec : ChangeSpec := { name := "vmPlaces", fn := fun _ => fun
  | [d1, d2, d3, d4, d5, d6, d7, d8] => { results := [.lit (.bool true)], args := [d1, d2, d3, d4, d5, d6, d7, d8] }
  | _ => none }
def vmPlacesRow : OpenClaim := { program := "ytidcpndlloppdaagreat", sum := "bacf8f249ee9cb4aee73bc215e753296fe1aa4aa1ece1bfd99bc2c6c67d335f1", func := "rickyard/rickyardlaw22.VmPlaces", spec := "vmPlaces", inPlace := ["math.Float64bits", "math.Float64frombits", "math.archFloor", "math.archTrunc", "math.archMin", "math.archMax"], unfollowed := true, recurses := true, apart := false }
def VmPlacesSaid : Prop := vmPlacesRow.holds Tryz.pinned (OpenSpec.ofChange vmPlacesSpec)

/-- ITS FALSE NEIGHBOUR: 'it returns false'. Refute it at one input. -/
def vmPlacesWrong : ChangeSpec := { name := "vmPlaces", fn := fun _ => fun
  | [d1, d2, d3, d4, d5, d6, d7, d8] => { results := [.lit (.bool false)], args := [d1, d2, d3, d4, d5, d6, d7, d8] }
  | _ => none }
def VmPlacesWrongFalsely : Prop := vmPlacesRow.holds Tryz.pinned (OpenSpec.ofChange vmPlacesWrong)

/-- 'rickyardlaw22.VmQuits': WHATEVER THE INPUT: true; the input reads as it did. -/
def vmQuitsSpec : ChangeSpec := { name := "vmQuits", fn := fun _ => fun
  | [d1, d2, d3, d4] => { results := [.lit (.bool true)], args := [d1, d2, d3, d4] }
  | _ => none }
def vmQuitsRow : OpenClaim := { program := "ytidcpndlloppdaagreat", sum := "bacf8f249ee9cb4aee73bc215e753296fe1aa4aa1ece1bfd99bc2c6c67d335f1", func := "rickyard/rickyardlaw22.VmQuits", spec := "vmQuits", inPlace := ["math.Float64bits", "math.Float64frombits", "math.archFloor", "math.archTrunc", "math.archMin", "math.archMax"], unfollowed := true, recurses := true, apart := false }
def VmQuitsSaid : Prop := vmQuitsRow.holds Tryz.pinned (OpenSpec.ofChange vmQuitsSpec)

/-- ITS FALSE NEIGHBOUR: 'it returns false'. Refute it at one input. -/
def vmQuitsWrong : ChangeSpec := { name := "vmQuits", fn := fun _ => fun
  | [d1, d2, d3, d4] => { results := [.lit (.bool false)], args := [d1, d2, d3, d4] }
  | _ => none }
def VmQuitsWrongFalsely : Prop := vmQuitsRow.holds Tryz.pinned (OpenSpec.ofChange vmQuitsWrong)

/-- 'rickyardlaw22.VmRuns': WHATEVER THE INPUT: true; the input reads as it did. -/
def vmRunsSpec : ChangeSpec := { name := "vmRuns", fn := fun _ => fun
  | [d1, d2, d3, d4, d5, d6, d7] => { results := [.lit (.bool true)], args := [d1, d2, d3, d4, d5, d6, d7] }
  | _ => none }
def vmRunsRow : OpenClaim := { program := "ytidcpndlloppdaagreat", sum := "bacf8f249ee9cb4aee73bc215e753296fe1aa4aa1ece1bfd99bc2c6c67d335f1", func := "rickyard/rickyardlaw22.VmRuns", spec := "vmRuns", inPlace := ["math.Float64bits", "math.Float64frombits", "math.archFloor", "math.archTrunc", "math.archMin", "math.archMax"], unfollowed := true, recurses := true, apart := false }
def VmRunsSaid : Prop := vmRunsRow.holds Tryz.pinned (OpenSpec.ofChange vmRunsSpec)

/-- ITS FALSE NEIGHBOUR: 'it returns false'. Refute it at one input. -/
def vmRunsWrong : ChangeSpec := { name := "vmRuns", fn := fun _ => fun
  | [d1, d2, d3, d4, d5, d6, d7] => { results := [.lit (.bool false)], args := [d1, d2, d3, d4, d5, d6, d7] }
  | _ => none }
def VmRunsWrongFalsely : Prop := vmRunsRow.holds Tryz.pinned (OpenSpec.ofChange vmRunsWrong)

/-- 'rickyardlaw22.VmNone': WHATEVER THE INPUT: true; the input reads as it did. -/
def vmNoneSpec : ChangeSpec := { name := "vmNone", fn := fun _ => fun
  | [d1, d2] => { results := [.lit (.bool true)], args := [d1, d2] }
  | _ => none }
def vmNoneRow : OpenClaim := { program := "ytidcpndlloppdaagreat", sum := "bacf8f249ee9cb4aee73bc215e753296fe1aa4aa1ece1bfd99bc2c6c67d335f1", func := "rickyard/rickyardlaw22.VmNone", spec := "vmNone", inPlace := ["math.Float64bits", "math.Float64frombits", "math.archFloor", "math.archTrunc", "math.archMin", "math.archMax"], unfollowed := true, recurses := true, apart := false }
def VmNoneSaid : Prop := vmNoneRow.holds Tryz.pinned (OpenSpec.ofChange vmNoneSpec)

/-- ITS FALSE NEIGHBOUR: 'it returns false'. Refute it at one input. -/
def vmNoneWrong : ChangeSpec := { name := "vmNone", fn := fun _ => fun
  | [d1, d2] => { results := [.lit (.bool false)], args := [d1, d2] }
  | _ => none }
def VmNoneWrongFalsely : Prop := vmNoneRow.holds Tryz.pinned (OpenSpec.ofChange vmNoneWrong)

/-- 'rickyardlaw22.VmFull': WHATEVER THE INPUT: true; the input reads as it did. -/
def vmFullSpec : ChangeSpec := { name := "vmFull", fn := fun _ => fun
  | [d1, d2, d3, d4] => { results := [.lit (.bool true)], args := [d1, d2, d3, d4] }
  | _ => none }
def vmFullRow : OpenClaim := { program := "ytidcpndlloppdaagreat", sum := "bacf8f249ee9cb4aee73bc215e753296fe1aa4aa1ece1bfd99bc2c6c67d335f1", func := "rickyard/rickyardlaw22.VmFull", spec := "vmFull", inPlace := ["math.Float64bits", "math.Float64frombits", "math.archFloor", "math.archTrunc", "math.archMin", "math.archMax"], unfollowed := true, recurses := true, apart := false }
def VmFullSaid : Prop := vmFullRow.holds Tryz.pinned (OpenSpec.ofChange vmFullSpec)

/-- ITS FALSE NEIGHBOUR: 'it returns false'. Refute it at one input. -/
def vmFullWrong : ChangeSpec := { name := "vmFull", fn := fun _ => fun
  | [d1, d2, d3, d4] => { results := [.lit (.bool false)], args := [d1, d2, d3, d4] }
  | _ => none }
def VmFullWrongFalsely : Prop := vmFullRow.holds Tryz.pinned (OpenSpec.ofChange vmFullWrong)

/-- 'rickyardlaw22.VmMoves': WHATEVER THE INPUT: true; the input reads as it did. -/
def vmMovesSpec : ChangeSpec := { name := "vmMoves", fn := fun _ => fun
  | [d1, d2, d3, d4] => { results := [.lit (.bool true)], args := [d1, d2, d3, d4] }
  | _ => none }
def vmMovesRow : OpenClaim := { program := "ytidcpndlloppdaagreat", sum := "bacf8f249ee9cb4aee73bc215e753296fe1aa4aa1ece1bfd99bc2c6c67d335f1", func := "rickyard/rickyardlaw22.VmMoves", spec := "vmMoves", inPlace := ["math.Float64bits", "math.Float64frombits", "math.archFloor", "math.archTrunc", "math.archMin", "math.archMax"], unfollowed := true, recurses := true, apart := false }
def VmMovesSaid : Prop := vmMovesRow.holds Tryz.pinned (OpenSpec.ofChange vmMovesSpec)

/-- ITS FALSE NEIGHBOUR: 'it returns false'. Refute it at one input. -/
def vmMovesWrong : ChangeSpec := { name := "vmMoves", fn := fun _ => fun
  | [d1, d2, d3, d4] => { results := [.lit (.bool false)], args := [d1, d2, d3, d4] }
  | _ => none }
def VmMovesWrongFalsely : Prop := vmMovesRow.holds Tryz.pinned (OpenSpec.ofChange vmMovesWrong)

/- THE SECOND FORM. 'bulk': how many values and letters a reading holds, each counted each time it is reached (what is shared counts as often as it is met; a slice's spare places count too). A statement '..UptoSaid' is the law's where the arguments, and the package variables that the reading takes, are together of bulk at most 1048576: NARROWER than '..Said'. Prove '..Said' where nothing that the law and all that it calls make is longer than what came in: it says more and counts as full. Else prove '..UptoSaid'. A law counts once. -/
mutual
def uptoBulk {H : Type} : DataW H → Nat
  | .lit (.string bytes) => bytes.length + 1
  | .lit _ => 1
  | .nil => 1
  | .ptr d => uptoBulk d + 1
  | .slice elems spare => uptoBulkAll elems + uptoBulkAll spare + 1
  | .agg parts => uptoBulkAll parts + 1
  | .iface _ d => uptoBulk d + 1
  | .map entries => uptoBulkEntries entries + 1
  | .held _ => 1
def uptoBulkAll {H : Type} : List (DataW H) → Nat
  | [] => 0
  | d :: r => uptoBulk d + uptoBulkAll r
def uptoBulkEntries {H : Type} : List (Lit × DataW H) → Nat
  | [] => 0
  | x :: r => uptoBulkEntry x + uptoBulkEntries r
def uptoBulkEntry {H : Type} : Lit × DataW H → Nat
  | (.string bytes, d) => bytes.length + uptoBulk d + 1
  | (_, d) => uptoBulk d + 1
 end
def uptoSmall : (H : Type) → List (DataW H) → Bool := fun _ ds => decide (uptoBulkAll ds ≤ 1048576)
def OpenSpec.upto (s : _root_.Go.ChangeSpec) : _root_.Go.OpenSpec := { _root_.Go.OpenSpec.ofChange s with cond := some uptoSmall }

/-- 'rickyardlaw21.AbsmRuns', WHERE WHAT IT READS IS OF BULK AT MOST 1048576: true; the input reads as it did. -/
def absmRunsUptoRow : OpenClaim := { program := "ytidcpndlloppdaagreat", sum := "bacf8f249ee9cb4aee73bc215e753296fe1aa4aa1ece1bfd99bc2c6c67d335f1", func := "rickyard/rickyardlaw21.AbsmRuns", spec := "absmRuns", inPlace := ["math.Float64bits", "math.Float64frombits", "math.archFloor", "math.archTrunc", "math.archMin", "math.archMax"], unfollowed := true, recurses := true, apart := false, narrowed := true }
def AbsmRunsUptoSaid : Prop := absmRunsUptoRow.holds Tryz.pinned (OpenSpec.upto absmRunsSpec)

/-- 'rickyardlaw22.VmPlaces', WHERE WHAT IT READS IS OF BULK AT MOST 1048576: true; the input reads as it did. -/
def vmPlacesUptoRow : OpenClaim := { program := "ytidcpndlloppdaagreat", sum := "bacf8f249ee9cb4aee73bc215e753296fe1aa4aa1ece1bfd99bc2c6c67d335f1", func := "rickyard/rickyardlaw22.VmPlaces", spec := "vmPlaces", inPlace := ["math.Float64bits", "math.Float64frombits", "math.archFloor", "math.archTrunc", "math.archMin", "math.archMax"], unfollowed := true, recurses := true, apart := false, narrowed := true }
def VmPlacesUptoSaid : Prop := vmPlacesUptoRow.holds Tryz.pinned (OpenSpec.upto vmPlacesSpec)

/-- 'rickyardlaw22.VmQuits', WHERE WHAT IT READS IS OF BULK AT MOST 1048576: true; the input reads as it did. -/
def vmQuitsUptoRow : OpenClaim := { program := "ytidcpndlloppdaagreat", sum := "bacf8f249ee9cb4aee73bc215e753296fe1aa4aa1ece1bfd99bc2c6c67d335f1", func := "rickyard/rickyardlaw22.VmQuits", spec := "vmQuits", inPlace := ["math.Float64bits", "math.Float64frombits", "math.archFloor", "math.archTrunc", "math.archMin", "math.archMax"], unfollowed := true, recurses := true, apart := false, narrowed := true }
def VmQuitsUptoSaid : Prop := vmQuitsUptoRow.holds Tryz.pinned (OpenSpec.upto vmQuitsSpec)

/-- 'rickyardlaw22.VmRuns', WHERE WHAT IT READS IS OF BULK AT MOST 1048576: true; the input reads as it did. -/
def vmRunsUptoRow : OpenClaim := { program := "ytidcpndlloppdaagreat", sum := "bacf8f249ee9cb4aee73bc215e753296fe1aa4aa1ece1bfd99bc2c6c67d335f1", func := "rickyard/rickyardlaw22.VmRuns", spec := "vmRuns", inPlace := ["math.Float64bits", "math.Float64frombits", "math.archFloor", "math.archTrunc", "math.archMin", "math.archMax"], unfollowed := true, recurses := true, apart := false, narrowed := true }
def VmRunsUptoSaid : Prop := vmRunsUptoRow.holds Tryz.pinned (OpenSpec.upto vmRunsSpec)

/-- 'rickyardlaw22.VmNone', WHERE WHAT IT READS IS OF BULK AT MOST 1048576: true; the input reads as it did. -/
def vmNoneUptoRow : OpenClaim := { program := "ytidcpndlloppdaagreat", sum := "bacf8f249ee9cb4aee73bc215e753296fe1aa4aa1ece1bfd99bc2c6c67d335f1", func := "rickyard/rickyardlaw22.VmNone", spec := "vmNone", inPlace := ["math.Float64bits", "math.Float64frombits", "math.archFloor", "math.archTrunc", "math.archMin", "math.archMax"], unfollowed := true, recurses := true, apart := false, narrowed := true }
def VmNoneUptoSaid : Prop := vmNoneUptoRow.holds Tryz.pinned (OpenSpec.upto vmNoneSpec)

/-- 'rickyardlaw22.VmFull', WHERE WHAT IT READS IS OF BULK AT MOST 1048576: true; the input reads as it did. -/
def vmFullUptoRow : OpenClaim := { program := "ytidcpndlloppdaagreat", sum := "bacf8f249ee9cb4aee73bc215e753296fe1aa4aa1ece1bfd99bc2c6c67d335f1", func := "rickyard/rickyardlaw22.VmFull", spec := "vmFull", inPlace := ["math.Float64bits", "math.Float64frombits", "math.archFloor", "math.archTrunc", "math.archMin", "math.archMax"], unfollowed := true, recurses := true, apart := false, narrowed := true }
def VmFullUptoSaid : Prop := vmFullUptoRow.holds Tryz.pinned (OpenSpec.upto vmFullSpec)

/-- 'rickyardlaw22.VmMoves', WHERE WHAT IT READS IS OF BULK AT MOST 1048576: true; the input reads as it did. -/
def vmMovesUptoRow : OpenClaim := { program := "ytidcpndlloppdaagreat", sum := "bacf8f249ee9cb4aee73bc215e753296fe1aa4aa1ece1bfd99bc2c6c67d335f1", func := "rickyard/rickyardlaw22.VmMoves", spec := "vmMoves", inPlace := ["math.Float64bits", "math.Float64frombits", "math.archFloor", "math.archTrunc", "math.archMin", "math.archMax"], unfollowed := true, recurses := true, apart := false, narrowed := true }
def VmMovesUptoSaid : Prop := vmMovesUptoRow.holds Tryz.pinned (OpenSpec.upto vmMovesSpec)

end Rows
end Go.Proofs.YtidcpndlloppdaaGreat
