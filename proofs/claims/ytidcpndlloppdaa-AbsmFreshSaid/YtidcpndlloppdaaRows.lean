/-
  No cell of these rows narrows 'for every input' (looked for: loops, veiled, ifaces, maps, wideKeys, modest, calm, conditions, laid).
  DERIVED. THE GIVEN ROWS OF THIS SEAT. 7 by the template 'for every input the law returns true; each argument reads behind the call as it read before'; 0 by the template 'total and deterministic' (their statements: YtidcpndlloppdaaTotals.lean).
  GIVEN WITH THE SEED: the statements are not yours to turn. If you find one false, say at which input.
  Laid BY PROGRAM, IN A SANDBOX (cutbox-rows.mjs): the forced cells as the released guide's own fill.sh prints them over the translation 3b6236fb7e0ac271… (all of the seat's roots in one cut). By AI agents, Wed Nov 11 2026. No macro, syntax, notation, axiom, sorry.
-/
import Derived.Test.YtidcpndlloppdaaChecked
import GoSem.Claim
import GoSem.ClaimJoined
import GoSem.ClaimMapViews
import Derived.JoinedTies
import Derived.KernelRfl
namespace Go.Proofs.Ytidcpndlloppdaa
/- THE CELL 'sum', in the pinned program and in every row, IS THE sha256 OF THE DUMP (.gsa) THAT YtidcpndlloppdaaProg.lean LOADS. Nothing in Lean hashes anything: it is a label: what it is worth is what the hold of that sum in a sandbox is worth. -/
noncomputable def Try.pinned : Pinned := { name := "ytidcpndlloppdaa", sum := "3b6236fb7e0ac27137f9027b4d9ceeb8b8d5fc25dc1bc4e88560b5b12c89780f", checked := Try.checked }
namespace Rows
def none {H : Type} : Left H := { results := [], args := [] }

/-- 'rickyardlaw21.AbsmRecovers': WHATEVER THE INPUT: true; the input reads as it did. -/
def absmRecoversSpec : ChangeSpec := { name := "absmRecovers", fn := fun _ => fun
  | [d1, d2, d3] => { results := [.lit (.bool true)], args := [d1, d2, d3] }
  | _ => none }
def absmRecoversRow : OpenClaim := { program := "ytidcpndlloppdaa", sum := "3b6236fb7e0ac27137f9027b4d9ceeb8b8d5fc25dc1bc4e88560b5b12c89780f", func := "rickyard/rickyardlaw21.AbsmRecovers", spec := "absmRecovers", inPlace := ["math.Float64bits", "math.Float64frombits", "math.archFloor", "math.archTrunc", "math.archMin", "math.archMax"], unfollowed := true, recurses := true, apart := false }
def AbsmRecoversSaid : Prop := absmRecoversRow.holds Try.pinned (OpenSpec.ofChange absmRecoversSpec)

/-- ITS FALSE NEIGHBOUR: 'it returns false'. Refute it at one input. -/
def absmRecoversWrong : ChangeSpec := { name := "absmRecovers", fn := fun _ => fun
  | [d1, d2, d3] => { results := [.lit (.bool false)], args := [d1, d2, d3] }
  | _ => none }
def AbsmRecoversWrongFalsely : Prop := absmRecoversRow.holds Try.pinned (OpenSpec.ofChange absmRecoversWrong)

/-- 'rickyardlaw21.AbsmDefers': WHATEVER THE INPUT: true; the input reads as it did. -/
def absmDefersSpec : ChangeSpec := { name := "absmDefers", fn := fun _ => fun
  | [d1, d2, d3] => { results := [.lit (.bool true)], args := [d1, d2, d3] }
  | _ => none }
def absmDefersRow : OpenClaim := { program := "ytidcpndlloppdaa", sum := "3b6236fb7e0ac27137f9027b4d9ceeb8b8d5fc25dc1bc4e88560b5b12c89780f", func := "rickyard/rickyardlaw21.AbsmDefers", spec := "absmDefers", inPlace := ["math.Float64bits", "math.Float64frombits", "math.archFloor", "math.archTrunc", "math.archMin", "math.archMax"], unfollowed := true, recurses := true, apart := false }
def AbsmDefersSaid : Prop := absmDefersRow.holds Try.pinned (OpenSpec.ofChange absmDefersSpec)

/-- ITS FALSE NEIGHBOUR: 'it returns false'. Refute it at one input. -/
def absmDefersWrong : ChangeSpec := { name := "absmDefers", fn := fun _ => fun
  | [d1, d2, d3] => { results := [.lit (.bool false)], args := [d1, d2, d3] }
  | _ => none }
def AbsmDefersWrongFalsely : Prop := absmDefersRow.holds Try.pinned (OpenSpec.ofChange absmDefersWrong)

/-- 'rickyardlaw21.AbsmFresh': WHATEVER THE INPUT: true; the input reads as it did. -/
def absmFreshSpec : ChangeSpec := { name := "absmFresh", fn := fun _ => fun
  | [d] => { results := [.lit (.bool true)], args := [d] }
  | _ => none }
def absmFreshRow : OpenClaim := { program := "ytidcpndlloppdaa", sum := "3b6236fb7e0ac27137f9027b4d9ceeb8b8d5fc25dc1bc4e88560b5b12c89780f", func := "rickyard/rickyardlaw21.AbsmFresh", spec := "absmFresh", inPlace := ["math.Float64bits", "math.Float64frombits", "math.archFloor", "math.archTrunc", "math.archMin", "math.archMax"], unfollowed := true, recurses := true, apart := false }
def AbsmFreshSaid : Prop := absmFreshRow.holds Try.pinned (OpenSpec.ofChange absmFreshSpec)

/-- ITS FALSE NEIGHBOUR: 'it returns false'. Refute it at one input. -/
def absmFreshWrong : ChangeSpec := { name := "absmFresh", fn := fun _ => fun
  | [d] => { results := [.lit (.bool false)], args := [d] }
  | _ => none }
def AbsmFreshWrongFalsely : Prop := absmFreshRow.holds Try.pinned (OpenSpec.ofChange absmFreshWrong)

/-- 'rickyardlaw21.AbsmTrace': WHATEVER THE INPUT: true; the input reads as it did. -/
def absmTraceSpec : ChangeSpec := { name := "absmTrace", fn := fun _ => fun
  | [d1, d2, d3] => { results := [.lit (.bool true)], args := [d1, d2, d3] }
  | _ => none }
def absmTraceRow : OpenClaim := { program := "ytidcpndlloppdaa", sum := "3b6236fb7e0ac27137f9027b4d9ceeb8b8d5fc25dc1bc4e88560b5b12c89780f", func := "rickyard/rickyardlaw21.AbsmTrace", spec := "absmTrace", inPlace := ["math.Float64bits", "math.Float64frombits", "math.archFloor", "math.archTrunc", "math.archMin", "math.archMax"], unfollowed := true, recurses := true, apart := false }
def AbsmTraceSaid : Prop := absmTraceRow.holds Try.pinned (OpenSpec.ofChange absmTraceSpec)

/-- ITS FALSE NEIGHBOUR: 'it returns false'. Refute it at one input. -/
def absmTraceWrong : ChangeSpec := { name := "absmTrace", fn := fun _ => fun
  | [d1, d2, d3] => { results := [.lit (.bool false)], args := [d1, d2, d3] }
  | _ => none }
def AbsmTraceWrongFalsely : Prop := absmTraceRow.holds Try.pinned (OpenSpec.ofChange absmTraceWrong)

/-- 'rickyardlaw21.AbsmParks': WHATEVER THE INPUT: true; the input reads as it did. -/
def absmParksSpec : ChangeSpec := { name := "absmParks", fn := fun _ => fun
  | [d1, d2] => { results := [.lit (.bool true)], args := [d1, d2] }
  | _ => none }
def absmParksRow : OpenClaim := { program := "ytidcpndlloppdaa", sum := "3b6236fb7e0ac27137f9027b4d9ceeb8b8d5fc25dc1bc4e88560b5b12c89780f", func := "rickyard/rickyardlaw21.AbsmParks", spec := "absmParks", inPlace := ["math.Float64bits", "math.Float64frombits", "math.archFloor", "math.archTrunc", "math.archMin", "math.archMax"], unfollowed := true, recurses := true, apart := false }
def AbsmParksSaid : Prop := absmParksRow.holds Try.pinned (OpenSpec.ofChange absmParksSpec)

/-- ITS FALSE NEIGHBOUR: 'it returns false'. Refute it at one input. -/
def absmParksWrong : ChangeSpec := { name := "absmParks", fn := fun _ => fun
  | [d1, d2] => { results := [.lit (.bool false)], args := [d1, d2] }
  | _ => none }
def AbsmParksWrongFalsely : Prop := absmParksRow.holds Try.pinned (OpenSpec.ofChange absmParksWrong)

/-- 'rickyardlaw21.AbsmNone': WHATEVER THE INPUT: true; the input reads as it did. -/
def absmNoneSpec : ChangeSpec := { name := "absmNone", fn := fun _ => fun
  | [d1, d2] => { results := [.lit (.bool true)], args := [d1, d2] }
  | _ => none }
def absmNoneRow : OpenClaim := { program := "ytidcpndlloppdaa", sum := "3b6236fb7e0ac27137f9027b4d9ceeb8b8d5fc25dc1bc4e88560b5b12c89780f", func := "rickyard/rickyardlaw21.AbsmNone", spec := "absmNone", inPlace := ["math.Float64bits", "math.Float64frombits", "math.archFloor", "math.archTrunc", "math.archMin", "math.archMax"], unfollowed := true, recurses := true, apart := false }
def AbsmNoneSaid : Prop := absmNoneRow.holds Try.pinned (OpenSpec.ofChange absmNoneSpec)

/-- ITS FALSE NEIGHBOUR: 'it returns false'. Refute it at one input. -/
def absmNoneWrong : ChangeSpec := { name := "absmNone", fn := fun _ => fun
  | [d1, d2] => { results := [.lit (.bool false)], args := [d1, d2] }
  | _ => none }
def AbsmNoneWrongFalsely : Prop := absmNoneRow.holds Try.pinned (OpenSpec.ofChange absmNoneWrong)

/-- 'rickyardlaw21.AbsmFits': WHATEVER THE INPUT: true; the input reads as it did. -/
def absmFitsSpec : ChangeSpec := { name := "absmFits", fn := fun _ => fun
  | [d1, d2] => { results := [.lit (.bool true)], args := [d1, d2] }
  | _ => none }
def absmFitsRow : OpenClaim := { program := "ytidcpndlloppdaa", sum := "3b6236fb7e0ac27137f9027b4d9ceeb8b8d5fc25dc1bc4e88560b5b12c89780f", func := "rickyard/rickyardlaw21.AbsmFits", spec := "absmFits", inPlace := ["math.Float64bits", "math.Float64frombits", "math.archFloor", "math.archTrunc", "math.archMin", "math.archMax"], unfollowed := true, recurses := true, apart := false }
def AbsmFitsSaid : Prop := absmFitsRow.holds Try.pinned (OpenSpec.ofChange absmFitsSpec)

/-- ITS FALSE NEIGHBOUR: 'it returns false'. Refute it at one input. -/
def absmFitsWrong : ChangeSpec := { name := "absmFits", fn := fun _ => fun
  | [d1, d2] => { results := [.lit (.bool false)], args := [d1, d2] }
  | _ => none }
def AbsmFitsWrongFalsely : Prop := absmFitsRow.holds Try.pinned (OpenSpec.ofChange absmFitsWrong)

/- THE SECOND FORM. 'bulk': how many values and letters a reading holds, each counted each time it is reached (what is shared counts as often as it is met; a slice's spare places count too). A statement '..UptoSaid' is the law's where the arguments, and the package variables that the reading takes, are together of bulk at most 1048576: NARROWER than '..Said'. Prove '..Said' where nothing that the law and all that it calls make is longer than what came in: it says more and counts as full. Else prove '..UptoSaid'. A law counts once. -/
mutual
def uptoBulk {H : Type} : DataW H → Nat
  | .lit (.string bytes) => bytes.length + 1
  | .lit _ => 1
  | .nil => 1
  | .ptr d => uptoBulk d + 1
  | .slice elems spare => uptoBulkAll elems + uptoBulkAll spare + 1
  | .agg parts => uptoBulkAll parts + 1
  | .iface _ d => uptoBulk d + 1
  | .map entries => uptoBulkEntries entries + 1
  | .held _ => 1
def uptoBulkAll {H : Type} : List (DataW H) → Nat
  | [] => 0
  | d :: r => uptoBulk d + uptoBulkAll r
def uptoBulkEntries {H : Type} : List (Lit × DataW H) → Nat
  | [] => 0
  | x :: r => uptoBulkEntry x + uptoBulkEntries r
def uptoBulkEntry {H : Type} : Lit × DataW H → Nat
  | (.string bytes, d) => bytes.length + uptoBulk d + 1
  | (_, d) => uptoBulk d + 1
 end
def uptoSmall : (H : Type) → List (DataW H) → Bool := fun _ ds => decide (uptoBulkAll ds ≤ 1048576)
def OpenSpec.upto (s : _root_.Go.ChangeSpec) : _root_.Go.OpenSpec := { _root_.Go.OpenSpec.ofChange s with cond := some uptoSmall }

/-- 'rickyardlaw21.AbsmRecovers', WHERE WHAT IT READS IS OF BULK AT MOST 1048576: true; the input reads as it did. -/
def absmRecoversUptoRow : OpenClaim := { program := "ytidcpndlloppdaa", sum := "3b6236fb7e0ac27137f9027b4d9ceeb8b8d5fc25dc1bc4e88560b5b12c89780f", func := "rickyard/rickyardlaw21.AbsmRecovers", spec := "absmRecovers", inPlace := ["math.Float64bits", "math.Float64frombits", "math.archFloor", "math.archTrunc", "math.archMin", "math.archMax"], unfollowed := true, recurses := true, apart := false, narrowed := true }
def AbsmRecoversUptoSaid : Prop := absmRecoversUptoRow.holds Try.pinned (OpenSpec.upto absmRecoversSpec)

/-- 'rickyardlaw21.AbsmDefers', WHERE WHAT IT READS IS OF BULK AT MOST 1048576: true; the input reads as it did. -/
def absmDefersUptoRow : OpenClaim := { program := "ytidcpndlloppdaa", sum := "3b6236fb7e0ac27137f9027b4d9ceeb8b8d5fc25dc1bc4e88560b5b12c89780f", func := "rickyard/rickyardlaw21.AbsmDefers", spec := "absmDefers", inPlace := ["math.Float64bits", "math.Float64frombits", "math.archFloor", "math.archTrunc", "math.archMin", "math.archMax"], unfollowed := true, recurses := true, apart := false, narrowed := true }
def AbsmDefersUptoSaid : Prop := absmDefersUptoRow.holds Try.pinned (OpenSpec.upto absmDefersSpec)

/-- 'rickyardlaw21.AbsmFresh', WHERE WHAT IT READS IS OF BULK AT MOST 1048576: true; the input reads as it did. -/
def absmFreshUptoRow : OpenClaim := { program := "ytidcpndlloppdaa", sum := "3b6236fb7e0ac27137f9027b4d9ceeb8b8d5fc25dc1bc4e88560b5b12c89780f", func := "rickyard/rickyardlaw21.AbsmFresh", spec := "absmFresh", inPlace := ["math.Float64bits", "math.Float64frombits", "math.archFloor", "math.archTrunc", "math.archMin", "math.archMax"], unfollowed := true, recurses := true, apart := false, narrowed := true }
def AbsmFreshUptoSaid : Prop := absmFreshUptoRow.holds Try.pinned (OpenSpec.upto absmFreshSpec)

/-- 'rickyardlaw21.AbsmTrace', WHERE WHAT IT READS IS OF BULK AT MOST 1048576: true; the input reads as it did. -/
def absmTraceUptoRow : OpenClaim := { program := "ytidcpndlloppdaa", sum := "3b6236fb7e0ac27137f9027b4d9ceeb8b8d5fc25dc1bc4e88560b5b12c89780f", func := "rickyard/rickyardlaw21.AbsmTrace", spec := "absmTrace", inPlace := ["math.Float64bits", "math.Float64frombits", "math.archFloor", "math.archTrunc", "math.archMin", "math.archMax"], unfollowed := true, recurses := true, apart := false, narrowed := true }
def AbsmTraceUptoSaid : Prop := absmTraceUptoRow.holds Try.pinned (OpenSpec.upto absmTraceSpec)

/-- 'rickyardlaw21.AbsmParks', WHERE WHAT IT READS IS OF BULK AT MOST 1048576: true; the input reads as it did. -/
def absmParksUptoRow : OpenClaim := { program := "ytidcpndlloppdaa", sum := "3b6236fb7e0ac27137f9027b4d9ceeb8b8d5fc25dc1bc4e88560b5b12c89780f", func := "rickyard/rickyardlaw21.AbsmParks", spec := "absmParks", inPlace := ["math.Float64bits", "math.Float64frombits", "math.archFloor", "math.archTrunc", "math.archMin", "math.archMax"], unfollowed := true, recurses := true, apart := false, narrowed := true }
def AbsmParksUptoSaid : Prop := absmParksUptoRow.holds Try.pinned (OpenSpec.upto absmParksSpec)

/-- 'rickyardlaw21.AbsmNone', WHERE WHAT IT READS IS OF BULK AT MOST 1048576: true; the input reads as it did. -/
def absmNoneUptoRow : OpenClaim := { program := "ytidcpndlloppdaa", sum := "3b6236fb7e0ac27137f9027b4d9ceeb8b8d5fc25dc1bc4e88560b5b12c89780f", func := "rickyard/rickyardlaw21.AbsmNone", spec := "absmNone", inPlace := ["math.Float64bits", "math.Float64frombits", "math.archFloor", "math.archTrunc", "math.archMin", "math.archMax"], unfollowed := true, recurses := true, apart := false, narrowed := true }
def AbsmNoneUptoSaid : Prop := absmNoneUptoRow.holds Try.pinned (OpenSpec.upto absmNoneSpec)

/-- 'rickyardlaw21.AbsmFits', WHERE WHAT IT READS IS OF BULK AT MOST 1048576: true; the input reads as it did. -/
def absmFitsUptoRow : OpenClaim := { program := "ytidcpndlloppdaa", sum := "3b6236fb7e0ac27137f9027b4d9ceeb8b8d5fc25dc1bc4e88560b5b12c89780f", func := "rickyard/rickyardlaw21.AbsmFits", spec := "absmFits", inPlace := ["math.Float64bits", "math.Float64frombits", "math.archFloor", "math.archTrunc", "math.archMin", "math.archMax"], unfollowed := true, recurses := true, apart := false, narrowed := true }
def AbsmFitsUptoSaid : Prop := absmFitsUptoRow.holds Try.pinned (OpenSpec.upto absmFitsSpec)

end Rows
end Go.Proofs.Ytidcpndlloppdaa
