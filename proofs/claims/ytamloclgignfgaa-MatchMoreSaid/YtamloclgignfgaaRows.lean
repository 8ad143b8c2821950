/-
  No cell of these rows narrows 'for every input' (looked for: loops, veiled, ifaces, maps, wideKeys, modest, calm, conditions, laid).
  DERIVED. THE GIVEN ROWS OF THIS SEAT. 10 by the template 'for every input the law returns true; each argument reads behind the call as it read before'; 0 by the template 'total and deterministic' (their statements: YtamloclgignfgaaTotals.lean).
  GIVEN WITH THE SEED: the statements are not yours to turn. If you find one false, say at which input.
  Laid BY PROGRAM, IN A SANDBOX (cutbox-rows.mjs): the forced cells as the released guide's own fill.sh prints them over the translation 1b0e7b7b2abd5241… (all of the seat's roots in one cut). By AI agents, Wed Nov 11 2026. No macro, syntax, notation, axiom, sorry.
-/
import Derived.Test.YtamloclgignfgaaChecked
import GoSem.Claim
import GoSem.ClaimJoined
import GoSem.ClaimMapViews
import Derived.JoinedTies
import Derived.KernelRfl
namespace Go.Proofs.Ytamloclgignfgaa
/- THE CELL 'sum', in the pinned program and in every row, IS THE sha256 OF THE DUMP (.gsa) THAT YtamloclgignfgaaProg.lean LOADS. Nothing in Lean hashes anything: it is a label: what it is worth is what the hold of that sum in a sandbox is worth. -/
noncomputable def Try.pinned : Pinned := { name := "ytamloclgignfgaa", sum := "1b0e7b7b2abd5241e087dff77fff97b437e5867ecd4d1be89fb70c0c2bfd1324", checked := Try.checked }
namespace Rows
def none {H : Type} : Left H := { results := [], args := [] }

/-- 'orrerylaw19.MatchMost': WHATEVER THE INPUT: true; the input reads as it did. -/
def matchMostSpec : ChangeSpec := { name := "matchMost", fn := fun _ => fun
  | [d1, d2, d3] => { results := [.lit (.bool true)], args := [d1, d2, d3] }
  | _ => none }
def matchMostRow : OpenClaim := { program := "ytamloclgignfgaa", sum := "1b0e7b7b2abd5241e087dff77fff97b437e5867ecd4d1be89fb70c0c2bfd1324", func := "orrery/orrerylaw19.MatchMost", spec := "matchMost", unfollowed := true, recurses := true, apart := false }
def MatchMostSaid : Prop := matchMostRow.holds Try.pinned (OpenSpec.ofChange matchMostSpec)

/-- ITS FALSE NEIGHBOUR: 'it returns false'. Refute it at one input. -/
def matchMostWrong : ChangeSpec := { name := "matchMost", fn := fun _ => fun
  | [d1, d2, d3] => { results := [.lit (.bool false)], args := [d1, d2, d3] }
  | _ => none }
def MatchMostWrongFalsely : Prop := matchMostRow.holds Try.pinned (OpenSpec.ofChange matchMostWrong)

/-- 'orrerylaw20.OffsetLeast': WHATEVER THE INPUT: true; the input reads as it did. -/
def offsetLeastSpec : ChangeSpec := { name := "offsetLeast", fn := fun _ => fun
  | [d1, d2, d3] => { results := [.lit (.bool true)], args := [d1, d2, d3] }
  | _ => none }
def offsetLeastRow : OpenClaim := { program := "ytamloclgignfgaa", sum := "1b0e7b7b2abd5241e087dff77fff97b437e5867ecd4d1be89fb70c0c2bfd1324", func := "orrery/orrerylaw20.OffsetLeast", spec := "offsetLeast", unfollowed := true, recurses := true, apart := false }
def OffsetLeastSaid : Prop := offsetLeastRow.holds Try.pinned (OpenSpec.ofChange offsetLeastSpec)

/-- ITS FALSE NEIGHBOUR: 'it returns false'. Refute it at one input. -/
def offsetLeastWrong : ChangeSpec := { name := "offsetLeast", fn := fun _ => fun
  | [d1, d2, d3] => { results := [.lit (.bool false)], args := [d1, d2, d3] }
  | _ => none }
def OffsetLeastWrongFalsely : Prop := offsetLeastRow.holds Try.pinned (OpenSpec.ofChange offsetLeastWrong)

/-- 'orrerylaw20.OffsetBelow': WHATEVER THE INPUT: true; the input reads as it did. -/
def offsetBelowSpec : ChangeSpec := { name := "offsetBelow", fn := fun _ => fun
  | [d1, d2, d3, d4] => { results := [.lit (.bool true)], args := [d1, d2, d3, d4] }
  | _ => none }
def offsetBelowRow : OpenClaim := { program := "ytamloclgignfgaa", sum := "1b0e7b7b2abd5241e087dff77fff97b437e5867ecd4d1be89fb70c0c2bfd1324", func := "orrery/orrerylaw20.OffsetBelow", spec := "offsetBelow", unfollowed := true, recurses := true, apart := false }
def OffsetBelowSaid : Prop := offsetBelowRow.holds Try.pinned (OpenSpec.ofChange offsetBelowSpec)

/-- ITS FALSE NEIGHBOUR: 'it returns false'. Refute it at one input. -/
def offsetBelowWrong : ChangeSpec := { name := "offsetBelow", fn := fun _ => fun
  | [d1, d2, d3, d4] => { results := [.lit (.bool false)], args := [d1, d2, d3, d4] }
  | _ => none }
def OffsetBelowWrongFalsely : Prop := offsetBelowRow.holds Try.pinned (OpenSpec.ofChange offsetBelowWrong)

/-- 'orrerylaw20.OffsetPlain': WHATEVER THE INPUT: true; the input reads as it did. -/
def offsetPlainSpec : ChangeSpec := { name := "offsetPlain", fn := fun _ => fun
  | [d1, d2] => { results := [.lit (.bool true)], args := [d1, d2] }
  | _ => none }
def offsetPlainRow : OpenClaim := { program := "ytamloclgignfgaa", sum := "1b0e7b7b2abd5241e087dff77fff97b437e5867ecd4d1be89fb70c0c2bfd1324", func := "orrery/orrerylaw20.OffsetPlain", spec := "offsetPlain", unfollowed := true, recurses := true, apart := false }
def OffsetPlainSaid : Prop := offsetPlainRow.holds Try.pinned (OpenSpec.ofChange offsetPlainSpec)

/-- ITS FALSE NEIGHBOUR: 'it returns false'. Refute it at one input. -/
def offsetPlainWrong : ChangeSpec := { name := "offsetPlain", fn := fun _ => fun
  | [d1, d2] => { results := [.lit (.bool false)], args := [d1, d2] }
  | _ => none }
def OffsetPlainWrongFalsely : Prop := offsetPlainRow.holds Try.pinned (OpenSpec.ofChange offsetPlainWrong)

/-- 'orrerylaw19.MatchAssigns': WHATEVER THE INPUT: true; the input reads as it did. -/
def matchAssignsSpec : ChangeSpec := { name := "matchAssigns", fn := fun _ => fun
  | [d1, d2] => { results := [.lit (.bool true)], args := [d1, d2] }
  | _ => none }
def matchAssignsRow : OpenClaim := { program := "ytamloclgignfgaa", sum := "1b0e7b7b2abd5241e087dff77fff97b437e5867ecd4d1be89fb70c0c2bfd1324", func := "orrery/orrerylaw19.MatchAssigns", spec := "matchAssigns", unfollowed := true, recurses := true, apart := false }
def MatchAssignsSaid : Prop := matchAssignsRow.holds Try.pinned (OpenSpec.ofChange matchAssignsSpec)

/-- ITS FALSE NEIGHBOUR: 'it returns false'. Refute it at one input. -/
def matchAssignsWrong : ChangeSpec := { name := "matchAssigns", fn := fun _ => fun
  | [d1, d2] => { results := [.lit (.bool false)], args := [d1, d2] }
  | _ => none }
def MatchAssignsWrongFalsely : Prop := matchAssignsRow.holds Try.pinned (OpenSpec.ofChange matchAssignsWrong)

/-- 'orrerylaw19.MatchWhole': WHATEVER THE INPUT: true; the input reads as it did. -/
def matchWholeSpec : ChangeSpec := { name := "matchWhole", fn := fun _ => fun
  | [d1, d2, d3] => { results := [.lit (.bool true)], args := [d1, d2, d3] }
  | _ => none }
def matchWholeRow : OpenClaim := { program := "ytamloclgignfgaa", sum := "1b0e7b7b2abd5241e087dff77fff97b437e5867ecd4d1be89fb70c0c2bfd1324", func := "orrery/orrerylaw19.MatchWhole", spec := "matchWhole", unfollowed := true, recurses := true, apart := false }
def MatchWholeSaid : Prop := matchWholeRow.holds Try.pinned (OpenSpec.ofChange matchWholeSpec)

/-- ITS FALSE NEIGHBOUR: 'it returns false'. Refute it at one input. -/
def matchWholeWrong : ChangeSpec := { name := "matchWhole", fn := fun _ => fun
  | [d1, d2, d3] => { results := [.lit (.bool false)], args := [d1, d2, d3] }
  | _ => none }
def MatchWholeWrongFalsely : Prop := matchWholeRow.holds Try.pinned (OpenSpec.ofChange matchWholeWrong)

/-- 'orrerylaw19.MatchMore': WHATEVER THE INPUT: true; the input reads as it did. -/
def matchMoreSpec : ChangeSpec := { name := "matchMore", fn := fun _ => fun
  | [d1, d2, d3] => { results := [.lit (.bool true)], args := [d1, d2, d3] }
  | _ => none }
def matchMoreRow : OpenClaim := { program := "ytamloclgignfgaa", sum := "1b0e7b7b2abd5241e087dff77fff97b437e5867ecd4d1be89fb70c0c2bfd1324", func := "orrery/orrerylaw19.MatchMore", spec := "matchMore", unfollowed := true, recurses := true, apart := false }
def MatchMoreSaid : Prop := matchMoreRow.holds Try.pinned (OpenSpec.ofChange matchMoreSpec)

/-- ITS FALSE NEIGHBOUR: 'it returns false'. Refute it at one input. -/
def matchMoreWrong : ChangeSpec := { name := "matchMore", fn := fun _ => fun
  | [d1, d2, d3] => { results := [.lit (.bool false)], args := [d1, d2, d3] }
  | _ => none }
def MatchMoreWrongFalsely : Prop := matchMoreRow.holds Try.pinned (OpenSpec.ofChange matchMoreWrong)

/-- 'orrerylaw19.MatchTurned': WHATEVER THE INPUT: true; the input reads as it did. -/
def matchTurnedSpec : ChangeSpec := { name := "matchTurned", fn := fun _ => fun
  | [d1, d2, d3] => { results := [.lit (.bool true)], args := [d1, d2, d3] }
  | _ => none }
def matchTurnedRow : OpenClaim := { program := "ytamloclgignfgaa", sum := "1b0e7b7b2abd5241e087dff77fff97b437e5867ecd4d1be89fb70c0c2bfd1324", func := "orrery/orrerylaw19.MatchTurned", spec := "matchTurned", unfollowed := true, recurses := true, apart := false }
def MatchTurnedSaid : Prop := matchTurnedRow.holds Try.pinned (OpenSpec.ofChange matchTurnedSpec)

/-- ITS FALSE NEIGHBOUR: 'it returns false'. Refute it at one input. -/
def matchTurnedWrong : ChangeSpec := { name := "matchTurned", fn := fun _ => fun
  | [d1, d2, d3] => { results := [.lit (.bool false)], args := [d1, d2, d3] }
  | _ => none }
def MatchTurnedWrongFalsely : Prop := matchTurnedRow.holds Try.pinned (OpenSpec.ofChange matchTurnedWrong)

/-- 'orrerylaw20.OffsetUp': WHATEVER THE INPUT: true; the input reads as it did. -/
def offsetUpSpec : ChangeSpec := { name := "offsetUp", fn := fun _ => fun
  | [d1, d2, d3] => { results := [.lit (.bool true)], args := [d1, d2, d3] }
  | _ => none }
def offsetUpRow : OpenClaim := { program := "ytamloclgignfgaa", sum := "1b0e7b7b2abd5241e087dff77fff97b437e5867ecd4d1be89fb70c0c2bfd1324", func := "orrery/orrerylaw20.OffsetUp", spec := "offsetUp", inPlace := ["math.Float64frombits", "math.Float64bits"], unfollowed := true, recurses := true, apart := false }
def OffsetUpSaid : Prop := offsetUpRow.holds Try.pinned (OpenSpec.ofChange offsetUpSpec)

/-- ITS FALSE NEIGHBOUR: 'it returns false'. Refute it at one input. -/
def offsetUpWrong : ChangeSpec := { name := "offsetUp", fn := fun _ => fun
  | [d1, d2, d3] => { results := [.lit (.bool false)], args := [d1, d2, d3] }
  | _ => none }
def OffsetUpWrongFalsely : Prop := offsetUpRow.holds Try.pinned (OpenSpec.ofChange offsetUpWrong)

/-- 'orrerylaw20.OffsetHeaviest': WHATEVER THE INPUT: true; the input reads as it did. -/
def offsetHeaviestSpec : ChangeSpec := { name := "offsetHeaviest", fn := fun _ => fun
  | [d1, d2, d3] => { results := [.lit (.bool true)], args := [d1, d2, d3] }
  | _ => none }
def offsetHeaviestRow : OpenClaim := { program := "ytamloclgignfgaa", sum := "1b0e7b7b2abd5241e087dff77fff97b437e5867ecd4d1be89fb70c0c2bfd1324", func := "orrery/orrerylaw20.OffsetHeaviest", spec := "offsetHeaviest", inPlace := ["math.Float64frombits", "math.Float64bits"], unfollowed := true, recurses := true, apart := false }
def OffsetHeaviestSaid : Prop := offsetHeaviestRow.holds Try.pinned (OpenSpec.ofChange offsetHeaviestSpec)

/-- ITS FALSE NEIGHBOUR: 'it returns false'. Refute it at one input. -/
def offsetHeaviestWrong : ChangeSpec := { name := "offsetHeaviest", fn := fun _ => fun
  | [d1, d2, d3] => { results := [.lit (.bool false)], args := [d1, d2, d3] }
  | _ => none }
def OffsetHeaviestWrongFalsely : Prop := offsetHeaviestRow.holds Try.pinned (OpenSpec.ofChange offsetHeaviestWrong)

/- THE SECOND FORM. 'bulk': how many values and letters a reading holds, each counted each time it is reached (what is shared counts as often as it is met; a slice's spare places count too). A statement '..UptoSaid' is the law's where the arguments, and the package variables that the reading takes, are together of bulk at most 1048576: NARROWER than '..Said'. Prove '..Said' where nothing that the law and all that it calls make is longer than what came in: it says more and counts as full. Else prove '..UptoSaid'. A law counts once. -/
mutual
def uptoBulk {H : Type} : DataW H → Nat
  | .lit (.string bytes) => bytes.length + 1
  | .lit _ => 1
  | .nil => 1
  | .ptr d => uptoBulk d + 1
  | .slice elems spare => uptoBulkAll elems + uptoBulkAll spare + 1
  | .agg parts => uptoBulkAll parts + 1
  | .iface _ d => uptoBulk d + 1
  | .map entries => uptoBulkEntries entries + 1
  | .held _ => 1
def uptoBulkAll {H : Type} : List (DataW H) → Nat
  | [] => 0
  | d :: r => uptoBulk d + uptoBulkAll r
def uptoBulkEntries {H : Type} : List (Lit × DataW H) → Nat
  | [] => 0
  | x :: r => uptoBulkEntry x + uptoBulkEntries r
def uptoBulkEntry {H : Type} : Lit × DataW H → Nat
  | (.string bytes, d) => bytes.length + uptoBulk d + 1
  | (_, d) => uptoBulk d + 1
 end
def uptoSmall : (H : Type) → List (DataW H) → Bool := fun _ ds => decide (uptoBulkAll ds ≤ 1048576)
def OpenSpec.upto (s : _root_.Go.ChangeSpec) : _root_.Go.OpenSpec := { _root_.Go.OpenSpec.ofChange s with cond := some uptoSmall }

/-- 'orrerylaw19.MatchMost', WHERE WHAT IT READS IS OF BULK AT MOST 1048576: true; the input reads as it did. -/
def matchMostUptoRow : OpenClaim := { program := "ytamloclgignfgaa", sum := "1b0e7b7b2abd5241e087dff77fff97b437e5867ecd4d1be89fb70c0c2bfd1324", func := "orrery/orrerylaw19.MatchMost", spec := "matchMost", unfollowed := true, recurses := true, apart := false, narrowed := true }
def MatchMostUptoSaid : Prop := matchMostUptoRow.holds Try.pinned (OpenSpec.upto matchMostSpec)

/-- 'orrerylaw20.OffsetLeast', WHERE WHAT IT READS IS OF BULK AT MOST 1048576: true; the input reads as it did. -/
def offsetLeastUptoRow : OpenClaim := { program := "ytamloclgignfgaa", sum := "1b0e7b7b2abd5241e087dff77fff97b437e5867ecd4d1be89fb70c0c2bfd1324", func := "orrery/orrerylaw20.OffsetLeast", spec := "offsetLeast", unfollowed := true, recurses := true, apart := false, narrowed := true }
def OffsetLeastUptoSaid : Prop := offsetLeastUptoRow.holds Try.pinned (OpenSpec.upto offsetLeastSpec)

/-- 'orrerylaw20.OffsetBelow', WHERE WHAT IT READS IS OF BULK AT MOST 1048576: true; the input reads as it did. -/
def offsetBelowUptoRow : OpenClaim := { program := "ytamloclgignfgaa", sum := "1b0e7b7b2abd5241e087dff77fff97b437e5867ecd4d1be89fb70c0c2bfd1324", func := "orrery/orrerylaw20.OffsetBelow", spec := "offsetBelow", unfollowed := true, recurses := true, apart := false, narrowed := true }
def OffsetBelowUptoSaid : Prop := offsetBelowUptoRow.holds Try.pinned (OpenSpec.upto offsetBelowSpec)

/-- 'orrerylaw20.OffsetPlain', WHERE WHAT IT READS IS OF BULK AT MOST 1048576: true; the input reads as it did. -/
def offsetPlainUptoRow : OpenClaim := { program := "ytamloclgignfgaa", sum := "1b0e7b7b2abd5241e087dff77fff97b437e5867ecd4d1be89fb70c0c2bfd1324", func := "orrery/orrerylaw20.OffsetPlain", spec := "offsetPlain", unfollowed := true, recurses := true, apart := false, narrowed := true }
def OffsetPlainUptoSaid : Prop := offsetPlainUptoRow.holds Try.pinned (OpenSpec.upto offsetPlainSpec)

/-- 'orrerylaw19.MatchAssigns', WHERE WHAT IT READS IS OF BULK AT MOST 1048576: true; the input reads as it did. -/
def matchAssignsUptoRow : OpenClaim := { program := "ytamloclgignfgaa", sum := "1b0e7b7b2abd5241e087dff77fff97b437e5867ecd4d1be89fb70c0c2bfd1324", func := "orrery/orrerylaw19.MatchAssigns", spec := "matchAssigns", unfollowed := true, recurses := true, apart := false, narrowed := true }
def MatchAssignsUptoSaid : Prop := matchAssignsUptoRow.holds Try.pinned (OpenSpec.upto matchAssignsSpec)

/-- 'orrerylaw19.MatchWhole', WHERE WHAT IT READS IS OF BULK AT MOST 1048576: true; the input reads as it did. -/
def matchWholeUptoRow : OpenClaim := { program := "ytamloclgignfgaa", sum := "1b0e7b7b2abd5241e087dff77fff97b437e5867ecd4d1be89fb70c0c2bfd1324", func := "orrery/orrerylaw19.MatchWhole", spec := "matchWhole", unfollowed := true, recurses := true, apart := false, narrowed := true }
def MatchWholeUptoSaid : Prop := matchWholeUptoRow.holds Try.pinned (OpenSpec.upto matchWholeSpec)

/-- 'orrerylaw19.MatchMore', WHERE WHAT IT READS IS OF BULK AT MOST 1048576: true; the input reads as it did. -/
def matchMoreUptoRow : OpenClaim := { program := "ytamloclgignfgaa", sum := "1b0e7b7b2abd5241e087dff77fff97b437e5867ecd4d1be89fb70c0c2bfd1324", func := "orrery/orrerylaw19.MatchMore", spec := "matchMore", unfollowed := true, recurses := true, apart := false, narrowed := true }
def MatchMoreUptoSaid : Prop := matchMoreUptoRow.holds Try.pinned (OpenSpec.upto matchMoreSpec)

/-- 'orrerylaw19.MatchTurned', WHERE WHAT IT READS IS OF BULK AT MOST 1048576: true; the input reads as it did. -/
def matchTurnedUptoRow : OpenClaim := { program := "ytamloclgignfgaa", sum := "1b0e7b7b2abd5241e087dff77fff97b437e5867ecd4d1be89fb70c0c2bfd1324", func := "orrery/orrerylaw19.MatchTurned", spec := "matchTurned", unfollowed := true, recurses := true, apart := false, narrowed := true }
def MatchTurnedUptoSaid : Prop := matchTurnedUptoRow.holds Try.pinned (OpenSpec.upto matchTurnedSpec)

/-- 'orrerylaw20.OffsetUp', WHERE WHAT IT READS IS OF BULK AT MOST 1048576: true; the input reads as it did. -/
def offsetUpUptoRow : OpenClaim := { program := "ytamloclgignfgaa", sum := "1b0e7b7b2abd5241e087dff77fff97b437e5867ecd4d1be89fb70c0c2bfd1324", func := "orrery/orrerylaw20.OffsetUp", spec := "offsetUp", inPlace := ["math.Float64frombits", "math.Float64bits"], unfollowed := true, recurses := true, apart := false, narrowed := true }
def OffsetUpUptoSaid : Prop := offsetUpUptoRow.holds Try.pinned (OpenSpec.upto offsetUpSpec)

/-- 'orrerylaw20.OffsetHeaviest', WHERE WHAT IT READS IS OF BULK AT MOST 1048576: true; the input reads as it did. -/
def offsetHeaviestUptoRow : OpenClaim := { program := "ytamloclgignfgaa", sum := "1b0e7b7b2abd5241e087dff77fff97b437e5867ecd4d1be89fb70c0c2bfd1324", func := "orrery/orrerylaw20.OffsetHeaviest", spec := "offsetHeaviest", inPlace := ["math.Float64frombits", "math.Float64bits"], unfollowed := true, recurses := true, apart := false, narrowed := true }
def OffsetHeaviestUptoSaid : Prop := offsetHeaviestUptoRow.holds Try.pinned (OpenSpec.upto offsetHeaviestSpec)

end Rows
end Go.Proofs.Ytamloclgignfgaa
