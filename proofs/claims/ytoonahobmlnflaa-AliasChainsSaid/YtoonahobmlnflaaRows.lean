/-
  No cell of these rows narrows 'for every input' (looked for: loops, veiled, ifaces, maps, wideKeys, modest, calm, conditions, laid).
  DERIVED. THE GIVEN ROWS OF THIS SEAT. 4 by the template 'for every input the law returns true; each argument reads behind the call as it read before'; 0 by the template 'total and deterministic' (their statements: YtoonahobmlnflaaTotals.lean).
  GIVEN WITH THE SEED: the statements are not yours to turn. If you find one false, say at which input.
  Laid BY PROGRAM, IN A SANDBOX (cutbox-rows.mjs): the forced cells as the released guide's own fill.sh prints them over the translation 561faa016b55a4bc… (all of the seat's roots in one cut). By AI agents, Wed Nov 11 2026. No macro, syntax, notation, axiom, sorry.
-/
import Derived.Test.YtoonahobmlnflaaChecked
import GoSem.Claim
import GoSem.ClaimJoined
import GoSem.ClaimMapViews
import Derived.JoinedTies
import Derived.KernelRfl
namespace Go.Proofs.Ytoonahobmlnflaa
/- THE CELL 'sum', in the pinned program and in every row, IS THE sha256 OF THE DUMP (.gsa) THAT YtoonahobmlnflaaProg.lean LOADS. Nothing in Lean hashes anything: it is a label: what it is worth is what the hold of that sum in a sandbox is worth. -/
noncomputable def Try.pinned : Pinned := { name := "ytoonahobmlnflaa", sum := "561faa016b55a4bc53b127359c78d6a00b47293fcecd4682f86989370b1479df", checked := Try.checked }
namespace Rows
def none {H : Type} : Left H := { results := [], args := [] }

/-- 'orrerylaw17.SymbOnce': WHATEVER THE INPUT: true; the input reads as it did. -/
def symbOnceSpec : ChangeSpec := { name := "symbOnce", fn := fun _ => fun
  | [d1, d2] => { results := [.lit (.bool true)], args := [d1, d2] }
  | _ => none }
def symbOnceRow : OpenClaim := { program := "ytoonahobmlnflaa", sum := "561faa016b55a4bc53b127359c78d6a00b47293fcecd4682f86989370b1479df", func := "orrery/orrerylaw17.SymbOnce", spec := "symbOnce", inPlace := ["math/bits.Add64", "math/bits.Sub64"], unfollowed := true, recurses := true, named := ["math/bits.divideError", "math/bits.overflowError"], plainKeys := false, apart := false }
def SymbOnceSaid : Prop := symbOnceRow.holds Try.pinned (OpenSpec.ofChange symbOnceSpec)

/-- ITS FALSE NEIGHBOUR: 'it returns false'. Refute it at one input. -/
def symbOnceWrong : ChangeSpec := { name := "symbOnce", fn := fun _ => fun
  | [d1, d2] => { results := [.lit (.bool false)], args := [d1, d2] }
  | _ => none }
def SymbOnceWrongFalsely : Prop := symbOnceRow.holds Try.pinned (OpenSpec.ofChange symbOnceWrong)

/-- 'orrerylaw17.SymbUses': WHATEVER THE INPUT: true; the input reads as it did. -/
def symbUsesSpec : ChangeSpec := { name := "symbUses", fn := fun _ => fun
  | [d1, d2] => { results := [.lit (.bool true)], args := [d1, d2] }
  | _ => none }
def symbUsesRow : OpenClaim := { program := "ytoonahobmlnflaa", sum := "561faa016b55a4bc53b127359c78d6a00b47293fcecd4682f86989370b1479df", func := "orrery/orrerylaw17.SymbUses", spec := "symbUses", inPlace := ["math/bits.Add64", "math/bits.Sub64"], unfollowed := true, recurses := true, named := ["math/bits.divideError", "math/bits.overflowError"], plainKeys := false, apart := false }
def SymbUsesSaid : Prop := symbUsesRow.holds Try.pinned (OpenSpec.ofChange symbUsesSpec)

/-- ITS FALSE NEIGHBOUR: 'it returns false'. Refute it at one input. -/
def symbUsesWrong : ChangeSpec := { name := "symbUses", fn := fun _ => fun
  | [d1, d2] => { results := [.lit (.bool false)], args := [d1, d2] }
  | _ => none }
def SymbUsesWrongFalsely : Prop := symbUsesRow.holds Try.pinned (OpenSpec.ofChange symbUsesWrong)

/-- 'orrerylaw18.AliasOnce': WHATEVER THE INPUT: true; the input reads as it did. -/
def aliasOnceSpec : ChangeSpec := { name := "aliasOnce", fn := fun _ => fun
  | [d] => { results := [.lit (.bool true)], args := [d] }
  | _ => none }
def aliasOnceRow : OpenClaim := { program := "ytoonahobmlnflaa", sum := "561faa016b55a4bc53b127359c78d6a00b47293fcecd4682f86989370b1479df", func := "orrery/orrerylaw18.AliasOnce", spec := "aliasOnce", inPlace := ["math/bits.Add64", "math/bits.Sub64"], unfollowed := true, recurses := true, named := ["math/bits.divideError", "math/bits.overflowError"], plainKeys := false, apart := false }
def AliasOnceSaid : Prop := aliasOnceRow.holds Try.pinned (OpenSpec.ofChange aliasOnceSpec)

/-- ITS FALSE NEIGHBOUR: 'it returns false'. Refute it at one input. -/
def aliasOnceWrong : ChangeSpec := { name := "aliasOnce", fn := fun _ => fun
  | [d] => { results := [.lit (.bool false)], args := [d] }
  | _ => none }
def AliasOnceWrongFalsely : Prop := aliasOnceRow.holds Try.pinned (OpenSpec.ofChange aliasOnceWrong)

/-- 'orrerylaw18.AliasChains': WHATEVER THE INPUT: true; the input reads as it did. -/
def aliasChainsSpec : ChangeSpec := { name := "aliasChains", fn := fun _ => fun
  | [d1, d2] => { results := [.lit (.bool true)], args := [d1, d2] }
  | _ => none }
def aliasChainsRow : OpenClaim := { program := "ytoonahobmlnflaa", sum := "561faa016b55a4bc53b127359c78d6a00b47293fcecd4682f86989370b1479df", func := "orrery/orrerylaw18.AliasChains", spec := "aliasChains", inPlace := ["math/bits.Add64", "math/bits.Sub64"], unfollowed := true, recurses := true, named := ["math/bits.divideError", "math/bits.overflowError"], plainKeys := false, apart := false }
def AliasChainsSaid : Prop := aliasChainsRow.holds Try.pinned (OpenSpec.ofChange aliasChainsSpec)

/-- ITS FALSE NEIGHBOUR: 'it returns false'. Refute it at one input. -/
def aliasChainsWrong : ChangeSpec := { name := "aliasChains", fn := fun _ => fun
  | [d1, d2] => { results := [.lit (.bool false)], args := [d1, d2] }
  | _ => none }
def AliasChainsWrongFalsely : Prop := aliasChainsRow.holds Try.pinned (OpenSpec.ofChange aliasChainsWrong)

/- THE SECOND FORM. 'bulk': how many values and letters a reading holds, each counted each time it is reached (what is shared counts as often as it is met; a slice's spare places count too). A statement '..UptoSaid' is the law's where the arguments, and the package variables that the reading takes, are together of bulk at most 1048576: NARROWER than '..Said'. Prove '..Said' where nothing that the law and all that it calls make is longer than what came in: it says more and counts as full. Else prove '..UptoSaid'. A law counts once. -/
mutual
def uptoBulk {H : Type} : DataW H → Nat
  | .lit (.string bytes) => bytes.length + 1
  | .lit _ => 1
  | .nil => 1
  | .ptr d => uptoBulk d + 1
  | .slice elems spare => uptoBulkAll elems + uptoBulkAll spare + 1
  | .agg parts => uptoBulkAll parts + 1
  | .iface _ d => uptoBulk d + 1
  | .map entries => uptoBulkEntries entries + 1
  | .held _ => 1
def uptoBulkAll {H : Type} : List (DataW H) → Nat
  | [] => 0
  | d :: r => uptoBulk d + uptoBulkAll r
def uptoBulkEntries {H : Type} : List (Lit × DataW H) → Nat
  | [] => 0
  | x :: r => uptoBulkEntry x + uptoBulkEntries r
def uptoBulkEntry {H : Type} : Lit × DataW H → Nat
  | (.string bytes, d) => bytes.length + uptoBulk d + 1
  | (_, d) => uptoBulk d + 1
 end
def uptoSmall : (H : Type) → List (DataW H) → Bool := fun _ ds => decide (uptoBulkAll ds ≤ 1048576)
def OpenSpec.upto (s : _root_.Go.ChangeSpec) : _root_.Go.OpenSpec := { _root_.Go.OpenSpec.ofChange s with cond := some uptoSmall }

/-- 'orrerylaw17.SymbOnce', WHERE WHAT IT READS IS OF BULK AT MOST 1048576: true; the input reads as it did. -/
def symbOnceUptoRow : OpenClaim := { program := "ytoonahobmlnflaa", sum := "561faa016b55a4bc53b127359c78d6a00b47293fcecd4682f86989370b1479df", func := "orrery/orrerylaw17.SymbOnce", spec := "symbOnce", inPlace := ["math/bits.Add64", "math/bits.Sub64"], unfollowed := true, recurses := true, named := ["math/bits.divideError", "math/bits.overflowError"], plainKeys := false, apart := false, narrowed := true }
def SymbOnceUptoSaid : Prop := symbOnceUptoRow.holds Try.pinned (OpenSpec.upto symbOnceSpec)

/-- 'orrerylaw17.SymbUses', WHERE WHAT IT READS IS OF BULK AT MOST 1048576: true; the input reads as it did. -/
def symbUsesUptoRow : OpenClaim := { program := "ytoonahobmlnflaa", sum := "561faa016b55a4bc53b127359c78d6a00b47293fcecd4682f86989370b1479df", func := "orrery/orrerylaw17.SymbUses", spec := "symbUses", inPlace := ["math/bits.Add64", "math/bits.Sub64"], unfollowed := true, recurses := true, named := ["math/bits.divideError", "math/bits.overflowError"], plainKeys := false, apart := false, narrowed := true }
def SymbUsesUptoSaid : Prop := symbUsesUptoRow.holds Try.pinned (OpenSpec.upto symbUsesSpec)

/-- 'orrerylaw18.AliasOnce', WHERE WHAT IT READS IS OF BULK AT MOST 1048576: true; the input reads as it did. -/
def aliasOnceUptoRow : OpenClaim := { program := "ytoonahobmlnflaa", sum := "561faa016b55a4bc53b127359c78d6a00b47293fcecd4682f86989370b1479df", func := "orrery/orrerylaw18.AliasOnce", spec := "aliasOnce", inPlace := ["math/bits.Add64", "math/bits.Sub64"], unfollowed := true, recurses := true, named := ["math/bits.divideError", "math/bits.overflowError"], plainKeys := false, apart := false, narrowed := true }
def AliasOnceUptoSaid : Prop := aliasOnceUptoRow.holds Try.pinned (OpenSpec.upto aliasOnceSpec)

/-- 'orrerylaw18.AliasChains', WHERE WHAT IT READS IS OF BULK AT MOST 1048576: true; the input reads as it did. -/
def aliasChainsUptoRow : OpenClaim := { program := "ytoonahobmlnflaa", sum := "561faa016b55a4bc53b127359c78d6a00b47293fcecd4682f86989370b1479df", func := "orrery/orrerylaw18.AliasChains", spec := "aliasChains", inPlace := ["math/bits.Add64", "math/bits.Sub64"], unfollowed := true, recurses := true, named := ["math/bits.divideError", "math/bits.overflowError"], plainKeys := false, apart := false, narrowed := true }
def AliasChainsUptoSaid : Prop := aliasChainsUptoRow.holds Try.pinned (OpenSpec.upto aliasChainsSpec)

end Rows
end Go.Proofs.Ytoonahobmlnflaa
