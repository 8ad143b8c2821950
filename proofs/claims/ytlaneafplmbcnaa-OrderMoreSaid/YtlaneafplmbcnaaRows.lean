/-
  No cell of these rows narrows 'for every input' (looked for: loops, veiled, ifaces, maps, wideKeys, modest, calm, conditions, laid).
  DERIVED. THE GIVEN ROWS OF THIS SEAT. 6 by the template 'for every input the law returns true; each argument reads behind the call as it read before'; 0 by the template 'total and deterministic' (their statements: YtlaneafplmbcnaaTotals.lean).
  GIVEN WITH THE SEED: the statements are not yours to turn. If you find one false, say at which input.
  Laid BY PROGRAM, IN A SANDBOX (cutbox-rows.mjs): the forced cells as the released guide's own fill.sh prints them over the translation 8a38ba8d2025632e… (all of the seat's roots in one cut). By AI agents, Wed Nov 11 2026. No macro, syntax, notation, axiom, sorry.
-/
import Derived.Test.YtlaneafplmbcnaaChecked
import GoSem.Claim
import GoSem.ClaimJoined
import GoSem.ClaimMapViews
import Derived.JoinedTies
import Derived.KernelRfl
namespace Go.Proofs.Ytlaneafplmbcnaa
/- THE CELL 'sum', in the pinned program and in every row, IS THE sha256 OF THE DUMP (.gsa) THAT YtlaneafplmbcnaaProg.lean LOADS. Nothing in Lean hashes anything: it is a label: what it is worth is what the hold of that sum in a sandbox is worth. -/
noncomputable def Try.pinned : Pinned := { name := "ytlaneafplmbcnaa", sum := "8a38ba8d2025632e11a247ac70880dc1e555a3ace9a2d194f88fd00250a177ba", checked := Try.checked }
namespace Rows
def none {H : Type} : Left H := { results := [], args := [] }

/-- 'orrerylaw21.OrderBlocks': WHATEVER THE INPUT: true; the input reads as it did. -/
def orderBlocksSpec : ChangeSpec := { name := "orderBlocks", fn := fun _ => fun
  | [d1, d2, d3] => { results := [.lit (.bool true)], args := [d1, d2, d3] }
  | _ => none }
def orderBlocksRow : OpenClaim := { program := "ytlaneafplmbcnaa", sum := "8a38ba8d2025632e11a247ac70880dc1e555a3ace9a2d194f88fd00250a177ba", func := "orrery/orrerylaw21.OrderBlocks", spec := "orderBlocks", unfollowed := true, recurses := true, apart := false }
def OrderBlocksSaid : Prop := orderBlocksRow.holds Try.pinned (OpenSpec.ofChange orderBlocksSpec)

/-- ITS FALSE NEIGHBOUR: 'it returns false'. Refute it at one input. -/
def orderBlocksWrong : ChangeSpec := { name := "orderBlocks", fn := fun _ => fun
  | [d1, d2, d3] => { results := [.lit (.bool false)], args := [d1, d2, d3] }
  | _ => none }
def OrderBlocksWrongFalsely : Prop := orderBlocksRow.holds Try.pinned (OpenSpec.ofChange orderBlocksWrong)

/-- 'orrerylaw21.OrderParts': WHATEVER THE INPUT: true; the input reads as it did. -/
def orderPartsSpec : ChangeSpec := { name := "orderParts", fn := fun _ => fun
  | [d1, d2, d3] => { results := [.lit (.bool true)], args := [d1, d2, d3] }
  | _ => none }
def orderPartsRow : OpenClaim := { program := "ytlaneafplmbcnaa", sum := "8a38ba8d2025632e11a247ac70880dc1e555a3ace9a2d194f88fd00250a177ba", func := "orrery/orrerylaw21.OrderParts", spec := "orderParts", unfollowed := true, recurses := true, apart := false }
def OrderPartsSaid : Prop := orderPartsRow.holds Try.pinned (OpenSpec.ofChange orderPartsSpec)

/-- ITS FALSE NEIGHBOUR: 'it returns false'. Refute it at one input. -/
def orderPartsWrong : ChangeSpec := { name := "orderParts", fn := fun _ => fun
  | [d1, d2, d3] => { results := [.lit (.bool false)], args := [d1, d2, d3] }
  | _ => none }
def OrderPartsWrongFalsely : Prop := orderPartsRow.holds Try.pinned (OpenSpec.ofChange orderPartsWrong)

/-- 'orrerylaw21.OrderRings': WHATEVER THE INPUT: true; the input reads as it did. -/
def orderRingsSpec : ChangeSpec := { name := "orderRings", fn := fun _ => fun
  | [d1, d2] => { results := [.lit (.bool true)], args := [d1, d2] }
  | _ => none }
def orderRingsRow : OpenClaim := { program := "ytlaneafplmbcnaa", sum := "8a38ba8d2025632e11a247ac70880dc1e555a3ace9a2d194f88fd00250a177ba", func := "orrery/orrerylaw21.OrderRings", spec := "orderRings", unfollowed := true, recurses := true, apart := false }
def OrderRingsSaid : Prop := orderRingsRow.holds Try.pinned (OpenSpec.ofChange orderRingsSpec)

/-- ITS FALSE NEIGHBOUR: 'it returns false'. Refute it at one input. -/
def orderRingsWrong : ChangeSpec := { name := "orderRings", fn := fun _ => fun
  | [d1, d2] => { results := [.lit (.bool false)], args := [d1, d2] }
  | _ => none }
def OrderRingsWrongFalsely : Prop := orderRingsRow.holds Try.pinned (OpenSpec.ofChange orderRingsWrong)

/-- 'orrerylaw21.OrderMore': WHATEVER THE INPUT: true; the input reads as it did. -/
def orderMoreSpec : ChangeSpec := { name := "orderMore", fn := fun _ => fun
  | [d1, d2, d3, d4, d5] => { results := [.lit (.bool true)], args := [d1, d2, d3, d4, d5] }
  | _ => none }
def orderMoreRow : OpenClaim := { program := "ytlaneafplmbcnaa", sum := "8a38ba8d2025632e11a247ac70880dc1e555a3ace9a2d194f88fd00250a177ba", func := "orrery/orrerylaw21.OrderMore", spec := "orderMore", unfollowed := true, recurses := true, apart := false }
def OrderMoreSaid : Prop := orderMoreRow.holds Try.pinned (OpenSpec.ofChange orderMoreSpec)

/-- ITS FALSE NEIGHBOUR: 'it returns false'. Refute it at one input. -/
def orderMoreWrong : ChangeSpec := { name := "orderMore", fn := fun _ => fun
  | [d1, d2, d3, d4, d5] => { results := [.lit (.bool false)], args := [d1, d2, d3, d4, d5] }
  | _ => none }
def OrderMoreWrongFalsely : Prop := orderMoreRow.holds Try.pinned (OpenSpec.ofChange orderMoreWrong)

/-- 'orrerylaw21.OrderWhole': WHATEVER THE INPUT: true; the input reads as it did. -/
def orderWholeSpec : ChangeSpec := { name := "orderWhole", fn := fun _ => fun
  | [d1, d2, d3] => { results := [.lit (.bool true)], args := [d1, d2, d3] }
  | _ => none }
def orderWholeRow : OpenClaim := { program := "ytlaneafplmbcnaa", sum := "8a38ba8d2025632e11a247ac70880dc1e555a3ace9a2d194f88fd00250a177ba", func := "orrery/orrerylaw21.OrderWhole", spec := "orderWhole", inPlace := ["math.Float64frombits", "math.Float64bits"], unfollowed := true, recurses := true, apart := false }
def OrderWholeSaid : Prop := orderWholeRow.holds Try.pinned (OpenSpec.ofChange orderWholeSpec)

/-- ITS FALSE NEIGHBOUR: 'it returns false'. Refute it at one input. -/
def orderWholeWrong : ChangeSpec := { name := "orderWhole", fn := fun _ => fun
  | [d1, d2, d3] => { results := [.lit (.bool false)], args := [d1, d2, d3] }
  | _ => none }
def OrderWholeWrongFalsely : Prop := orderWholeRow.holds Try.pinned (OpenSpec.ofChange orderWholeWrong)

/-- 'orrerylaw21.OrderSame': WHATEVER THE INPUT: true; the input reads as it did. -/
def orderSameSpec : ChangeSpec := { name := "orderSame", fn := fun _ => fun
  | [d1, d2, d3] => { results := [.lit (.bool true)], args := [d1, d2, d3] }
  | _ => none }
def orderSameRow : OpenClaim := { program := "ytlaneafplmbcnaa", sum := "8a38ba8d2025632e11a247ac70880dc1e555a3ace9a2d194f88fd00250a177ba", func := "orrery/orrerylaw21.OrderSame", spec := "orderSame", inPlace := ["math.Float64frombits", "math.Float64bits"], unfollowed := true, recurses := true, apart := false }
def OrderSameSaid : Prop := orderSameRow.holds Try.pinned (OpenSpec.ofChange orderSameSpec)

/-- ITS FALSE NEIGHBOUR: 'it returns false'. Refute it at one input. -/
def orderSameWrong : ChangeSpec := { name := "orderSame", fn := fun _ => fun
  | [d1, d2, d3] => { results := [.lit (.bool false)], args := [d1, d2, d3] }
  | _ => none }
def OrderSameWrongFalsely : Prop := orderSameRow.holds Try.pinned (OpenSpec.ofChange orderSameWrong)

/- THE SECOND FORM. 'bulk': how many values and letters a reading holds, each counted each time it is reached (what is shared counts as often as it is met; a slice's spare places count too). A statement '..UptoSaid' is the law's where the arguments, and the package variables that the reading takes, are together of bulk at most 1048576: NARROWER than '..Said'. Prove '..Said' where nothing that the law and all that it calls make is longer than what came in: it says more and counts as full. Else prove '..UptoSaid'. A law counts once. -/
mutual
def uptoBulk {H : Type} : DataW H → Nat
  | .lit (.string bytes) => bytes.length + 1
  | .lit _ => 1
  | .nil => 1
  | .ptr d => uptoBulk d + 1
  | .slice elems spare => uptoBulkAll elems + uptoBulkAll spare + 1
  | .agg parts => uptoBulkAll parts + 1
  | .iface _ d => uptoBulk d + 1
  | .map entries => uptoBulkEntries entries + 1
  | .held _ => 1
def uptoBulkAll {H : Type} : List (DataW H) → Nat
  | [] => 0
  | d :: r => uptoBulk d + uptoBulkAll r
def uptoBulkEntries {H : Type} : List (Lit × DataW H) → Nat
  | [] => 0
  | x :: r => uptoBulkEntry x + uptoBulkEntries r
def uptoBulkEntry {H : Type} : Lit × DataW H → Nat
  | (.string bytes, d) => bytes.length + uptoBulk d + 1
  | (_, d) => uptoBulk d + 1
 end
def uptoSmall : (H : Type) → List (DataW H) → Bool := fun _ ds => decide (uptoBulkAll ds ≤ 1048576)
def OpenSpec.upto (s : _root_.Go.ChangeSpec) : _root_.Go.OpenSpec := { _root_.Go.OpenSpec.ofChange s with cond := some uptoSmall }

/-- 'orrerylaw21.OrderBlocks', WHERE WHAT IT READS IS OF BULK AT MOST 1048576: true; the input reads as it did. -/
def orderBlocksUptoRow : OpenClaim := { program := "ytlaneafplmbcnaa", sum := "8a38ba8d2025632e11a247ac70880dc1e555a3ace9a2d194f88fd00250a177ba", func := "orrery/orrerylaw21.OrderBlocks", spec := "orderBlocks", unfollowed := true, recurses := true, apart := false, narrowed := true }
def OrderBlocksUptoSaid : Prop := orderBlocksUptoRow.holds Try.pinned (OpenSpec.upto orderBlocksSpec)

/-- 'orrerylaw21.OrderParts', WHERE WHAT IT READS IS OF BULK AT MOST 1048576: true; the input reads as it did. -/
def orderPartsUptoRow : OpenClaim := { program := "ytlaneafplmbcnaa", sum := "8a38ba8d2025632e11a247ac70880dc1e555a3ace9a2d194f88fd00250a177ba", func := "orrery/orrerylaw21.OrderParts", spec := "orderParts", unfollowed := true, recurses := true, apart := false, narrowed := true }
def OrderPartsUptoSaid : Prop := orderPartsUptoRow.holds Try.pinned (OpenSpec.upto orderPartsSpec)

/-- 'orrerylaw21.OrderRings', WHERE WHAT IT READS IS OF BULK AT MOST 1048576: true; the input reads as it did. -/
def orderRingsUptoRow : OpenClaim := { program := "ytlaneafplmbcnaa", sum := "8a38ba8d2025632e11a247ac70880dc1e555a3ace9a2d194f88fd00250a177ba", func := "orrery/orrerylaw21.OrderRings", spec := "orderRings", unfollowed := true, recurses := true, apart := false, narrowed := true }
def OrderRingsUptoSaid : Prop := orderRingsUptoRow.holds Try.pinned (OpenSpec.upto orderRingsSpec)

/-- 'orrerylaw21.OrderMore', WHERE WHAT IT READS IS OF BULK AT MOST 1048576: true; the input reads as it did. -/
def orderMoreUptoRow : OpenClaim := { program := "ytlaneafplmbcnaa", sum := "8a38ba8d2025632e11a247ac70880dc1e555a3ace9a2d194f88fd00250a177ba", func := "orrery/orrerylaw21.OrderMore", spec := "orderMore", unfollowed := true, recurses := true, apart := false, narrowed := true }
def OrderMoreUptoSaid : Prop := orderMoreUptoRow.holds Try.pinned (OpenSpec.upto orderMoreSpec)

/-- 'orrerylaw21.OrderWhole', WHERE WHAT IT READS IS OF BULK AT MOST 1048576: true; the input reads as it did. -/
def orderWholeUptoRow : OpenClaim := { program := "ytlaneafplmbcnaa", sum := "8a38ba8d2025632e11a247ac70880dc1e555a3ace9a2d194f88fd00250a177ba", func := "orrery/orrerylaw21.OrderWhole", spec := "orderWhole", inPlace := ["math.Float64frombits", "math.Float64bits"], unfollowed := true, recurses := true, apart := false, narrowed := true }
def OrderWholeUptoSaid : Prop := orderWholeUptoRow.holds Try.pinned (OpenSpec.upto orderWholeSpec)

/-- 'orrerylaw21.OrderSame', WHERE WHAT IT READS IS OF BULK AT MOST 1048576: true; the input reads as it did. -/
def orderSameUptoRow : OpenClaim := { program := "ytlaneafplmbcnaa", sum := "8a38ba8d2025632e11a247ac70880dc1e555a3ace9a2d194f88fd00250a177ba", func := "orrery/orrerylaw21.OrderSame", spec := "orderSame", inPlace := ["math.Float64frombits", "math.Float64bits"], unfollowed := true, recurses := true, apart := false, narrowed := true }
def OrderSameUptoSaid : Prop := orderSameUptoRow.holds Try.pinned (OpenSpec.upto orderSameSpec)

end Rows
end Go.Proofs.Ytlaneafplmbcnaa
