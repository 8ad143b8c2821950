/- An edge that came in by value. -/
import Derived.Test.YtamloclgignfgaaRowA
import Derived.Lib.SmallJoins
namespace Go.Proofs.Ytamloclgignfgaa.PA
open Go.ChangeShapes Go.WideShapes Go.ChangeAt Go.RowKit Go.Deep Go.Joins
set_option linter.unusedVariables false
section
variable {H : Type} {enc : TypeId × Value → H} {W : World} {base : Nat} {spare : Nat → Bool} {held : Bool}
theorem open_edge_C {r : Reach} {b0 : Nat} {v : Value} {d : DataW H} {ps : List MemPlace} (hv : Value.okWide Try.prog W r b0 40 v) (h : DataW.Trod enc Try.prog W base spare held 40 v d ps) :
    ∃ a b c : Int, v = .agg #[.int .i64 a, .int .i64 b, .int .i64 c] ∧ (I64 a ∧ I64 b ∧ I64 c) := by
  obtain ⟨c0, c1, c2, y0, y1, y2, m, rfl, _, _, hy0, hy1, hy2⟩ := open_agg3 Try.underlying40 (by kernel_rfl) (by kernel_rfl) hv h
  obtain ⟨a, ha, _, wa⟩ := DataW.trod_int Try.underlying3 hy0
  obtain ⟨b, hb, _, wb⟩ := DataW.trod_int Try.underlying3 hy1
  obtain ⟨c, hc, _, wc⟩ := DataW.trod_int Try.underlying3 hy2
  simp only [List.cons.injEq, and_true] at ha hb hc
  subst ha; subst hb; subst hc
  exact ⟨a, b, c, rfl, I64_of_wf wa, I64_of_wf wb, I64_of_wf wc⟩
end
end Go.Proofs.Ytamloclgignfgaa.PA
