/- Texts of this claim, one behind the other. -/
import Derived.Test.YtoonahobmlnflaaVc7
import Derived.Test.YtoonahobmlnflaaVc16
import Derived.Test.YtoonahobmlnflaaRows
import Derived.ProofKit
import Derived.OpenShut
import Derived.ShutString
import Derived.ChangeOld
import Derived.SizedLaws
import Derived.ChangeSlices
import Derived.Deep.Slices
import Derived.ChangeSame
set_option linter.unusedVariables false
set_option linter.unusedSimpArgs false
set_option maxRecDepth 100000
set_option maxHeartbeats 16000000
namespace Go.Proofs.Ytoonahobmlnflaa.PC
open Go.RowKit Go.Shelf A B C
def li10.B6 : List Nat := [0, 0, 3, 7, 0, 0, 48, 112, 255]
def lo3r21.T21 : Bool × List (List Nat × List Nat) := (true, [([], []), ([], []), ([0, 1], [0, 1]), ([2], [2]), ([], []), ([], []), ([], []), ([6], [6]), ([5, 7], [5, 7]), ([4, 8], [4, 8]), ([9], [9]), ([3, 10], [3, 10])])
def lo3r21.B21 : List Nat := [0, 0, 3, 7, 0, 0, 0, 64, 224, 496, 1008, 2047]
theorem lo3r21.tab21 : wD .any (opsOf Try.f3 21) = lo3r21.T21 := by kernel_rfl
theorem lo3r21.bits21 : xR lo3r21.T21.2 lo3r21.B21 = true := by kernel_rfl
end Go.Proofs.Ytoonahobmlnflaa.PC
namespace Go.Proofs.Ytoonahobmlnflaa.PC
open Go.ChangeShapes Go.WideShapes Go.ChangeAt Go.RowKit Go.Deep
open Go.Proofs.Ytoonahobmlnflaa.PC.A Go.Proofs.Ytoonahobmlnflaa.PC.B Go.Proofs.Ytoonahobmlnflaa.PC.C
theorem ownK : ownKnob Try.prog.godebug = none := by kernel_rfl
theorem laidOutK : laidOutB Try.prog = true := by kernel_rfl
theorem I64_of_wf {n : Int} (h : (Lit.int .i64 n).wf = true) : I64 n := by
  unfold Lit.wf at h
  rw [Bool.and_eq_true] at h
  exact ⟨of_decide_eq_true h.1, of_decide_eq_true h.2⟩
section
variable {H : Type} {enc : TypeId × Value → H} {W : World} {base : Nat} {spare : Nat → Bool} {held : Bool}
theorem C_none {α : Type} (d : Kd α) (W : World) : Kd.C d W none 0 [] := ⟨rfl, by omega, fun h => absurd h (by omega)⟩
theorem open_ints_C {a : Option Addr} {len cap : Nat} {d : DataW H} {ps : List MemPlace} (h : DataW.Trod enc Try.prog W base spare held 23 (.slice a len cap) d ps) :
    ∃ l : List Int, l.length = len ∧ len ≤ cap ∧ Kd.C (Kd.int .i64) W a len l ∧ (∀ x ∈ l, I64 x) := by
  obtain ⟨fuel, hf⟩ := h
  rcases open_ints Try.underlying23 Try.underlying3 (by kernel_rfl) hf with ⟨hcs, _⟩ | ⟨x, l, c, zs, hcs, _, hl, hm, hz, _, hcell, hwz⟩
  · simp [Value.cells] at hcs
    obtain ⟨rfl, rfl, rfl⟩ := hcs
    exact ⟨[], rfl, Nat.le_refl _, C_none _ _, fun x hx => by cases hx⟩
  · simp [Value.cells] at hcs
    obtain ⟨rfl, rfl, rfl⟩ := hcs
    have hlz : len ≤ zs.length := by
      rw [hz]
      split
      · exact hl
      · exact Nat.le_refl _
    have hm' : len ≤ 9223372036854775807 := by unfold maxLen at hm; omega
    refine ⟨zs.take len, by rw [List.length_take]; omega, hl, ⟨by rw [List.length_take]; omega, hm', fun _ => ⟨x, rfl, fun j p hj => ?_⟩⟩, fun y hy => I64_of_wf (hwz y (List.mem_of_mem_take hy))⟩
    refine ⟨[.int .i64 p], rfl, rfl, fun i u hu => ?_⟩
    have hi : i = 0 := by
      have := (List.getElem?_eq_some_iff.1 hu).1
      simpa using this
    subst hi
    have hjl : j < len := by
      have := (List.getElem?_eq_some_iff.1 hj).1
      rw [List.length_take] at this; omega
    have hju : u = .int .i64 p := by simpa using hu.symm
    subst hju
    show W.cell? (x.add (j * 1 + 0)) = _
    rw [Nat.mul_one, Nat.add_zero, hcell j (by omega)]
    rw [List.getElem?_take_of_lt hjl] at hj
    rw [List.getD_eq_getElem?_getD, hj]; rfl
end
end Go.Proofs.Ytoonahobmlnflaa.PC
