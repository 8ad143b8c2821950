import Derived.Test.YtlaneafplmbcnaaRows
import Derived.Test.YtlaneafplmbcnaaPOx0
import Derived.WalkKit
import Derived.ProofKit
import Derived.OpenShut
import Derived.ShutString
import Derived.ChangeOld
import Derived.Below
import Derived.SizedLaws
import Derived.ChangeSlices
import Derived.Deep.Slices
import Derived.ChangeSame
namespace Go.Proofs.Ytlaneafplmbcnaa.PO
open Go.ChangeShapes Go.WideShapes Go.ChangeAt Go.RowKit Go.Deep
open Go.Proofs.YtlaneafplmbcnaaW.PrintWords Go.Proofs.YtlaneafplmbcnaaW.PrintLast Go.Proofs.YtlaneafplmbcnaaW.PrintMore
set_option linter.unusedVariables false
theorem ownK : ownKnob Try.prog.godebug = none := by kernel_rfl
theorem laidOutK : laidOutB Try.prog = true := by kernel_rfl

/-- A number that an int holds. -/
def I64 (n : Int) : Prop := -9223372036854775808 ≤ n ∧ n ≤ 9223372036854775807
theorem I64_of_wf {n : Int} (h : (Lit.int .i64 n).wf = true) : I64 n := by
  unfold Lit.wf at h
  rw [Bool.and_eq_true] at h
  exact ⟨of_decide_eq_true h.1, of_decide_eq_true h.2⟩

section
variable {H : Type} {enc : TypeId × Value → H} {W : World} {base : Nat} {spare : Nat → Bool} {held : Bool}

theorem C_none {α : Type} (d : Kd α) (W : World) : Kd.C d W none 0 [] := ⟨rfl, by omega, fun h => absurd h (by omega)⟩

/-- A slice of ints that came in. -/
theorem open_ints_C {a : Option Addr} {len cap : Nat} {d : DataW H} {ps : List MemPlace} (h : DataW.Trod enc Try.prog W base spare held 23 (.slice a len cap) d ps) :
    ∃ l : List Int, l.length = len ∧ len ≤ cap ∧ Kd.C (Kd.int .i64) W a len l ∧ (∀ x ∈ l, I64 x) := by
  obtain ⟨fuel, hf⟩ := h
  rcases open_ints Try.underlying23 Try.underlying3 (by kernel_rfl) hf with ⟨hcs, _⟩ | ⟨x, l, c, zs, hcs, _, hl, hm, hz, _, hcell, hwz⟩
  · simp [Value.cells] at hcs
    obtain ⟨rfl, rfl, rfl⟩ := hcs
    exact ⟨[], rfl, Nat.le_refl _, C_none _ _, fun x hx => by cases hx⟩
  · simp [Value.cells] at hcs
    obtain ⟨rfl, rfl, rfl⟩ := hcs
    have hlz : len ≤ zs.length := by
      rw [hz]
      split
      · exact hl
      · exact Nat.le_refl _
    have hm' : len ≤ 9223372036854775807 := by unfold maxLen at hm; omega
    refine ⟨zs.take len, by rw [List.length_take]; omega, hl, ⟨by rw [List.length_take]; omega, hm', fun _ => ⟨x, rfl, fun j p hj => ?_⟩⟩, fun y hy => I64_of_wf (hwz y (List.mem_of_mem_take hy))⟩
    refine ⟨[.int .i64 p], rfl, rfl, fun i u hu => ?_⟩
    have hi : i = 0 := by
      have := (List.getElem?_eq_some_iff.1 hu).1
      simpa using this
    subst hi
    have hjl : j < len := by
      have := (List.getElem?_eq_some_iff.1 hj).1
      rw [List.length_take] at this; omega
    have hju : u = .int .i64 p := by simpa using hu.symm
    subst hju
    show W.cell? (x.add (j * 1 + 0)) = _
    rw [Nat.mul_one, Nat.add_zero, hcell j (by omega)]
    rw [List.getElem?_take_of_lt hjl] at hj
    rw [List.getD_eq_getElem?_getD, hj]; rfl

set_option maxRecDepth 100000 in
/-- A slice of edges that came in. -/
theorem open_edges_C {a : Option Addr} {len cap : Nat} {d : DataW H} {ps : List MemPlace} (h : DataW.Trod enc Try.prog W base spare held 22 (.slice a len cap) d ps) :
    ∃ l : List S33, l.length = len ∧ len ≤ cap ∧ Kd.C k33 W a len l ∧ (∀ e ∈ l, I64 e.f0 ∧ I64 e.f1 ∧ I64 e.f2) := by
  obtain ⟨fuel, hf⟩ := h
  have hC : Try.prog.cellsOf 33 = 3 := by kernel_rfl
  have hC3 : Try.prog.cellsOf 3 = 1 := by kernel_rfl
  rcases open_slice Try.underlying22 hf with ⟨hcs, _⟩ | ⟨x, l, c, m, n, D, Pl, hcs, _, hl, hm, hmm, _, hel⟩
  · simp [Value.cells] at hcs
    obtain ⟨rfl, rfl, rfl⟩ := hcs
    exact ⟨[], rfl, Nat.le_refl _, C_none _ _, fun x hx => by cases hx⟩
  · simp [Value.cells] at hcs
    obtain ⟨rfl, rfl, rfl⟩ := hcs
    have hlm : len ≤ m := by
      rw [hmm]
      split
      · exact hl
      · exact Nat.le_refl _
    have key : ∀ i, i < len → ∃ e : S33, (I64 e.f0 ∧ I64 e.f1 ∧ I64 e.f2) ∧ W.cell? (x.add (i * 3)) = some (.int .i64 e.f0) ∧ W.cell? (x.add (i * 3 + 1)) = some (.int .i64 e.f1) ∧ W.cell? (x.add (i * 3 + 2)) = some (.int .i64 e.f2) := by
      intro i hi
      obtain ⟨cs', hc, ht⟩ := hel i (by omega)
      rw [hC] at hc
      obtain ⟨_, hlen, hcell⟩ := World.cells?_some hc
      obtain ⟨ys, n', _, _, _, hys, hf⟩ := DataW.trod_struct Try.underlying33 ht
      have get : ∀ (j : Nat) (f : Field), (#[{ name := "I", type := 3, offset := 0, embedded := false, tag := "", pkgPath := "", byteOffset := 0 }, { name := "J", type := 3, offset := 1, embedded := false, tag := "", pkgPath := "", byteOffset := 8 }, { name := "W", type := 3, offset := 2, embedded := false, tag := "", pkgPath := "", byteOffset := 16 }] : Array Field)[j]? = some f → f.type = 3 → f.offset = j → j < 3 → ∃ z : Int, I64 z ∧ W.cell? (x.add (i * 3 + j)) = some (.int .i64 z) := by
        intro j f hj hft hfo hj3
        have h1 := hf j f hj
        have hy : ys[j]? = some (ys[j]'(by rw [hys]; exact hj3)) := List.getElem?_eq_getElem _
        rw [hft, hfo, hC3, hy] at h1
        obtain ⟨z, hz, _, hw⟩ := DataW.trod_int Try.underlying3 h1
        refine ⟨z, I64_of_wf hw, ?_⟩
        rw [← Go.Deep.add_add, hcell j hj3]
        have h2 : (cs'.drop j).take 1 = [cs'[j]'(by omega)] := by
          rw [List.drop_eq_getElem_cons (by omega)]
          rfl
        rw [h2] at hz
        rw [List.getElem?_eq_getElem (by omega)]
        injection hz with hz
        rw [hz]
      obtain ⟨z0, b0, c0⟩ := get 0 _ rfl rfl rfl (by omega)
      obtain ⟨z1, b1, c1⟩ := get 1 _ rfl rfl rfl (by omega)
      obtain ⟨z2, b2, c2⟩ := get 2 _ rfl rfl rfl (by omega)
      exact ⟨⟨z0, z1, z2⟩, ⟨b0, b1, b2⟩, c0, c1, c2⟩
    haveI : Inhabited S33 := ⟨z33⟩
    obtain ⟨f, hfk⟩ := choose_lt key
    have hm' : len ≤ 9223372036854775807 := by unfold maxLen at hm; omega
    refine ⟨(List.range len).map f, by simp, hl, ⟨by simp, hm', fun _ => ⟨x, rfl, fun j p hj => ?_⟩⟩, fun e he => ?_⟩
    · obtain ⟨hjl, hp⟩ := List.getElem?_eq_some_iff.1 hj
      have hjl' : j < len := by simpa using hjl
      have hp' : f j = p := by simpa using hp
      subst hp'
      obtain ⟨_, c0, c1, c2⟩ := hfk j hjl'
      refine ⟨[.int .i64 (f j).f0, .int .i64 (f j).f1, .int .i64 (f j).f2], rfl, k33_mk W (f j), fun i u hu => ?_⟩
      show W.cell? (x.add (j * 3 + i)) = _
      have hi : i < 3 := by simpa using (List.getElem?_eq_some_iff.1 hu).1
      rcases i with _ | _ | _ | i
      · rw [← hu]; exact c0
      · rw [← hu]; exact c1
      · rw [← hu]; exact c2
      · omega
    · obtain ⟨j, hj, rfl⟩ := List.mem_map.1 he
      exact (hfk j (List.mem_range.1 hj)).1
end
end Go.Proofs.Ytlaneafplmbcnaa.PO
