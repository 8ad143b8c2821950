/- Texts of this claim, one behind the other. -/
import Derived.Deep.Strs
import Derived.Test.YtoonahobmlnflaaVc25
set_option linter.unusedVariables false
set_option linter.unusedSimpArgs false
set_option maxRecDepth 100000
set_option maxHeartbeats 16000000
namespace Go.Proofs.Ytoonahobmlnflaa.PC
open Go.ChangeShapes Go.WideShapes Go.ChangeAt Go.RowKit Go.Deep
open Go.Proofs.Ytoonahobmlnflaa.PC.A Go.Proofs.Ytoonahobmlnflaa.PC.B Go.Proofs.Ytoonahobmlnflaa.PC.C
section
variable {H : Type} {enc : TypeId × Value → H} {W : World} {base : Nat} {spare : Nat → Bool} {held : Bool}
def DLen (d : DataW H) (len : Nat) : Prop := len = 0 ∨ ∃ elems rest, d = .slice elems rest ∧ elems.length = len
theorem open_kd {α : Type} (z : α) (k : Kd α) (t e N : TypeId) (L : α → List Value) (Q : α → Prop) (ht : Try.prog.underlying t = some (.slice e)) (hC : Try.prog.cellsOf e = k.sz) (hn : N = k.sz) (hL : ∀ x, (L x).length = k.sz)
    (hK : ∀ x, k.K W x (L x)) (hE : ∀ n cs' r, DataW.trod enc Try.prog W base spare held n e cs' = some r → ∃ x, cs' = L x ∧ Q x) {n : Nat} {cs : List Value} {r : DataW H × List MemPlace} (hf : DataW.trod enc Try.prog W base spare held n t cs = some r) :
    ∃ a l cap, cs = [.slice a l.length cap] ∧ l.length ≤ cap ∧ Kd.C k W a l.length l ∧ (∀ x ∈ l, Q x) ∧ DLen r.1 l.length := by
  rcases open_slice ht hf with ⟨hcs, _⟩ | ⟨x, len, c, m, n, D, Pl, hcs, _, hl, hm, hmm, hr, hel⟩
  · exact ⟨none, [], 0, hcs, Nat.le_refl _, C_none _ _, (fun x hx => by cases hx), .inl rfl⟩
  · have hlm : len ≤ m := by
      rw [hmm]
      split
      · exact hl
      · exact Nat.le_refl _
    have key : ∀ i, i < len → ∃ e : α, Q e ∧ ∀ j, j < k.sz → W.cell? (x.add (i * k.sz + j)) = (L e)[j]? := by
      intro i hi
      obtain ⟨cs', hc, ht⟩ := hel i (by omega)
      rw [hC] at hc
      obtain ⟨_, hlen, hcell⟩ := World.cells?_some hc
      obtain ⟨e, he, h1⟩ := hE _ _ _ ht
      refine ⟨e, h1, fun j hj => ?_⟩
      rw [← Go.Deep.add_add, hcell j hj, he]
    haveI : Inhabited α := ⟨z⟩
    obtain ⟨f, hfk⟩ := choose_lt key
    have hm' : len ≤ 9223372036854775807 := by unfold maxLen at hm; omega
    have hlr : ((List.range len).map f).length = len := by simp
    have el : ∀ j p, ((List.range len).map f)[j]? = some p → ∃ c', c'.length = k.sz ∧ k.K W p c' ∧ ∀ (i : Nat) u, c'[i]? = some u → W.cell? (x.add (j * k.sz + i)) = some u := by
      intro j p hj
      obtain ⟨hjl, hp⟩ := List.getElem?_eq_some_iff.1 hj
      have hjl' : j < len := by simpa using hjl
      have hp' : f j = p := by simpa using hp
      subst hp'
      obtain ⟨_, c0⟩ := hfk j hjl'
      refine ⟨L (f j), (hL _), hK (f j), fun i u hu => ?_⟩
      have hi : i < k.sz := by rw [← hL (f j)]; exact (List.getElem?_eq_some_iff.1 hu).1
      rw [c0 i hi]
      exact hu
    refine ⟨some x, (List.range len).map f, c, by rw [hlr]; exact hcs, by rw [hlr]; exact hl, ?_, fun e he => ?_, .inr ⟨(List.range len).map D, (List.range (m - len)).map fun j => D (len + j), by rw [hr], by simp⟩⟩
    · rw [hlr]
      exact ⟨hlr, hm', fun _ => ⟨x, rfl, el⟩⟩
    · obtain ⟨j, hj, rfl⟩ := List.mem_map.1 he
      exact (hfk j (List.mem_range.1 hj)).1
end
theorem open_bools_C {H : Type} {enc : TypeId × Value → H} {W : World} {base : Nat} {spare : Nat → Bool} {held : Bool} {a : Option Addr} {len cap : Nat} {d : DataW H} {ps : List MemPlace} (h : DataW.Trod enc Try.prog W base spare held 55 (.slice a len cap) d ps) :
    ∃ l : List Bool, l.length = len ∧ len ≤ cap ∧ Kd.C Kd.bool W a len l := by
  obtain ⟨fuel, hf⟩ := h
  obtain ⟨a', l, c, e, hl, hC, _, _⟩ := open_kd false Kd.bool 55 4 1 (fun x => [.bool x]) (fun _ => True) Try.underlying55 (by kernel_rfl) rfl (fun _ => rfl) (fun x => rfl) (fun n cs' r hr => by obtain ⟨b, hx, _⟩ := DataW.trod_bool Try.underlying4 hr; exact ⟨b, hx, trivial⟩) hf
  simp [Value.cells] at e
  obtain ⟨rfl, rfl, rfl⟩ := e
  exact ⟨l, rfl, hl, hC⟩
end Go.Proofs.Ytoonahobmlnflaa.PC
