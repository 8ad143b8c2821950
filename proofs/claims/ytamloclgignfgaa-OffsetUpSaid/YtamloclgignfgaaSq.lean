/- Three words of lists under one name (the printed texts name them often). -/
import Derived.Test.YtamloclgignfgaaPAx0
namespace Go.Proofs.Ytamloclgignfgaa.PA
theorem sq {α : Type} : (∀ (l : List α) (i : Nat) (a : α), l.toArray.setIfInBounds i a = (l.set i a).toArray) ∧ (∀ (x : α) (xs : List α) (a : α), (x :: xs).set 0 a = a :: xs) ∧ ∀ (x : α) (xs : List α) (n : Nat) (a : α), (x :: xs).set (n + 1) a = x :: xs.set n a := ⟨fun _ _ _ => by simp, fun _ _ _ => rfl, fun _ _ _ _ => rfl⟩
end Go.Proofs.Ytamloclgignfgaa.PA
