/- Short words that the printed texts use: lists, masks, the steps of a region that draws. -/
import Derived.Test.YtamloclgignfgaaPAx0
namespace Go.Proofs.Ytamloclgignfgaa.PA
open Go.RowKit Go.Proofs.YtamloclgignfgaaW.PrintWords Go.Proofs.YtamloclgignfgaaW.PrintLast Go.Proofs.YtamloclgignfgaaW.PrintMore
theorem sq {α : Type} : (∀ (l : List α) (i : Nat) (a : α), l.toArray.setIfInBounds i a = (l.set i a).toArray) ∧ (∀ (x : α) (xs : List α) (a : α), (x :: xs).set 0 a = a :: xs) ∧ ∀ (x : α) (xs : List α) (n : Nat) (a : α), (x :: xs).set (n + 1) a = x :: xs.set n a := ⟨fun _ _ _ => by simp, fun _ _ _ => rfl, fun _ _ _ _ => rfl⟩
/-- A mask of n places out of a number. -/
def mskL (b : Nat) : Nat → List Bool
  | 0 => []
  | n + 1 => (b % 2 == 1) :: mskL (b / 2) n
abbrev msk (n b : Nat) : Array Bool := ⟨mskL b n⟩
section
variable {P : Program} {ops : Array Oper} {Q : Exit → Act → World → Prop} {md : Region.Mode} {S : World → Prop} {ds : List Nat} {T : Bool × List (List Nat × List Nat)}
theorem pu_ {oi : Oper} {fuel : Nat} {l : Array Bool} {a : Act} {w : World} (i N : Nat) (l' : Array Bool) (hT : rtab md ops = T) (v : Value) (hy : ∀ w, (execOp a.eval oi).run P w = .ok (.value v) w) (a' : Act) (ha : a.put (some N) v = a') (h : wpAnyLast P md ops Q S ds fuel l' a' w)
    (hi : ops[i]? = some oi := by rfl) (hN : oi.dst = some N := by rfl) (hc : anyT T l.toList l'.toList i = true := by kernel_rfl) (hQ : ∀ c a w, Q (.panic c) (a.put oi.dst v) w → Q (.panic c) a w := by exact fun _ _ _ h => h) (hw : Region.wanted oi (yielded ops a.tmps) = true := by rfl) : wpAnyLast P md ops Q S ds (fuel + 1) l a w :=
  pure_ l' hi hN (any_of hT hc) hQ (.inl ⟨hw, hy⟩) ha h
theorem pv_ {oi : Oper} {fuel : Nat} {l : Array Bool} {a : Act} {w : World} (i N : Nat) (l' : Array Bool) (hT : rtab md ops = T) (a' : Act) (ha : a.put (some N) undef = a') (h : wpAnyLast P md ops Q S ds fuel l' a' w)
    (hi : ops[i]? = some oi := by rfl) (hN : oi.dst = some N := by rfl) (hc : anyT T l.toList l'.toList i = true := by kernel_rfl) (hQ : ∀ c a w, Q (.panic c) (a.put oi.dst undef) w → Q (.panic c) a w := by exact fun _ _ _ h => h) (hw : Region.wanted oi (yielded ops a.tmps) = false := by rfl) : wpAnyLast P md ops Q S ds (fuel + 1) l a w :=
  pure_ l' hi hN (any_of hT hc) hQ (.inr ⟨hw, rfl⟩) ha h
theorem tk_ {oi : Oper} {fuel : Nat} {l : Array Bool} {a : Act} {w : World} {B : List Nat} (i N : Nat) (l' : Array Bool) (hT : rtab md ops = T) (hB : waitsOk T.2 B = true) (hS : S w) (v : Value) (hy : ∀ w, S w → (execOp a.eval oi).run P w = .ok (.value v) w) (a' : Act) (ha : a.put (some N) v = a') (h : wpAnyLast P md ops Q S ds fuel l' a' w)
    (hi : ops[i]? = some oi := by rfl) (hN : oi.dst = some N := by rfl) (hc : takeW T B ds l.toList l'.toList i = true := by kernel_rfl) (hQ : ∀ c a w, Q (.panic c) (a.put oi.dst v) w → Q (.panic c) a w := by exact fun _ _ _ h => h) (hw : Region.wanted oi (yielded ops a.tmps) = true := by rfl) : wpAnyLast P md ops Q S ds (fuel + 1) l a w :=
  take_ l' hi hN (take_ofW hT hB hc) hQ (.inl ⟨hw, hy⟩) hS ha h
end
end Go.Proofs.Ytamloclgignfgaa.PA
