/- Several texts of this claim, one behind the other. -/
import Derived.Test.YtlaneafplmbcnaaPOx0
namespace Go.Proofs.Ytlaneafplmbcnaa.PO
open Go.RowKit Go.Proofs.YtlaneafplmbcnaaW.PrintWords Go.Proofs.YtlaneafplmbcnaaW.PrintLast Go.Proofs.YtlaneafplmbcnaaW.PrintMore
theorem sq {α : Type} : (∀ (l : List α) (i : Nat) (a : α), l.toArray.setIfInBounds i a = (l.set i a).toArray) ∧ (∀ (x : α) (xs : List α) (a : α), (x :: xs).set 0 a = a :: xs) ∧ ∀ (x : α) (xs : List α) (n : Nat) (a : α), (x :: xs).set (n + 1) a = x :: xs.set n a := ⟨fun _ _ _ => by simp, fun _ _ _ => rfl, fun _ _ _ _ => rfl⟩
/-- A mask of n places out of a number. -/
def mskL (b : Nat) : Nat → List Bool
  | 0 => []
  | n + 1 => (b % 2 == 1) :: mskL (b / 2) n
abbrev msk (n b : Nat) : Array Bool := ⟨mskL b n⟩
section
variable {P : Program} {ops : Array Oper} {Q : Exit → Act → World → Prop} {md : Region.Mode} {S : World → Prop} {ds : List Nat} {T : Bool × List (List Nat × List Nat)}
theorem pu_ {oi : Oper} {fuel : Nat} {l : Array Bool} {a : Act} {w : World} (i N : Nat) (l' : Array Bool) (hT : rtab md ops = T) (v : Value) (hy : ∀ w, (execOp a.eval oi).run P w = .ok (.value v) w) (a' : Act) (ha : a.put (some N) v = a') (h : wpAnyLast P md ops Q S ds fuel l' a' w)
    (hi : ops[i]? = some oi := by rfl) (hN : oi.dst = some N := by rfl) (hc : anyT T l.toList l'.toList i = true := by kernel_rfl) (hQ : ∀ c a w, Q (.panic c) (a.put oi.dst v) w → Q (.panic c) a w := by exact fun _ _ _ h => h) (hw : Region.wanted oi (yielded ops a.tmps) = true := by rfl) : wpAnyLast P md ops Q S ds (fuel + 1) l a w :=
  pure_ l' hi hN (any_of hT hc) hQ (.inl ⟨hw, hy⟩) ha h
theorem pv_ {oi : Oper} {fuel : Nat} {l : Array Bool} {a : Act} {w : World} (i N : Nat) (l' : Array Bool) (hT : rtab md ops = T) (a' : Act) (ha : a.put (some N) undef = a') (h : wpAnyLast P md ops Q S ds fuel l' a' w)
    (hi : ops[i]? = some oi := by rfl) (hN : oi.dst = some N := by rfl) (hc : anyT T l.toList l'.toList i = true := by kernel_rfl) (hQ : ∀ c a w, Q (.panic c) (a.put oi.dst undef) w → Q (.panic c) a w := by exact fun _ _ _ h => h) (hw : Region.wanted oi (yielded ops a.tmps) = false := by rfl) : wpAnyLast P md ops Q S ds (fuel + 1) l a w :=
  pure_ l' hi hN (any_of hT hc) hQ (.inr ⟨hw, rfl⟩) ha h
theorem tk_ {oi : Oper} {fuel : Nat} {l : Array Bool} {a : Act} {w : World} {B : List Nat} (i N : Nat) (l' : Array Bool) (hT : rtab md ops = T) (hB : waitsOk T.2 B = true) (hS : S w) (v : Value) (hy : ∀ w, S w → (execOp a.eval oi).run P w = .ok (.value v) w) (a' : Act) (ha : a.put (some N) v = a') (h : wpAnyLast P md ops Q S ds fuel l' a' w)
    (hi : ops[i]? = some oi := by rfl) (hN : oi.dst = some N := by rfl) (hc : takeW T B ds l.toList l'.toList i = true := by kernel_rfl) (hQ : ∀ c a w, Q (.panic c) (a.put oi.dst v) w → Q (.panic c) a w := by exact fun _ _ _ h => h) (hw : Region.wanted oi (yielded ops a.tmps) = true := by rfl) : wpAnyLast P md ops Q S ds (fuel + 1) l a w :=
  take_ l' hi hN (take_ofW hT hB hc) hQ (.inl ⟨hw, hy⟩) hS ha h
end
end Go.Proofs.Ytlaneafplmbcnaa.PO

namespace Go.Proofs.Ytlaneafplmbcnaa.PO
open Go.RowKit Go.Proofs.YtlaneafplmbcnaaW.PrintWords Go.Proofs.YtlaneafplmbcnaaW.PrintLast Go.Proofs.YtlaneafplmbcnaaW.PrintMore
set_option linter.unusedVariables false
theorem Kd.C_aboveB {α : Type} {d : Kd α} {w : World} {A : Option Addr} {n g : Nat} {xs : List α} (h : d.C w A n xs) (hs : 0 < d.sz) (hg : w.heap.size ≤ g) : ∀ ad, A = some ad → 0 < n → ad.block ≠ g := fun ad e hn => by
  subst e
  have := Kd.C_lt h hn hs
  omega
theorem Kd.C_farP {w : World} {A : Option Addr} {n : Nat} {xs : List Int} {p : Addr} (h : (Kd.int .i64).C w A n xs) (hf : ∀ ad, A = some ad → 0 < n → ad.block ≠ p.block) (u : Value) : (Kd.int .i64).C (w.setCell p u) A n xs := by
  unfold Kd.int at h ⊢
  exact Kd.C_keep (0 : Int) h (W := w.setCell p u) (g := p.block) ⟨by simp [World.setCell], fun i _ hg _ => Below.heap_setCell w p u i hg⟩ hf
theorem Kd.R_farB {α : Type} {d : Kd α} {e : Nat} {w : World} {base : Nat} {ok : Nat → Prop} {A : Option Addr} {n c : Nat} {xs : List α} {v : Value} (h : d.R e w base ok (.slice A n c) xs) (hok : ∀ k, ok k → some k ≠ v.ownBlock) : ∀ ad, A = some ad → 0 < n → some ad.block ≠ v.ownBlock := fun ad e hn => by
  subst e
  exact hok _ (h.1 _ rfl)
end Go.Proofs.Ytlaneafplmbcnaa.PO
