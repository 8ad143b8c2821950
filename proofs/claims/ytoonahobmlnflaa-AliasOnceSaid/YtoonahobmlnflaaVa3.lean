/- Texts of this claim, one behind the other. -/
import Derived.Test.YtoonahobmlnflaaVa2
set_option linter.unusedVariables false
set_option linter.unusedSimpArgs false
set_option maxRecDepth 100000
set_option maxHeartbeats 16000000
namespace Go.Proofs.Ytoonahobmlnflaa.PC
open Go.RowKit A B C
attribute [local go_sem] xJ xL wY wZ xU xV xK xM
def zM.f (k : Nat) (a0_0 : Int) (a0_1 : Int) : Option (Bool) := if a0_1 ≥ 1 then (if a0_0 > (-9223372036854775808) then ((zR.f a0_0).bind fun t102 => ((zR.f a0_1).bind fun t103 => ((yV.f k t102 t103).bind fun t104 => (some (t104 == 1))))) else (some false)) else (some false)
theorem zM.calls (k : Nat) (a0_0 : Int) (a0_1 : Int) (r : Bool) (w : World) (h : zM.f k a0_0 a0_1 = some r) :
    Calls Try.prog 59 #[.agg #[.int .i64 a0_0, .int .i64 a0_1]] w fun e w' => e = .returned (.bool r) ∧ Below w.heap.size w w' := by
 have hu30 := Try.underlying30
 have HB := aq (Below.refl w.heap.size w)
 have H := h
 unfold zM.f at H
 clear h
 by_cases c2 : a0_1 ≥ 1
 case neg =>
  rw [if_neg c2] at H
  have c2b0 : decide (1 ≤ a0_1) = false := decide_eq_false c2
  clear c2
  obtain rfl := Option.some.inj H
  go_enter Try.func59, Try.ntmps59
  go_wp2_with (first | ((with_reducible refine gD (N := 1) rfl ?_); refine bE ?hg (N := 1) ?hd (cs := #[.int .i64 a0_0, .int .i64 a0_1]) (t := 30) ?hr ?_; (case hd => rfl); (case hg => rfl); (case hr => first | (go_simp; done) | (go_simp; rfl)); intro gb101 hg w11 hbox hb; have n0_ := aq (bt_ (by exact ul HB.out) hb); have n1_ := aq (hbox); have n2_ := aq ((by rw [hg]; exact (bz_ (by exact ul HB.out)) : w.heap.size ≤ gb101)); have n3_ := aq ((by rw [hg]; exact (bz_ (by exact ul HB.out)) : w.heap.size ≤ gb101)); clear HB; have HB := n0_; have BK101 := n1_; have GW101 := n2_; have GE101 := n3_; clear n0_ n1_ n2_ n3_; clear hb hbox hg; have hcz12_0 := bT BK101.out 0 (.int .i64 a0_0); have hcz12_1 := bT BK101.out 1 (.int .i64 a0_1); have hfz12_0 := bf_ BK101.out 0; have hfz12_1 := bf_ BK101.out 1))
  repeat (go_quiet (first | ((with_reducible refine gD (N := 1) rfl ?_); refine bE ?hg (N := 1) ?hd (cs := #[.int .i64 a0_0, .int .i64 a0_1]) (t := 30) ?hr ?_; (case hd => rfl); (case hg => rfl); (case hr => first | (go_simp; done) | (go_simp; rfl)); intro gb101 hg w11 hbox hb; have n0_ := aq (bt_ (by exact ul HB.out) hb); have n1_ := aq (hbox); have n2_ := aq ((by rw [hg]; exact (bz_ (by exact ul HB.out)) : w.heap.size ≤ gb101)); have n3_ := aq ((by rw [hg]; exact (bz_ (by exact ul HB.out)) : w.heap.size ≤ gb101)); clear HB; have HB := n0_; have BK101 := n1_; have GW101 := n2_; have GE101 := n3_; clear n0_ n1_ n2_ n3_; clear hb hbox hg; have hcz12_0 := bT BK101.out 0 (.int .i64 a0_0); have hcz12_1 := bT BK101.out 1 (.int .i64 a0_1); have hfz12_0 := bf_ BK101.out 0; have hfz12_1 := bf_ BK101.out 1)); try go_wp2_with (first | ((with_reducible refine gD (N := 1) rfl ?_); refine bE ?hg (N := 1) ?hd (cs := #[.int .i64 a0_0, .int .i64 a0_1]) (t := 30) ?hr ?_; (case hd => rfl); (case hg => rfl); (case hr => first | (go_simp; done) | (go_simp; rfl)); intro gb101 hg w11 hbox hb; have n0_ := aq (bt_ (by exact ul HB.out) hb); have n1_ := aq (hbox); have n2_ := aq ((by rw [hg]; exact (bz_ (by exact ul HB.out)) : w.heap.size ≤ gb101)); have n3_ := aq ((by rw [hg]; exact (bz_ (by exact ul HB.out)) : w.heap.size ≤ gb101)); clear HB; have HB := n0_; have BK101 := n1_; have GW101 := n2_; have GE101 := n3_; clear n0_ n1_ n2_ n3_; clear hb hbox hg; have hcz12_0 := bT BK101.out 0 (.int .i64 a0_0); have hcz12_1 := bT BK101.out 1 (.int .i64 a0_1); have hfz12_0 := bf_ BK101.out 0; have hfz12_1 := bf_ BK101.out 1)))
  go_ret
  exact ⟨by first | rfl | (simp [eN_, eS_] <;> rfl) | (simp [*, eN_, eS_] <;> rfl), by repeat first | exact HB.out | refine bs_ ?_ GE101.out | refine ul ?_⟩
 rw [if_pos c2] at H
 have c2b0 : decide (1 ≤ a0_1) = true := decide_eq_true c2
 clear c2
 by_cases c3 : a0_0 > (-9223372036854775808)
 case neg =>
  rw [if_neg c3] at H
  have c3b0 : decide ((-9223372036854775808) < a0_0) = false := decide_eq_false c3
  clear c3
  obtain rfl := Option.some.inj H
  go_enter Try.func59, Try.ntmps59
  go_wp2_with (first | ((with_reducible refine gD (N := 1) rfl ?_); refine bE ?hg (N := 1) ?hd (cs := #[.int .i64 a0_0, .int .i64 a0_1]) (t := 30) ?hr ?_; (case hd => rfl); (case hg => rfl); (case hr => first | (go_simp; done) | (go_simp; rfl)); intro gb101 hg w9 hbox hb; have n0_ := aq (bt_ (by exact ul HB.out) hb); have n1_ := aq (hbox); have n2_ := aq ((by rw [hg]; exact (bz_ (by exact ul HB.out)) : w.heap.size ≤ gb101)); have n3_ := aq ((by rw [hg]; exact (bz_ (by exact ul HB.out)) : w.heap.size ≤ gb101)); clear HB; have HB := n0_; have BK101 := n1_; have GW101 := n2_; have GE101 := n3_; clear n0_ n1_ n2_ n3_; clear hb hbox hg; have hcz10_0 := bT BK101.out 0 (.int .i64 a0_0); have hcz10_1 := bT BK101.out 1 (.int .i64 a0_1); have hfz10_0 := bf_ BK101.out 0; have hfz10_1 := bf_ BK101.out 1))
  repeat (go_quiet (first | ((with_reducible refine gD (N := 1) rfl ?_); refine bE ?hg (N := 1) ?hd (cs := #[.int .i64 a0_0, .int .i64 a0_1]) (t := 30) ?hr ?_; (case hd => rfl); (case hg => rfl); (case hr => first | (go_simp; done) | (go_simp; rfl)); intro gb101 hg w9 hbox hb; have n0_ := aq (bt_ (by exact ul HB.out) hb); have n1_ := aq (hbox); have n2_ := aq ((by rw [hg]; exact (bz_ (by exact ul HB.out)) : w.heap.size ≤ gb101)); have n3_ := aq ((by rw [hg]; exact (bz_ (by exact ul HB.out)) : w.heap.size ≤ gb101)); clear HB; have HB := n0_; have BK101 := n1_; have GW101 := n2_; have GE101 := n3_; clear n0_ n1_ n2_ n3_; clear hb hbox hg; have hcz10_0 := bT BK101.out 0 (.int .i64 a0_0); have hcz10_1 := bT BK101.out 1 (.int .i64 a0_1); have hfz10_0 := bf_ BK101.out 0; have hfz10_1 := bf_ BK101.out 1)); try go_wp2_with (first | ((with_reducible refine gD (N := 1) rfl ?_); refine bE ?hg (N := 1) ?hd (cs := #[.int .i64 a0_0, .int .i64 a0_1]) (t := 30) ?hr ?_; (case hd => rfl); (case hg => rfl); (case hr => first | (go_simp; done) | (go_simp; rfl)); intro gb101 hg w9 hbox hb; have n0_ := aq (bt_ (by exact ul HB.out) hb); have n1_ := aq (hbox); have n2_ := aq ((by rw [hg]; exact (bz_ (by exact ul HB.out)) : w.heap.size ≤ gb101)); have n3_ := aq ((by rw [hg]; exact (bz_ (by exact ul HB.out)) : w.heap.size ≤ gb101)); clear HB; have HB := n0_; have BK101 := n1_; have GW101 := n2_; have GE101 := n3_; clear n0_ n1_ n2_ n3_; clear hb hbox hg; have hcz10_0 := bT BK101.out 0 (.int .i64 a0_0); have hcz10_1 := bT BK101.out 1 (.int .i64 a0_1); have hfz10_0 := bf_ BK101.out 0; have hfz10_1 := bf_ BK101.out 1)))
  go_ret
  exact ⟨by first | rfl | (simp [eN_, eS_] <;> rfl) | (simp [*, eN_, eS_] <;> rfl), by repeat first | exact HB.out | refine bs_ ?_ GE101.out | refine ul ?_⟩
 rw [if_pos c3] at H
 have c3b0 : decide ((-9223372036854775808) < a0_0) = true := decide_eq_true c3
 clear c3
 replace H := Option.bind_eq_some_iff.mp H
 obtain ⟨t102, A40, H⟩ := H
 try dsimp only at H
 have A4 := aq A40
 clear A40
 replace H := Option.bind_eq_some_iff.mp H
 obtain ⟨t103, A50, H⟩ := H
 try dsimp only at H
 have A5 := aq A50
 clear A50
 replace H := Option.bind_eq_some_iff.mp H
 obtain ⟨t104, A60, H⟩ := H
 try dsimp only at H
 have A6 := aq A60
 clear A60
 obtain rfl := Option.some.inj H
 go_enter Try.func59, Try.ntmps59
 go_wp2_with (first | ((with_reducible refine gD (N := 1) rfl ?_); refine bE ?hg (N := 1) ?hd (cs := #[.int .i64 a0_0, .int .i64 a0_1]) (t := 30) ?hr ?_; (case hd => rfl); (case hg => rfl); (case hr => first | (go_simp; done) | (go_simp; rfl)); intro gb101 hg w7 hbox hb; have n0_ := aq (bt_ (by exact ul HB.out) hb); have n1_ := aq (hbox); have n2_ := aq ((by rw [hg]; exact (bz_ (by exact ul HB.out)) : w.heap.size ≤ gb101)); have n3_ := aq ((by rw [hg]; exact (bz_ (by exact ul HB.out)) : w.heap.size ≤ gb101)); clear HB; have HB := n0_; have BK101 := n1_; have GW101 := n2_; have GE101 := n3_; clear n0_ n1_ n2_ n3_; clear hb hbox hg; have hcz8_0 := bT BK101.out 0 (.int .i64 a0_0); have hcz8_1 := bT BK101.out 1 (.int .i64 a0_1); have hfz8_0 := bf_ BK101.out 0; have hfz8_1 := bf_ BK101.out 1) | (go_at_call 88; (with_reducible refine (zR.calls a0_0 t102 _ A4.out).mono ?_); rintro e w' ⟨rfl, ⟨nd, rfl⟩⟩; (try first | exact dA | exact dB)) | (go_at_call 88; (with_reducible refine (zR.calls a0_1 t103 _ A5.out).mono ?_); rintro e w' ⟨rfl, ⟨nd, rfl⟩⟩; (try first | exact dA | exact dB)) | (go_at_call 87; (with_reducible refine (yV.calls k t102 t103 t104 _ A6.out).mono ?_); rintro e w' ⟨rfl, ⟨nd, rfl⟩⟩; (try first | exact dA | exact dB)))
 repeat (go_quiet (first | ((with_reducible refine gD (N := 1) rfl ?_); refine bE ?hg (N := 1) ?hd (cs := #[.int .i64 a0_0, .int .i64 a0_1]) (t := 30) ?hr ?_; (case hd => rfl); (case hg => rfl); (case hr => first | (go_simp; done) | (go_simp; rfl)); intro gb101 hg w7 hbox hb; have n0_ := aq (bt_ (by exact ul HB.out) hb); have n1_ := aq (hbox); have n2_ := aq ((by rw [hg]; exact (bz_ (by exact ul HB.out)) : w.heap.size ≤ gb101)); have n3_ := aq ((by rw [hg]; exact (bz_ (by exact ul HB.out)) : w.heap.size ≤ gb101)); clear HB; have HB := n0_; have BK101 := n1_; have GW101 := n2_; have GE101 := n3_; clear n0_ n1_ n2_ n3_; clear hb hbox hg; have hcz8_0 := bT BK101.out 0 (.int .i64 a0_0); have hcz8_1 := bT BK101.out 1 (.int .i64 a0_1); have hfz8_0 := bf_ BK101.out 0; have hfz8_1 := bf_ BK101.out 1) | (go_at_call 88; (with_reducible refine (zR.calls a0_0 t102 _ A4.out).mono ?_); rintro e w' ⟨rfl, ⟨nd, rfl⟩⟩; (try first | exact dA | exact dB)) | (go_at_call 88; (with_reducible refine (zR.calls a0_1 t103 _ A5.out).mono ?_); rintro e w' ⟨rfl, ⟨nd, rfl⟩⟩; (try first | exact dA | exact dB)) | (go_at_call 87; (with_reducible refine (yV.calls k t102 t103 t104 _ A6.out).mono ?_); rintro e w' ⟨rfl, ⟨nd, rfl⟩⟩; (try first | exact dA | exact dB))); try go_wp2_with (first | ((with_reducible refine gD (N := 1) rfl ?_); refine bE ?hg (N := 1) ?hd (cs := #[.int .i64 a0_0, .int .i64 a0_1]) (t := 30) ?hr ?_; (case hd => rfl); (case hg => rfl); (case hr => first | (go_simp; done) | (go_simp; rfl)); intro gb101 hg w7 hbox hb; have n0_ := aq (bt_ (by exact ul HB.out) hb); have n1_ := aq (hbox); have n2_ := aq ((by rw [hg]; exact (bz_ (by exact ul HB.out)) : w.heap.size ≤ gb101)); have n3_ := aq ((by rw [hg]; exact (bz_ (by exact ul HB.out)) : w.heap.size ≤ gb101)); clear HB; have HB := n0_; have BK101 := n1_; have GW101 := n2_; have GE101 := n3_; clear n0_ n1_ n2_ n3_; clear hb hbox hg; have hcz8_0 := bT BK101.out 0 (.int .i64 a0_0); have hcz8_1 := bT BK101.out 1 (.int .i64 a0_1); have hfz8_0 := bf_ BK101.out 0; have hfz8_1 := bf_ BK101.out 1) | (go_at_call 88; (with_reducible refine (zR.calls a0_0 t102 _ A4.out).mono ?_); rintro e w' ⟨rfl, ⟨nd, rfl⟩⟩; (try first | exact dA | exact dB)) | (go_at_call 88; (with_reducible refine (zR.calls a0_1 t103 _ A5.out).mono ?_); rintro e w' ⟨rfl, ⟨nd, rfl⟩⟩; (try first | exact dA | exact dB)) | (go_at_call 87; (with_reducible refine (yV.calls k t102 t103 t104 _ A6.out).mono ?_); rintro e w' ⟨rfl, ⟨nd, rfl⟩⟩; (try first | exact dA | exact dB))))
 go_ret
 exact ⟨by first | rfl | (simp [eN_, eS_] <;> rfl) | (simp [*, eN_, eS_] <;> rfl), by repeat first | exact HB.out | refine bs_ ?_ GE101.out | refine ul ?_⟩
end Go.Proofs.Ytoonahobmlnflaa.PC
namespace Go.Proofs.Ytoonahobmlnflaa.PC
open Go.RowKit A B C
theorem sq {α : Type} : (∀ (l : List α) (i : Nat) (a : α), l.toArray.setIfInBounds i a = (l.set i a).toArray) ∧ (∀ (x : α) (xs : List α) (a : α), (x :: xs).set 0 a = a :: xs) ∧ ∀ (x : α) (xs : List α) (n : Nat) (a : α), (x :: xs).set (n + 1) a = x :: xs.set n a := ⟨fun _ _ _ => by simp, fun _ _ _ => rfl, fun _ _ _ _ => rfl⟩
def mskL (b : Nat) : Nat → List Bool
 | 0 => []
 | n + 1 => (b % 2 == 1) :: mskL (b / 2) n
abbrev msk (n b : Nat) : Array Bool := ⟨mskL b n⟩
section
variable {P : Program} {ops : Array Oper} {Q : Exit → Act → World → Prop} {md : Region.Mode} {S : World → Prop} {ds : List Nat} {T : Bool × List (List Nat × List Nat)}
theorem pu_ {oi : Oper} {fuel : Nat} {l : Array Bool} {a : Act} {w : World} (i N : Nat) (l' : Array Bool) (hT : vL md ops = T) (v : Value) (hy : ∀ w, (execOp a.eval oi).run P w = .ok (.value v) w) (a' : Act) (ha : a.put (some N) v = a') (h : yN P md ops Q S ds fuel l' a' w)
  (hi : ops[i]? = some oi := by rfl) (hN : oi.dst = some N := by rfl) (hc : anyT T l.toList l'.toList i = true := by kernel_rfl) (hQ : ∀ c a w, Q (.panic c) (a.put oi.dst v) w → Q (.panic c) a w := by exact fun _ _ _ h => h) (hw : Region.wanted oi (yielded ops a.tmps) = true := by rfl) : yN P md ops Q S ds (fuel + 1) l a w :=
 pure_ l' hi hN (any_of hT hc) hQ (.inl ⟨hw, hy⟩) ha h
theorem pv_ {oi : Oper} {fuel : Nat} {l : Array Bool} {a : Act} {w : World} (i N : Nat) (l' : Array Bool) (hT : vL md ops = T) (a' : Act) (ha : a.put (some N) undef = a') (h : yN P md ops Q S ds fuel l' a' w)
  (hi : ops[i]? = some oi := by rfl) (hN : oi.dst = some N := by rfl) (hc : anyT T l.toList l'.toList i = true := by kernel_rfl) (hQ : ∀ c a w, Q (.panic c) (a.put oi.dst undef) w → Q (.panic c) a w := by exact fun _ _ _ h => h) (hw : Region.wanted oi (yielded ops a.tmps) = false := by rfl) : yN P md ops Q S ds (fuel + 1) l a w :=
 pure_ l' hi hN (any_of hT hc) hQ (.inr ⟨hw, rfl⟩) ha h
theorem tk_ {oi : Oper} {fuel : Nat} {l : Array Bool} {a : Act} {w : World} {B : List Nat} (i N : Nat) (l' : Array Bool) (hT : vL md ops = T) (hB : xH T.2 B = true) (hS : S w) (v : Value) (hy : ∀ w, S w → (execOp a.eval oi).run P w = .ok (.value v) w) (a' : Act) (ha : a.put (some N) v = a') (h : yN P md ops Q S ds fuel l' a' w)
  (hi : ops[i]? = some oi := by rfl) (hN : oi.dst = some N := by rfl) (hc : takeW T B ds l.toList l'.toList i = true := by kernel_rfl) (hQ : ∀ c a w, Q (.panic c) (a.put oi.dst v) w → Q (.panic c) a w := by exact fun _ _ _ h => h) (hw : Region.wanted oi (yielded ops a.tmps) = true := by rfl) : yN P md ops Q S ds (fuel + 1) l a w :=
 take_ l' hi hN (take_ofW hT hB hc) hQ (.inl ⟨hw, hy⟩) hS ha h
theorem pU {oi : Oper} {fuel : Nat} {l : Array Bool} {a : Act} {w : World} (i N : Nat) (l' : Array Bool) (hT : vL md ops = T) {v : Value} {a' : Act} (h : yN P md ops Q S ds fuel l' a' w)
    (hi : ops[i]? = some oi := by rfl) (hN : oi.dst = some N := by rfl) (hc : anyT T l.toList l'.toList i = true := by kernel_rfl) (hw : Region.wanted oi (yielded ops a.tmps) = true := by rfl) (hy : ∀ w, (execOp a.eval oi).run P w = .ok (.value v) w := by intro w'; go_simp; with_reducible rfl) (ha : a.put (some N) v = a' := by simp only [Act.put, sq, iw, jw]; rfl) (hQ : ∀ c a w, Q (.panic c) (a.put oi.dst v) w → Q (.panic c) a w := by exact fun _ _ _ h => h) : yN P md ops Q S ds (fuel + 1) l a w :=
  pu_ i N l' hT v hy a' ha h hi hN hc hQ hw
theorem pW {oi : Oper} {fuel : Nat} {l : Array Bool} {a : Act} {w : World} (i N : Nat) (l' : Array Bool) (hT : vL md ops = T) {a' : Act} (h : yN P md ops Q S ds fuel l' a' w)
    (hi : ops[i]? = some oi := by rfl) (hN : oi.dst = some N := by rfl) (hc : anyT T l.toList l'.toList i = true := by kernel_rfl) (hw : Region.wanted oi (yielded ops a.tmps) = false := by rfl) (ha : a.put (some N) undef = a' := by simp only [Act.put, sq, iw, jw]; rfl) (hQ : ∀ c a w, Q (.panic c) (a.put oi.dst undef) w → Q (.panic c) a w := by exact fun _ _ _ h => h) : yN P md ops Q S ds (fuel + 1) l a w :=
  pv_ i N l' hT a' ha h hi hN hc hQ hw
theorem tU {oi : Oper} {fuel : Nat} {l : Array Bool} {a : Act} {w : World} {B : List Nat} (i N : Nat) (l' : Array Bool) (hT : vL md ops = T) (hB : xH T.2 B = true) (hS : S w) (v : Value) (hy : ∀ w, S w → (execOp a.eval oi).run P w = .ok (.value v) w) {a' : Act} (h : yN P md ops Q S ds fuel l' a' w)
    (hi : ops[i]? = some oi := by rfl) (hN : oi.dst = some N := by rfl) (hc : takeW T B ds l.toList l'.toList i = true := by kernel_rfl) (hw : Region.wanted oi (yielded ops a.tmps) = true := by rfl) (ha : a.put (some N) v = a' := by simp only [Act.put, sq, iw, jw]; rfl) (hQ : ∀ c a w, Q (.panic c) (a.put oi.dst v) w → Q (.panic c) a w := by exact fun _ _ _ h => h) : yN P md ops Q S ds (fuel + 1) l a w :=
  tk_ i N l' hT hB hS v hy a' ha h hi hN hc hQ hw
end
end Go.Proofs.Ytoonahobmlnflaa.PC
namespace Go.Proofs.Ytoonahobmlnflaa.PC
open Go.RowKit A B C
attribute [local go_sem] xJ xL wY wZ xU xV xK xM
def zJ.l0 : Nat → List Int → List Int → Int → Option (Int)
 | 0, _, _, _ => none
 | k + 1, x0, x1, x5 => if x5 ≥ 0 then (if 0 ≤ x5 then (if x5 < (x0.length : Int) then (if x5 < (x1.length : Int) then (if (rd x0 x5) < (rd x1 x5) then (some (-1)) else (if (rd x0 x5) > (rd x1 x5) then (some 1) else (zJ.l0 k x0 x1 (wrap64 (x5 - 1))))) else (none)) else (none)) else (none)) else (some 0)
def zJ.f (k : Nat) (l0 : List Int) (l1 : List Int) : Option (Int) := if (l0.length : Int) = (l1.length : Int) then (zJ.l0 k l0 l1 (wrap64 ((l0.length : Int) - 1))) else (if (l0.length : Int) < (l1.length : Int) then (some (-1)) else (some 1))
theorem zJ.calls (k : Nat) (A0 : Option Addr) (c0 : Nat) (l0 : List Int) (A1 : Option Addr) (c1 : Nat) (l1 : List Int) (r : Int) (w : World) (hr0 : Kd.C (Kd.int .u32) w A0 l0.length l0) (hc0 : l0.length ≤ c0) (hr1 : Kd.C (Kd.int .u32) w A1 l1.length l1) (hc1 : l1.length ≤ c1) (h : zJ.f k l0 l1 = some r) :
    Calls Try.prog 53 #[.slice A0 l0.length c0, .slice A1 l1.length c1] w fun e w' => e = .returned (.int .i64 r) ∧ zP w w' := by
 have HR0 := aq hr0
 have HC0 := aq hc0
 clear hr0 hc0
 have HR1 := aq hr1
 have HC1 := aq hc1
 clear hr1 hc1
 have H := h
 unfold zJ.f at H
 clear h
 by_cases c3 : (l0.length : Int) = (l1.length : Int)
 case neg =>
  rw [if_neg c3] at H
  have c3b0 : ((l0.length : Int) == (l1.length : Int)) = false := beq_eq_false_iff_ne.mpr c3
  have c3b1 : ((l0.length : Int) != (l1.length : Int)) = true := bne_iff_ne.mpr c3
  have c3b2 : (l0.length == l1.length) = false := by first | simpa using c3 | (simp at c3 ⊢; omega)
  by_cases c10 : (l0.length : Int) < (l1.length : Int)
  case pos =>
   rw [if_pos c10] at H
   have c10b0 : decide ((l0.length : Int) < (l1.length : Int)) = true := decide_eq_true c10
   have c10b1 : decide (l0.length < l1.length) = true := decide_eq_true (Int.ofNat_lt.mp c10)
   clear c10
   obtain rfl := Option.some.inj H
   go_enter Try.func53, Try.ntmps53
   go_wp2
   repeat (go_quiet (fail); try go_wp2)
   go_ret
   exact ⟨by first | rfl | (simp; done) | (simp [*]; done), by repeat (first | exact zP.refl _ | apply zP.step)⟩
  rw [if_neg c10] at H
  have c10b0 : decide ((l0.length : Int) < (l1.length : Int)) = false := decide_eq_false c10
  have c10b1 : decide (l0.length < l1.length) = false := decide_eq_false (fun h => c10 (Int.ofNat_lt.mpr h))
  clear c10
  obtain rfl := Option.some.inj H
  go_enter Try.func53, Try.ntmps53
  go_wp2
  repeat (go_quiet (fail); try go_wp2)
  go_ret
  exact ⟨by first | rfl | (simp; done) | (simp [*]; done), by repeat (first | exact zP.refl _ | apply zP.step)⟩
 rw [if_pos c3] at H
 have c3b0 : ((l0.length : Int) == (l1.length : Int)) = true := beq_iff_eq.mpr c3
 have c3b1 : ((l0.length : Int) != (l1.length : Int)) = false := bne_eq_false_iff_eq.mpr c3
 have c3b2 : (l0.length == l1.length) = true := by first | simpa using c3 | (simp at c3 ⊢; omega)
 clear c3
 have H' := aq H
 clear H
 go_enter Try.func53, Try.ntmps53
 go_wp2
 repeat (go_quiet (fail); try go_wp2)
 go_loopg [5] k (fun kq v5 w' => ∃ (x5_1 : Int), v5 = .int .i64 x5_1 ∧ zV (zJ.l0 kq l0 l1 x5_1 = some r) ∧ zV (kq ≤ k) ∧ zP w w')
 case atStart => exact ⟨(wrap64 ((l0.length : Int) - 1)), (by first | rfl | (simp; done) | (simp [*]; done)), H', ⟨Nat.le_refl _⟩, by repeat (first | exact zP.refl _ | apply zP.step)⟩
 case round =>
  clear H'
  try clear c1
  try clear p2
  try clear c3
  try clear c3b0
  try clear c3b1
  try clear c3b2
  obtain ⟨x5_1, rfl, HA, HK1, ⟨m1, rfl⟩⟩ := hrel
  cases gk with
  | zero => exact absurd HA.out (by simp [zJ.l0])
  | succ k1 =>
   have H := HA.out
   clear HA
   simp only [zJ.l0] at H
   by_cases c4 : x5_1 ≥ 0
   case neg =>
    rw [if_neg c4] at H
    have c4b0 : decide (0 ≤ x5_1) = false := decide_eq_false c4
    clear c4
    obtain rfl := Option.some.inj H
    go_wp2
    repeat (go_quiet (fail); try go_wp2)
    go_ret
    exact ⟨by first | rfl | (simp; done) | (simp [*]; done), by repeat (first | exact zP.refl _ | apply zP.step)⟩
   rw [if_pos c4] at H
   have c4b0 : decide (0 ≤ x5_1) = true := decide_eq_true c4
   clear c4
   replace H := gd H
   obtain ⟨c5b0, H⟩ := H
   replace H := gd H
   obtain ⟨c6b0, H⟩ := H
   replace H := gd H
   obtain ⟨c7b0, H⟩ := H
   by_cases c8 : (rd l0 x5_1) < (rd l1 x5_1)
   case pos =>
    rw [if_pos c8] at H
    have c8b0 : decide ((rd l0 x5_1) < (rd l1 x5_1)) = true := decide_eq_true c8
    clear c8
    obtain rfl := Option.some.inj H
    have p253 : 0 ≤ (x5_1 : Int) := of_decide_eq_true (by assumption)
    have q253 : x5_1 < (l0.length : Int) := of_decide_eq_true (by assumption)
    obtain ⟨ad253, e253, hx253_0⟩ := Kd.vU HR0.out x5_1 p253 q253
    cases e253
    replace p253 := eq_true p253
    replace q253 := eq_true q253
    have p254 : 0 ≤ (x5_1 : Int) := of_decide_eq_true (by assumption)
    have q254 : x5_1 < (l1.length : Int) := of_decide_eq_true (by assumption)
    obtain ⟨ad254, e254, hx254_0⟩ := Kd.vU HR1.out x5_1 p254 q254
    cases e254
    replace p254 := eq_true p254
    replace q254 := eq_true q254
    go_wp2
    repeat (go_quiet (fail); try go_wp2)
    go_ret
    exact ⟨by first | rfl | (simp; done) | (simp [*]; done), by repeat (first | exact zP.refl _ | apply zP.step)⟩
   rw [if_neg c8] at H
   have c8b0 : decide ((rd l0 x5_1) < (rd l1 x5_1)) = false := decide_eq_false c8
   clear c8
   by_cases c9 : (rd l0 x5_1) > (rd l1 x5_1)
   case pos =>
    rw [if_pos c9] at H
    have c9b0 : decide ((rd l1 x5_1) < (rd l0 x5_1)) = true := decide_eq_true c9
    clear c9
    obtain rfl := Option.some.inj H
    have p253 : 0 ≤ (x5_1 : Int) := of_decide_eq_true (by assumption)
    have q253 : x5_1 < (l0.length : Int) := of_decide_eq_true (by assumption)
    obtain ⟨ad253, e253, hx253_0⟩ := Kd.vU HR0.out x5_1 p253 q253
    cases e253
    replace p253 := eq_true p253
    replace q253 := eq_true q253
    have p254 : 0 ≤ (x5_1 : Int) := of_decide_eq_true (by assumption)
    have q254 : x5_1 < (l1.length : Int) := of_decide_eq_true (by assumption)
    obtain ⟨ad254, e254, hx254_0⟩ := Kd.vU HR1.out x5_1 p254 q254
    cases e254
    replace p254 := eq_true p254
    replace q254 := eq_true q254
    have p255 : 0 ≤ (x5_1 : Int) := of_decide_eq_true (by assumption)
    have q255 : x5_1 < (l0.length : Int) := of_decide_eq_true (by assumption)
    obtain ⟨ad255, e255, hx255_0⟩ := Kd.vU HR0.out x5_1 p255 q255
    obtain rfl : ad253 = ad255 := (by injection e255)
    replace p255 := eq_true p255
    replace q255 := eq_true q255
    have p256 : 0 ≤ (x5_1 : Int) := of_decide_eq_true (by assumption)
    have q256 : x5_1 < (l1.length : Int) := of_decide_eq_true (by assumption)
    obtain ⟨ad256, e256, hx256_0⟩ := Kd.vU HR1.out x5_1 p256 q256
    obtain rfl : ad254 = ad256 := (by injection e256)
    replace p256 := eq_true p256
    replace q256 := eq_true q256
    go_wp2
    repeat (go_quiet (fail); try go_wp2)
    go_ret
    exact ⟨by first | rfl | (simp; done) | (simp [*]; done), by repeat (first | exact zP.refl _ | apply zP.step)⟩
   rw [if_neg c9] at H
   have c9b0 : decide ((rd l1 x5_1) < (rd l0 x5_1)) = false := decide_eq_false c9
   clear c9
   have H' := aq H
   clear H
   have p253 : 0 ≤ (x5_1 : Int) := of_decide_eq_true (by assumption)
   have q253 : x5_1 < (l0.length : Int) := of_decide_eq_true (by assumption)
   obtain ⟨ad253, e253, hx253_0⟩ := Kd.vU HR0.out x5_1 p253 q253
   cases e253
   replace p253 := eq_true p253
   replace q253 := eq_true q253
   have p254 : 0 ≤ (x5_1 : Int) := of_decide_eq_true (by assumption)
   have q254 : x5_1 < (l1.length : Int) := of_decide_eq_true (by assumption)
   obtain ⟨ad254, e254, hx254_0⟩ := Kd.vU HR1.out x5_1 p254 q254
   cases e254
   replace p254 := eq_true p254
   replace q254 := eq_true q254
   have p255 : 0 ≤ (x5_1 : Int) := of_decide_eq_true (by assumption)
   have q255 : x5_1 < (l0.length : Int) := of_decide_eq_true (by assumption)
   obtain ⟨ad255, e255, hx255_0⟩ := Kd.vU HR0.out x5_1 p255 q255
   obtain rfl : ad253 = ad255 := (by injection e255)
   replace p255 := eq_true p255
   replace q255 := eq_true q255
   have p256 : 0 ≤ (x5_1 : Int) := of_decide_eq_true (by assumption)
   have q256 : x5_1 < (l1.length : Int) := of_decide_eq_true (by assumption)
   obtain ⟨ad256, e256, hx256_0⟩ := Kd.vU HR1.out x5_1 p256 q256
   obtain rfl : ad254 = ad256 := (by injection e256)
   replace p256 := eq_true p256
   replace q256 := eq_true q256
   go_wp2
   repeat (go_quiet (fail); try go_wp2)
   (first | go_roundg k1 | (refine Handed.intro k1 ?measure ?_; rotate_left; go_step; (repeat apply Exists.intro); (refine ⟨?rel, ?fr_⟩); (case fr_ => (simp only [add_plain]; rfl))))
   case measure => have := HK1.out; omega
   case rel => exact ⟨(wrap64 (x5_1 - 1)), (by first | rfl | (simp; done) | (simp [*]; done)), H', ⟨by have := HK1.out; omega⟩, by repeat (first | exact zP.refl _ | apply zP.step)⟩
def yX.l0 : Nat → Int → Int → Option (Int)
 | 0, _, _ => none
 | k + 1, x3, x4 => if x4 > 0 then (yX.l0 k (wrap64 (x3 + 1)) (x4 / 2)) else (some x3)
def yX.f (k : Nat) (l0 : List Int) : Option (Int) := if (l0.length : Int) = 0 then (some 0) else (if 0 ≤ (wrap64 ((l0.length : Int) - 1)) then (if (wrap64 ((l0.length : Int) - 1)) < (l0.length : Int) then (yX.l0 k (wrap64 (32 * (wrap64 ((l0.length : Int) - 1)))) (rd l0 (wrap64 ((l0.length : Int) - 1)))) else (none)) else (none))
theorem yX.calls (k : Nat) (A0 : Option Addr) (c0 : Nat) (l0 : List Int) (r : Int) (w : World) (hr0 : Kd.C (Kd.int .u32) w A0 l0.length l0) (hc0 : l0.length ≤ c0) (h : yX.f k l0 = some r) :
    Calls Try.prog 116 #[.slice A0 l0.length c0] w fun e w' => e = .returned (.int .i64 r) ∧ zP w w' := by
 have HR0 := aq hr0
 have HC0 := aq hc0
 clear hr0 hc0
 have H := h
 unfold yX.f at H
 clear h
 by_cases c2 : (l0.length : Int) = 0
 case pos =>
  rw [if_pos c2] at H
  have c2b0 : ((l0.length : Int) == 0) = true := beq_iff_eq.mpr c2
  have c2b1 : ((l0.length : Int) != 0) = false := bne_eq_false_iff_eq.mpr c2
  clear c2
  obtain rfl := Option.some.inj H
  go_enter Try.func116, Try.ntmps116
  go_wp2
  go_ret
  exact ⟨by first | rfl | (simp; done) | (simp [*]; done), by repeat (first | exact zP.refl _ | apply zP.step)⟩
 rw [if_neg c2] at H
 have c2b0 : ((l0.length : Int) == 0) = false := beq_eq_false_iff_ne.mpr c2
 have c2b1 : ((l0.length : Int) != 0) = true := bne_iff_ne.mpr c2
 have c2b2 : ¬ (l0 = []) := fun h_ => c2 (by rw [h_]; rfl)
 obtain ⟨ji3, hji3⟩ : ∃ j_ : Int, (wrap64 ((l0.length : Int) - 1)) = j_ := ⟨_, rfl⟩
 first | rw [hji3] at H | simp only [hji3] at H
 have hji3w : (IntKind.i64.wrap ((l0.length : Int) - 1)) = ji3 := (iw _).trans hji3
 replace H := gd H
 obtain ⟨c4b0, H⟩ := H
 replace H := gd H
 obtain ⟨c5b0, H⟩ := H
 have H' := aq H
 clear H
 have p257 : 0 ≤ ((ji3) : Int) := of_decide_eq_true (by assumption)
 have q257 : (ji3) < (l0.length : Int) := of_decide_eq_true (by assumption)
 obtain ⟨ad257, e257, hx257_0⟩ := Kd.vU HR0.out (ji3) p257 q257
 cases e257
 replace p257 := eq_true p257
 replace q257 := eq_true q257
 go_enter Try.func116, Try.ntmps116
 go_wp2
 go_loopg [3, 4] k (fun kq v3 v4 w' => ∃ (x3_1 : Int) (x4_1 : Int), v3 = .int .i64 x3_1 ∧ v4 = .int .u32 x4_1 ∧ zV (yX.l0 kq x3_1 x4_1 = some r) ∧ zV (kq ≤ k) ∧ zP w w')
 case atStart => exact ⟨(wrap64 (32 * (ji3))), (rd l0 (ji3)), (by first | rfl | (simp; done) | (simp only [← hji3] <;> (first | rfl | simp)) | (simp [*]; done)), (by first | rfl | (simp; done) | (simp only [← hji3] <;> (first | rfl | simp)) | (simp [*]; done)), H', ⟨Nat.le_refl _⟩, by repeat (first | exact zP.refl _ | apply zP.step)⟩
 case round =>
  clear H'
  try clear c1
  try clear c2
  try clear c2b0
  try clear c2b1
  try clear c2b2
  try clear p2
  try clear q2
  try clear hx2
  try clear c4
  try clear c4b0
  try clear c5
  try clear c5b0
  try clear hx257_0
  try clear p257
  try clear q257
  obtain ⟨x3_1, x4_1, rfl, rfl, HA, HK1, ⟨m1, rfl⟩⟩ := hrel
  cases gk with
  | zero => exact absurd HA.out (by simp [yX.l0])
  | succ k1 =>
   have H := HA.out
   clear HA
   simp only [yX.l0] at H
   by_cases c6 : x4_1 > 0
   case neg =>
    rw [if_neg c6] at H
    have c6b0 : decide (0 < x4_1) = false := decide_eq_false c6
    clear c6
    obtain rfl := Option.some.inj H
    go_wp2
    go_ret
    exact ⟨by first | rfl | (simp; done) | (simp only [← hji3] <;> (first | rfl | simp)) | (simp [*]; done), by repeat (first | exact zP.refl _ | apply zP.step)⟩
   rw [if_pos c6] at H
   have c6b0 : decide (0 < x4_1) = true := decide_eq_true c6
   clear c6
   have H' := aq H
   clear H
   go_wp2
   (first | go_roundg k1 | (refine Handed.intro k1 ?measure ?_; rotate_left; go_step; (repeat apply Exists.intro); (refine ⟨?rel, ?fr_⟩); (case fr_ => (simp only [add_plain]; rfl))))
   case measure => have := HK1.out; omega
   case rel => exact ⟨(wrap64 (x3_1 + 1)), (x4_1 / 2), (by first | rfl | (simp; done) | (simp [*]; done)), (by first | rfl | (simp; done) | (simp [*]; done)), H', ⟨by have := HK1.out; omega⟩, by repeat (first | exact zP.refl _ | apply zP.step)⟩
def zC.l0 : Nat → List Int → Option (List Int)
 | 0, _ => none
 | k + 1, x0 => if (x0.length : Int) > 0 then (if 0 ≤ (wrap64 ((x0.length : Int) - 1)) then (if (wrap64 ((x0.length : Int) - 1)) < (x0.length : Int) then (if (rd x0 (wrap64 ((x0.length : Int) - 1))) = 0 then (if (wrap64 ((x0.length : Int) - 1)) ≤ (x0.length : Int) then (zC.l0 k (x0.take ((wrap64 ((x0.length : Int) - 1)) : Int).toNat)) else (none)) else (some x0)) else (none)) else (none)) else (some x0)
def zC.f (k : Nat) (l0 : List Int) : Option (List Int) := zC.l0 k l0
theorem zC.calls (k : Nat) (P0_ : Nat → Prop) (A0 : Option Addr) (c0 : Nat) (l0 : List Int) (r : List Int) (w : World) (hs0 : Kd.V (Kd.int .u32) 140 w w.heap.size (fun k_ => P0_ k_) (.slice A0 l0.length c0) l0) (h : zC.f k l0 = some r) :
    Calls Try.prog 119 #[.slice A0 l0.length c0] w fun e w' => ∃ v0_ : Value, e = .returned (v0_) ∧ Kd.V (Kd.int .u32) 140 w' w.heap.size (fun k_ => (P0_ k_ ∨ w.heap.size ≤ k_)) v0_ r ∧ Below w.heap.size w w' := by
 have HO0 := aq (show Kd.V (Kd.int .u32) 140 w w.heap.size (fun k_ => (P0_ k_ ∨ w.heap.size ≤ k_)) (.slice A0 l0.length c0) l0 from Kd.tY hs0 (fun k_ hk => .inl hk))
 have HB := aq (Below.refl w.heap.size w)
 have H := h
 unfold zC.f at H
 clear h
 have H' := aq H
 clear H
 go_enter Try.func119, Try.ntmps119
 go_wp2
 go_loopg [0] k (fun kq v0 w' => ∃ (x0_1 : List Int), zV (zC.l0 kq x0_1 = some r) ∧ zV (kq ≤ k) ∧ zV (Kd.V (Kd.int .u32) 140 w' w.heap.size (fun k_ => (P0_ k_ ∨ w.heap.size ≤ k_)) v0 x0_1) ∧ zV (Below w.heap.size w w'))
 case atStart => exact ⟨(l0), H', ⟨Nat.le_refl _⟩, ⟨by (with_reducible repeat (first | apply Kd.xZ | apply Kd.yA | apply Kd.xI)); exact HO0.out⟩, ⟨by exact ul HB.out⟩⟩
 case round =>
  clear H'
  try clear c1
  obtain ⟨x0_1, HA, HK1, HO_0, HB⟩ := hrel
  cases gk with
  | zero => exact absurd HA.out (by simp [zC.l0])
  | succ k1 =>
   have H := HA.out
   clear HA
   simp only [zC.l0] at H
   by_cases c2 : (x0_1.length : Int) > 0
   case neg =>
    rw [if_neg c2] at H
    have c2b0 : decide (0 < (x0_1.length : Int)) = false := decide_eq_false c2
    have c2b1 : decide (0 < x0_1.length) = false := decide_eq_false (by omega)
    clear c2
    obtain rfl := Option.some.inj H
    obtain ⟨Ao12, co12, eo12⟩ := Kd.tH HO_0.out
    subst eo12
    go_wp2
    go_ret
    exact ⟨_, by first | rfl | (simp [eN_, eS_] <;> rfl) | (simp [*, eN_, eS_] <;> rfl), by (with_reducible repeat (first | apply Kd.xZ | apply Kd.yA | apply Kd.xI)); exact HO_0.out, by exact ul HB.out⟩
   rw [if_pos c2] at H
   have c2b0 : decide (0 < (x0_1.length : Int)) = true := decide_eq_true c2
   have c2b1 : decide (0 < x0_1.length) = true := decide_eq_true (by omega)
   clear c2
   obtain ⟨ji3, hji3⟩ : ∃ j_ : Int, (wrap64 ((x0_1.length : Int) - 1)) = j_ := ⟨_, rfl⟩
   first | rw [hji3] at H | simp only [hji3] at H
   have hji3w : (IntKind.i64.wrap ((x0_1.length : Int) - 1)) = ji3 := (iw _).trans hji3
   replace H := gd H
   obtain ⟨c4b0, H⟩ := H
   replace H := gd H
   obtain ⟨c5b0, H⟩ := H
   by_cases c6 : (rd x0_1 (ji3)) = 0
   case neg =>
    rw [if_neg c6] at H
    have c6b0 : ((rd x0_1 (ji3)) == 0) = false := beq_eq_false_iff_ne.mpr c6
    have c6b1 : ((rd x0_1 (ji3)) != 0) = true := bne_iff_ne.mpr c6
    obtain rfl := Option.some.inj H
    obtain ⟨Ao11, co11, eo11⟩ := Kd.tH HO_0.out
    subst eo11
    have p258 : 0 ≤ ((ji3) : Int) := of_decide_eq_true (by assumption)
    have q258 : (ji3) < (x0_1.length : Int) := of_decide_eq_true (by assumption)
    obtain ⟨ad258, e258, hx258_0⟩ := Kd.vU (Kd.wV HO_0.out).2.2 (ji3) p258 q258
    cases e258
    replace p258 := eq_true p258
    replace q258 := eq_true q258
    go_wp2
    go_ret
    exact ⟨_, by first | rfl | (simp [eN_, eS_] <;> rfl) | (simp only [← hji3]; first | rfl | (simp [eN_, eS_] <;> rfl)) | (simp [*, eN_, eS_] <;> rfl), by (with_reducible repeat (first | apply Kd.xZ | apply Kd.yA | apply Kd.xI)); exact HO_0.out, by exact ul HB.out⟩
   rw [if_pos c6] at H
   have c6b0 : ((rd x0_1 (ji3)) == 0) = true := beq_iff_eq.mpr c6
   have c6b1 : ((rd x0_1 (ji3)) != 0) = false := bne_eq_false_iff_eq.mpr c6
   clear c6
   have c7b0 := eq_true (of_decide_eq_true (by assumption) : 0 ≤ (ji3))
   replace H := gp H
   obtain ⟨c8, H⟩ := H
   have c8b0 := eq_true c8
   have c8b1 : decide ((ji3) ≤ (x0_1.length : Int)) = true := decide_eq_true c8
   clear c8
   obtain ⟨y259, hy259⟩ : ∃ y_ : List Int, y_ = (x0_1.take ((ji3) : Int).toNat) := ⟨_, rfl⟩
   replace H : (zC.l0 k1 y259) = some r := by first | (rw [hy259]; with_reducible exact H) | (have H2_ := (Option.bind_some _ _).symm.trans H; rw [hy259]; with_reducible exact H2_) | (have H2_ := (Option.bind_some _ _).symm.trans H; with_reducible exact H2_) | with_reducible exact H | (rw [hy259]; exact H) | exact H
   have Ny259 := aq hy259
   clear hy259
   have H' := aq H
   clear H
   obtain ⟨Ao9, co9, eo9⟩ := Kd.tH HO_0.out
   subst eo9
   have p258 : 0 ≤ ((ji3) : Int) := of_decide_eq_true (by assumption)
   have q258 : (ji3) < (x0_1.length : Int) := of_decide_eq_true (by assumption)
   obtain ⟨ad258, e258, hx258_0⟩ := Kd.vU (Kd.wV HO_0.out).2.2 (ji3) p258 q258
   cases e258
   replace p258 := eq_true p258
   replace q258 := eq_true q258
   have q10 : ((ji3) : Int) ≤ ((x0_1.length : Int) : Int) := of_decide_eq_true (by assumption)
   obtain ⟨i010, hi010, _, hsz10, _⟩ := info_parts oW
   have hroom10 : x0_1.length ≤ co9 := (Kd.wV HO_0.out).2.1
   have hC10 : Kd.F (Kd.int .u32) _ _ (some ad258) x0_1.length x0_1 := (Kd.V_at (base := w.heap.size) HO_0.out).2.2
   have hcut10 := cut_to (P := Try.prog) 107 140 .i64 Try.underlying107 hi010 (some ad258) x0_1.length co9 (ji3) (of_decide_eq_true (by assumption)) q10 hroom10
   have hr10 := Kd.F_take (m := ((ji3) : Int).toNat) hC10 (by omega)
   have hy10 : y259.length = ((ji3) : Int).toNat := (by rw [Ny259.out, List.length_take]; omega)
   rw [← Ny259.out] at hr10
   rw [← hy10] at hcut10
   have HO263 := aq (show Kd.V (Kd.int .u32) 140 _ w.heap.size _ (.slice (some ad258) y259.length co9) y259 from Kd.V_mk (by omega) hr10)
   have HC263 := aq (show y259.length ≤ co9 from by omega)
   clear hr10 hC10 hroom10 hi010 hsz10
   have KY10 := aq hy10
   clear hy10
   replace q10 := eq_true q10
   go_wp2
   (first | go_roundg k1 | (refine Handed.intro k1 ?measure ?_; rotate_left; go_step; (repeat apply Exists.intro); (refine ⟨?rel, ?fr_⟩); (case fr_ => (simp only [add_plain]; rfl))))
   case measure => have := HK1.out; omega
   case rel => exact ⟨(y259), H', ⟨by have := HK1.out; omega⟩, ⟨by (with_reducible repeat (first | apply Kd.xZ | apply Kd.yA | apply Kd.xI)); exact HO263.out⟩, ⟨by exact ul HB.out⟩⟩
def zB.l0 : Nat → Int → List Int → Int → List Int → Int → Int → Option (List Int)
 | 0, _, _, _, _, _, _ => none
 | k + 1, x1, x5, x6, x16, x17, x18 => if x18 < x17 then (if 0 ≤ x18 then (if x18 < (x16.length : Int) then (if 0 ≤ (IntKind.u64.wrap (Int.tmod x1 32)) then (if x5.length < 35184372088832 then (zB.l0 k x1 (x5 ++ [(Go.bits .or .u64 x6 (shl .u64 (IntKind.u64.wrap (rd x16 x18)) (IntKind.u64.wrap (Int.tmod x1 32)))) % 4294967296]) ((Go.bits .or .u64 x6 (shl .u64 (IntKind.u64.wrap (rd x16 x18)) (IntKind.u64.wrap (Int.tmod x1 32)))) / 4294967296) x16 x17 (wrap64 (x18 + 1))) else (none)) else (none)) else (none)) else (none)) else (if x5.length < 35184372088832 then ((zC.f k (x5 ++ [(x6) % 4294967296])).bind fun t274 => (some t274)) else (none))
def zB.f (k : Nat) (l0 : List Int) (a1 : Int) : Option (List Int) := if (l0.length : Int) = 0 then (some l0) else (if 0 ≤ (wrap64 (Int.tdiv a1 32)) then (if (wrap64 (Int.tdiv a1 32) : Int).toNat ≤ 70368744177664 then (zB.l0 k a1 (List.replicate (wrap64 (Int.tdiv a1 32) : Int).toNat 0) 0 l0 (l0.length : Int) 0) else (none)) else (none))
theorem zB.calls (k : Nat) (P0_ : Nat → Prop) (A0 : Option Addr) (c0 : Nat) (l0 : List Int) (a1 : Int) (r : List Int) (w : World) (hs0 : Kd.V (Kd.int .u32) 140 w w.heap.size (fun k_ => P0_ k_) (.slice A0 l0.length c0) l0) (h : zB.f k l0 a1 = some r) :
    Calls Try.prog 117 #[.slice A0 l0.length c0, .int .i64 a1] w fun e w' => ∃ v0_ : Value, e = .returned (v0_) ∧ Kd.V (Kd.int .u32) 140 w' w.heap.size (fun k_ => (P0_ k_ ∨ w.heap.size ≤ k_)) v0_ r ∧ Below w.heap.size w w' := by
 have HO0 := aq (show Kd.V (Kd.int .u32) 140 w w.heap.size (fun k_ => (P0_ k_ ∨ w.heap.size ≤ k_)) (.slice A0 l0.length c0) l0 from Kd.tY hs0 (fun k_ hk => .inl hk))
 have HB := aq (Below.refl w.heap.size w)
 have H := h
 unfold zB.f at H
 clear h
 by_cases c3 : (l0.length : Int) = 0
 case pos =>
  rw [if_pos c3] at H
  have c3b0 : ((l0.length : Int) == 0) = true := beq_iff_eq.mpr c3
  have c3b1 : ((l0.length : Int) != 0) = false := bne_eq_false_iff_eq.mpr c3
  clear c3
  obtain rfl := Option.some.inj H
  go_enter Try.func117, Try.ntmps117
  go_wp2
  go_ret
  exact ⟨_, by first | rfl | (simp [eN_, eS_] <;> rfl) | (simp [*, eN_, eS_] <;> rfl), by (with_reducible repeat (first | apply Kd.xZ | apply Kd.yA | apply Kd.xI)); exact HO0.out, by exact ul HB.out⟩
 rw [if_neg c3] at H
 have c3b0 : ((l0.length : Int) == 0) = false := beq_eq_false_iff_ne.mpr c3
 have c3b1 : ((l0.length : Int) != 0) = true := bne_iff_ne.mpr c3
 have c3b2 : ¬ (l0 = []) := fun h_ => c3 (by rw [h_]; rfl)
 obtain ⟨ji4, hji4⟩ : ∃ j_ : Int, (wrap64 (Int.tdiv a1 32)) = j_ := ⟨_, rfl⟩
 first | rw [hji4] at H | simp only [hji4] at H
 have hji4w : (IntKind.i64.wrap (Int.tdiv a1 32)) = ji4 := (iw _).trans hji4
 replace H := gp H
 obtain ⟨c5, H⟩ := H
 have c5b0 := eq_true c5
 have c5b1 : decide (0 ≤ (ji4)) = true := decide_eq_true c5
 clear c5
 replace H := gp H
 obtain ⟨c6, H⟩ := H
 have c6b0 := eq_true c6
 have c6b1 : decide ((ji4 : Int).toNat ≤ 70368744177664) = true := decide_eq_true c6
 clear c6
 obtain ⟨y264, hy264⟩ : ∃ y_ : List Int, y_ = (List.replicate (ji4 : Int).toNat 0) := ⟨_, rfl⟩
 replace H : (zB.l0 k a1 y264 0 l0 (l0.length : Int) 0) = some r := by first | (rw [hy264]; with_reducible exact H) | (have H2_ := (Option.bind_some _ _).symm.trans H; rw [hy264]; with_reducible exact H2_) | (have H2_ := (Option.bind_some _ _).symm.trans H; with_reducible exact H2_) | with_reducible exact H | (rw [hy264]; exact H) | exact H
 have Ny264 := aq hy264
 clear hy264
 have H' := aq H
 clear H
 go_enter Try.func117, Try.ntmps117
 go_wp2_with (first | ((with_reducible refine gD (N := 15) rfl ?_); refine Kd.nE (Kd.int .u32) _ 140 rfl (N := 15) rfl 107 _ _ rfl ji4 rfl rfl Try.underlying107 (.int .u32 0) 4 oW rfl (by decide) (by omega) 0 (ok := fun _ => True) (okp := fun _ => True) rfl (fun _ hk => hk) trivial (of_decide_eq_true (by assumption)) (Nat.le_trans (Nat.mul_le_mul_right _ (of_decide_eq_true (by assumption) : ji4.toNat ≤ 70368744177664)) (by omega)) (Below.refl _ _) (Nat.le_refl _) ?_; intro v265 w7 ho8 hb hg_ hnew_; clear hg_ hnew_; (first | rw [← Ny264.out] at ho8 | (simp only [Int.reduceToNat] at ho8; rw [← Ny264.out] at ho8)); have n0_ := aq (Kd.V_elder' (by (with_reducible repeat (first | apply Kd.xZ | apply Kd.yA | apply Kd.xI)); exact HO0.out) (Kd.nQ ho8) hb); have n1_ := aq (Kd.vN (Kd.R_newM (M := fun k_ => (w.heap.size ≤ k_)) ho8 (bz_ (by exact ul HB.out)) (fun k_ h_ => h_)) (bz_ (by exact ul HB.out))); have n2_ := aq (bt_ (by exact ul HB.out) hb); clear HO0; clear HB; have HO0 := n0_; have HO266 := n1_; have HB := n2_; clear n0_ n1_ n2_; clear hb ho8))
 go_loopg [5, 6, 18] k (fun kq v5 v6 v18 w' => ∃ (x5_1 : List Int) (x6_1 : Int) (x18_1 : Int), v6 = .int .u64 x6_1 ∧ v18 = .int .i64 x18_1 ∧ zV (zB.l0 kq a1 x5_1 x6_1 l0 (l0.length : Int) x18_1 = some r) ∧ zV (kq ≤ k) ∧ zV (Kd.R (Kd.int .u32) 140 w' w.heap.size (fun k_ => (w.heap.size ≤ k_)) v5 x5_1) ∧ zV (Kd.V (Kd.int .u32) 140 w' w.heap.size (fun k_ => (P0_ k_ ∨ w.heap.size ≤ k_) ∧ some k_ ≠ (v5 : Value).ownBlock) (.slice A0 l0.length c0) l0) ∧ zV (Below w.heap.size w w'))
 case atStart => exact ⟨(y264), (0), (0), (by first | rfl | simp [*]), (by first | rfl | simp [*]), H', ⟨Nat.le_refl _⟩, ⟨by (with_reducible repeat (first | apply Kd.wT | apply Kd.vK | apply Kd.tX)); exact Kd.xC HO266.out (fun _ hk => hk.1)⟩, ⟨by (with_reducible repeat (first | apply Kd.xZ | apply Kd.yA | apply Kd.xI)); exact HO0.out⟩, ⟨by exact ul HB.out⟩⟩
 case round =>
  clear H'
  obtain ⟨x5_1, x6_1, x18_1, rfl, rfl, HA, HK1, HO_5, HO_16, HB⟩ := hrel
  cases gk with
  | zero => exact absurd HA.out (by simp [zB.l0])
  | succ k1 =>
   have H := HA.out
   clear HA
   simp only [zB.l0] at H
   by_cases c9 : x18_1 < (l0.length : Int)
   case neg =>
    rw [if_neg c9] at H
    have c9b0 : decide (x18_1 < (l0.length : Int)) = false := decide_eq_false c9
    clear c9
    replace H := gp H
    obtain ⟨c17, H⟩ := H
    have LMc17 := aq c17
    clear c17
    obtain ⟨y271, hy271⟩ : ∃ y_ : List Int, y_ = (x5_1 ++ [(x6_1) % 4294967296]) := ⟨_, rfl⟩
    replace H : ((zC.f k1 y271).bind fun t274 => (some t274)) = some r := by first | (rw [hy271]; with_reducible exact H) | (have H2_ := (Option.bind_some _ _).symm.trans H; rw [hy271]; with_reducible exact H2_) | (have H2_ := (Option.bind_some _ _).symm.trans H; with_reducible exact H2_) | with_reducible exact H | (rw [hy271]; exact H) | exact H
    have Ny271 := aq hy271
    clear hy271
    replace H := Option.bind_eq_some_iff.mp H
    obtain ⟨t274, A180, H⟩ := H
    try dsimp only at H
    have A18 := aq A180
    clear A180
    obtain rfl := Option.some.inj H
    go_wp2_with (first | ((with_reducible refine yC (b := .append) (xs := #[.tmp 38, .tmp 41]) rfl ?_); at_builtin; refine Kd.wL (Kd.int .u32) (w0 := w) w.heap.size rfl (.tmp 38) (.tmp 41) 107 140 (.int .u32 0) 4 rfl Try.underlying107 oW rfl (by decide) (by omega) u5 x5_1 ((x6_1) % 4294967296) [.int .u32 ((x6_1) % 4294967296)] (fun k_ => (w.heap.size ≤ k_)) (fun _ => False) rfl rfl ?aP (fun _ hk => hk.elim) ?aF ?aO ?aB ?aS ?aL ?_; (case aP => exact rfl); (case aB => exact (by exact ul HB.out)); (case aF => exact (fun k_ hk => (Nat.le_trans (bz_ (by exact ul HB.out)) hk))); (case aO => exact (by (with_reducible repeat (first | apply Kd.wT | apply Kd.vK | apply Kd.tX)); exact HO_5.out)); (case aS => exact (bz_ (by exact ul HB.out))); (case aL => have := LMc17.out; omega); intro v272 w19 ho hb hg hat; rw [← Ny271.out] at ho; have n0_ := aq (Kd.V_afterv (ok := (fun k_ => (P0_ k_ ∨ w.heap.size ≤ k_))) (by (with_reducible repeat (first | apply Kd.xZ | apply Kd.yA | apply Kd.xI)); exact HO_16.out) hg hat); have n1_ := aq (hb); have n2_ := aq (ho); clear HO_16; clear HB; clear HO_5; have HO_16 := n0_; have HB := n1_; have HO273 := n2_; clear n0_ n1_ n2_; clear ho hb hg hat; obtain ⟨Ao20, co20, eo20⟩ := Kd.yE HO273.out; subst eo20) | ((with_reducible refine yK (f := 119) rfl ?_); refine wD (some 44) rfl rfl Try.func119 (by kernel_rfl) rfl #[.slice Ao20 y271.length co20] rfl (by simp only [List.map_toArray, List.map_cons, List.map_nil] <;> rfl) ?_; (with_reducible refine (zC.calls k1 (fun k_ => some k_ = (.slice Ao20 y271.length co20 : Value).ownBlock) _ _ y271 t274 _ ?side1 A18.out).mono ?_); (case side1 => exact Kd.R_V (Kd.R_tight rfl (HO273.out))); rintro e w21 ⟨v275, rfl, ho0, hb⟩; refine ⟨_, rfl, ?_⟩; have n0_ := aq (Kd.uC (by (with_reducible repeat (first | apply Kd.xZ | apply Kd.yA | apply Kd.xI)); exact HO_16.out) hb); have n1_ := aq (Kd.yS (by (with_reducible repeat (first | apply Kd.wT | apply Kd.vK | apply Kd.tX)); exact HO273.out) hb); have n2_ := aq (Kd.tG (Kd.tY (ok' := fun k_ => (P0_ k_ ∨ w.heap.size ≤ k_)) ho0 (fun k_ hk_ => Or.elim hk_ (fun hs_ => (.inr (((HO273.out).1 k_ hs_.symm)))) (fun hn_ => (.inr (Nat.le_trans (bz_ (by exact ul HB.out)) hn_))))) (bz_ (by exact ul HB.out))); have n3_ := aq (bt_ (by exact ul HB.out) hb); clear HO_16; clear HO273; clear HB; have HO_16 := n0_; have HO273 := n1_; have HO276 := n2_; have HB := n3_; clear n0_ n1_ n2_ n3_; (try clear ho0)))
    go_ret
    exact ⟨_, by first | rfl | (simp [eN_, eS_] <;> rfl) | (simp only [← hji4]; first | rfl | (simp [eN_, eS_] <;> rfl)) | (simp [*, eN_, eS_] <;> rfl), by (with_reducible repeat (first | apply Kd.xZ | apply Kd.yA | apply Kd.xI)); exact HO276.out, by exact ul HB.out⟩
   rw [if_pos c9] at H
   have c9b0 : decide (x18_1 < (l0.length : Int)) = true := decide_eq_true c9
   clear c9
   replace H := gd H
   obtain ⟨c10b0, H⟩ := H
   replace H := gd H
   obtain ⟨c11b0, H⟩ := H
   obtain ⟨ji12, hji12⟩ : ∃ j_ : Int, (IntKind.u64.wrap (Int.tmod a1 32)) = j_ := ⟨_, rfl⟩
   first | rw [hji12] at H | simp only [hji12] at H
   replace H := gp H
   obtain ⟨c13, H⟩ := H
   have c13b0 := eq_true c13
   have c13b1 : decide (0 ≤ (ji12)) = true := decide_eq_true c13
   clear c13
   obtain ⟨ji14, hji14⟩ : ∃ j_ : Int, (shl .u64 (IntKind.u64.wrap (rd l0 x18_1)) (ji12)) = j_ := ⟨_, rfl⟩
   first | rw [hji14] at H | simp only [hji14] at H
   have hji14_ : (IntKind.u64.wrap ((IntKind.u64.wrap (rd l0 x18_1)) * 2 ^ min (ji12).toNat 64)) = ji14 := hji14
   have hji14z : (ji12) ≤ 64 → (IntKind.u64.wrap ((IntKind.u64.wrap (rd l0 x18_1)) * 2 ^ (ji12).toNat)) = ji14 := nB hji14
   replace H := gp H
   obtain ⟨c15, H⟩ := H
   have LMc15 := aq c15
   clear c15
   obtain ⟨y268, hy268⟩ : ∃ y_ : List Int, y_ = (x5_1 ++ [(Go.bits .or .u64 x6_1 (ji14)) % 4294967296]) := ⟨_, rfl⟩
   replace H : (zB.l0 k1 a1 y268 ((Go.bits .or .u64 x6_1 (ji14)) / 4294967296) l0 (l0.length : Int) (wrap64 (x18_1 + 1))) = some r := by first | (rw [hy268]; with_reducible exact H) | (have H2_ := (Option.bind_some _ _).symm.trans H; rw [hy268]; with_reducible exact H2_) | (have H2_ := (Option.bind_some _ _).symm.trans H; with_reducible exact H2_) | with_reducible exact H | (rw [hy268]; exact H) | exact H
   have Ny268 := aq hy268
   clear hy268
   have H' := aq H
   clear H
   have p267 : 0 ≤ (x18_1 : Int) := of_decide_eq_true (by assumption)
   have q267 : x18_1 < (l0.length : Int) := of_decide_eq_true (by assumption)
   obtain ⟨ad267, e267, hx267_0⟩ := Kd.vU (Kd.wV HO_16.out).2.2 x18_1 p267 q267
   cases e267
   replace p267 := eq_true p267
   replace q267 := eq_true q267
   go_wp2_with (first | ((with_reducible refine yC (b := .append) (xs := #[.tmp 30, .tmp 33]) rfl ?_); at_builtin; refine Kd.wL (Kd.int .u32) (w0 := w) w.heap.size rfl (.tmp 30) (.tmp 33) 107 140 (.int .u32 0) 4 rfl Try.underlying107 oW rfl (by decide) (by omega) u5 x5_1 ((Go.bits .or .u64 x6_1 (ji14)) % 4294967296) [.int .u32 ((Go.bits .or .u64 x6_1 (ji14)) % 4294967296)] (fun k_ => (w.heap.size ≤ k_)) (fun _ => False) rfl rfl ?aP (fun _ hk => hk.elim) ?aF ?aO ?aB ?aS ?aL ?_; (case aP => exact rfl); (case aB => exact (by exact ul HB.out)); (case aF => exact (fun k_ hk => (Nat.le_trans (bz_ (by exact ul HB.out)) hk))); (case aO => exact (by (with_reducible repeat (first | apply Kd.wT | apply Kd.vK | apply Kd.tX)); exact HO_5.out)); (case aS => exact (bz_ (by exact ul HB.out))); (case aL => have := LMc15.out; omega); intro v269 w16 ho hb hg hat; rw [← Ny268.out] at ho; have n0_ := aq (Kd.V_afterv (ok := (fun k_ => (P0_ k_ ∨ w.heap.size ≤ k_))) (by (with_reducible repeat (first | apply Kd.xZ | apply Kd.yA | apply Kd.xI)); exact HO_16.out) hg hat); have n1_ := aq (hb); have n2_ := aq (ho); clear HO_16; clear HB; clear HO_5; have HO_16 := n0_; have HB := n1_; have HO270 := n2_; clear n0_ n1_ n2_; clear ho hb hg hat))
   (first | go_roundg k1 | (refine Handed.intro k1 ?measure ?_; rotate_left; go_step; (repeat apply Exists.intro); (refine ⟨?rel, ?fr_⟩); (case fr_ => (simp only [add_plain]; rfl))))
   case measure => have := HK1.out; omega
   case rel => exact ⟨(y268), ((Go.bits .or .u64 x6_1 (ji14)) / 4294967296), (wrap64 (x18_1 + 1)), (by first | rfl | (simp; done) | (simp only [← hji14] <;> (first | rfl | simp)) | (simp [*]; done)), (by first | rfl | simp [*]), H', ⟨by have := HK1.out; omega⟩, ⟨by (with_reducible repeat (first | apply Kd.wT | apply Kd.vK | apply Kd.tX)); exact HO270.out⟩, ⟨by (with_reducible repeat (first | apply Kd.xZ | apply Kd.yA | apply Kd.xI)); exact HO_16.out⟩, ⟨by exact ul HB.out⟩⟩
def zH.l0 : Nat → List Int → List Int → List Int → Int → Int → Option (List Int)
 | 0, _, _, _, _, _ => none
 | k + 1, x0, x1, x5, x6, x7 => if x7 < (x0.length : Int) then (if 0 ≤ x7 then (if x7 < (x1.length : Int) then (if (wrap64 ((wrap64 ((wrap64 (rd x0 x7)) - x6)) - (wrap64 (rd x1 x7)))) < 0 then (if x5.length < 35184372088832 then (zH.l0 k x0 x1 (x5 ++ [(wrap64 ((wrap64 ((wrap64 ((wrap64 (rd x0 x7)) - x6)) - (wrap64 (rd x1 x7)))) + 4294967296)) % 4294967296]) 1 (wrap64 (x7 + 1))) else (none)) else (if x5.length < 35184372088832 then (zH.l0 k x0 x1 (x5 ++ [(wrap64 ((wrap64 ((wrap64 (rd x0 x7)) - x6)) - (wrap64 (rd x1 x7)))) % 4294967296]) 0 (wrap64 (x7 + 1))) else (none))) else (if (wrap64 ((wrap64 (rd x0 x7)) - x6)) < 0 then (if x5.length < 35184372088832 then (zH.l0 k x0 x1 (x5 ++ [(wrap64 ((wrap64 ((wrap64 (rd x0 x7)) - x6)) + 4294967296)) % 4294967296]) 1 (wrap64 (x7 + 1))) else (none)) else (if x5.length < 35184372088832 then (zH.l0 k x0 x1 (x5 ++ [(wrap64 ((wrap64 (rd x0 x7)) - x6)) % 4294967296]) 0 (wrap64 (x7 + 1))) else (none)))) else (none)) else ((zC.f k x5).bind fun t280 => (some t280))
def zH.f (k : Nat) (l0 : List Int) (l1 : List Int) : Option (List Int) := zH.l0 k l0 l1 (([] : List Int)) 0 0
theorem zH.calls (k : Nat) (A0 : Option Addr) (c0 : Nat) (l0 : List Int) (A1 : Option Addr) (c1 : Nat) (l1 : List Int) (r : List Int) (w : World) (hr0 : Kd.C (Kd.int .u32) w A0 l0.length l0) (hc0 : l0.length ≤ c0) (hr1 : Kd.C (Kd.int .u32) w A1 l1.length l1) (hc1 : l1.length ≤ c1) (h : zH.f k l0 l1 = some r) :
    Calls Try.prog 118 #[.slice A0 l0.length c0, .slice A1 l1.length c1] w fun e w' => ∃ v0_ : Value, e = .returned (v0_) ∧ Kd.V (Kd.int .u32) 140 w' w.heap.size (fun k_ => (w.heap.size ≤ k_)) v0_ r ∧ Below w.heap.size w w' := by
 have HR0 := aq hr0
 have HC0 := aq hc0
 clear hr0 hc0
 have HR1 := aq hr1
 have HC1 := aq hc1
 clear hr1 hc1
 have HB := aq (Below.refl w.heap.size w)
 have H := h
 unfold zH.f at H
 clear h
 obtain ⟨y277, hy277⟩ : ∃ y_ : List Int, y_ = (([] : List Int)) := ⟨_, rfl⟩
 replace H : (zH.l0 k l0 l1 y277 0 0) = some r := by first | (rw [hy277]; with_reducible exact H) | (have H2_ := (Option.bind_some _ _).symm.trans H; rw [hy277]; with_reducible exact H2_) | (have H2_ := (Option.bind_some _ _).symm.trans H; with_reducible exact H2_) | with_reducible exact H | (rw [hy277]; exact H) | exact H
 have Ny277 := aq hy277
 clear hy277
 have H' := aq H
 clear H
 go_enter Try.func118, Try.ntmps118
 go_wp2_with (first | ((with_reducible refine gD (N := 9) rfl ?_); refine Kd.R_lit (Kd.int .u32) _ 140 ?hg (N := 9) ?hd (xs := ([] : List Int)) (inner := []) (ok := fun _ => True) (okp := fun _ => True) ?hr ?hp (fun _ hk => hk) trivial (Below.refl _ _) (Nat.le_refl _) (by simp) ?_; (case hd => rfl); (case hg => rfl); (case hr => first | (go_simp; done) | (go_simp; rfl)); (case hp => exact (wH.none _ _)); intro v278 w3 ho4 hb hg_ hnew_; clear hg_ hnew_; (first | rw [← Ny277.out] at ho4 | (simp only [Int.reduceToNat] at ho4; rw [← Ny277.out] at ho4)); have n0_ := aq (Kd.vN (Kd.R_newM (M := fun k_ => (w.heap.size ≤ k_)) ho4 (bz_ (by exact ul HB.out)) (fun k_ h_ => h_)) (bz_ (by exact ul HB.out))); have n1_ := aq (bt_ (by exact ul HB.out) hb); clear HB; have HO279 := n0_; have HB := n1_; clear n0_ n1_; clear hb ho4))
 go_loopg [5, 6, 7] k (fun kq v5 v6 v7 w' => ∃ (x5_1 : List Int) (x6_1 : Int) (x7_1 : Int), v6 = .int .i64 x6_1 ∧ v7 = .int .i64 x7_1 ∧ zV (zH.l0 kq l0 l1 x5_1 x6_1 x7_1 = some r) ∧ zV (kq ≤ k) ∧ zV (Kd.R (Kd.int .u32) 140 w' w.heap.size (fun k_ => (w.heap.size ≤ k_)) v5 x5_1) ∧ zV (Below w.heap.size w w'))
 case atStart => exact ⟨(y277), (0), (0), (by first | rfl | simp [*]), (by first | rfl | simp [*]), H', ⟨Nat.le_refl _⟩, ⟨by (with_reducible repeat (first | apply Kd.wT | apply Kd.vK | apply Kd.tX)); exact Kd.xC HO279.out (fun _ hk => hk.1)⟩, ⟨by exact ul HB.out⟩⟩
 case round =>
  clear H'
  obtain ⟨x5_1, x6_1, x7_1, rfl, rfl, HA, HK1, HO_5, HB⟩ := hrel
  cases gk with
  | zero => exact absurd HA.out (by simp [zH.l0])
  | succ k1 =>
   have H := HA.out
   clear HA
   simp only [zH.l0] at H
   by_cases c5 : x7_1 < (l0.length : Int)
   case neg =>
    rw [if_neg c5] at H
    have c5b0 : decide (x7_1 < (l0.length : Int)) = false := decide_eq_false c5
    clear c5
    replace H := Option.bind_eq_some_iff.mp H
    obtain ⟨t280, A180, H⟩ := H
    try dsimp only at H
    have A18 := aq A180
    clear A180
    obtain rfl := Option.some.inj H
    obtain ⟨Ao19, co19, eo19⟩ := Kd.yE HO_5.out
    subst eo19
    go_wp2_with (first | ((with_reducible refine yK (f := 119) rfl ?_); refine wD (some 44) rfl rfl Try.func119 (by kernel_rfl) rfl #[.slice Ao19 x5_1.length co19] rfl (by simp only [List.map_toArray, List.map_cons, List.map_nil] <;> rfl) ?_; (with_reducible refine (zC.calls k1 (fun k_ => some k_ = (.slice Ao19 x5_1.length co19 : Value).ownBlock) _ _ x5_1 t280 _ ?side1 A18.out).mono ?_); (case side1 => exact Kd.R_V (Kd.R_tight rfl (HO_5.out))); rintro e w20 ⟨v281, rfl, ho0, hb⟩; refine ⟨_, rfl, ?_⟩; have n0_ := aq (Kd.yS (by (with_reducible repeat (first | apply Kd.wT | apply Kd.vK | apply Kd.tX)); exact HO_5.out) hb); have n1_ := aq (Kd.tG (Kd.tY (ok' := fun k_ => (w.heap.size ≤ k_)) ho0 (fun k_ hk_ => Or.elim hk_ (fun hs_ => ((HO_5.out).1 k_ hs_.symm)) (fun hn_ => (Nat.le_trans (bz_ (by exact ul HB.out)) hn_)))) (bz_ (by exact ul HB.out))); have n2_ := aq (bt_ (by exact ul HB.out) hb); clear HO_5; clear HB; have HO_5 := n0_; have HO282 := n1_; have HB := n2_; clear n0_ n1_ n2_; (try clear ho0)))
    go_ret
    exact ⟨_, by first | rfl | (simp [eN_, eS_] <;> rfl) | (simp [*, eN_, eS_] <;> rfl), by (with_reducible repeat (first | apply Kd.xZ | apply Kd.yA | apply Kd.xI)); exact HO282.out, by exact ul HB.out⟩
   rw [if_pos c5] at H
   have c5b0 : decide (x7_1 < (l0.length : Int)) = true := decide_eq_true c5
   clear c5
   replace H := gd H
   obtain ⟨c6b0, H⟩ := H
   by_cases c7 : x7_1 < (l1.length : Int)
   case neg =>
    rw [if_neg c7] at H
    have c7b0 : decide (x7_1 < (l1.length : Int)) = false := decide_eq_false c7
    clear c7
    by_cases c13 : (wrap64 ((wrap64 (rd l0 x7_1)) - x6_1)) < 0
    case neg =>
     rw [if_neg c13] at H
     have c13b0 : decide ((wrap64 ((wrap64 (rd l0 x7_1)) - x6_1)) < 0) = false := decide_eq_false c13
     clear c13
     replace H := gp H
     obtain ⟨c16, H⟩ := H
     have LMc16 := aq c16
     clear c16
     obtain ⟨y294, hy294⟩ : ∃ y_ : List Int, y_ = (x5_1 ++ [(wrap64 ((wrap64 (rd l0 x7_1)) - x6_1)) % 4294967296]) := ⟨_, rfl⟩
     replace H : (zH.l0 k1 l0 l1 y294 0 (wrap64 (x7_1 + 1))) = some r := by first | (rw [hy294]; with_reducible exact H) | (have H2_ := (Option.bind_some _ _).symm.trans H; rw [hy294]; with_reducible exact H2_) | (have H2_ := (Option.bind_some _ _).symm.trans H; with_reducible exact H2_) | with_reducible exact H | (rw [hy294]; exact H) | exact H
     have Ny294 := aq hy294
     clear hy294
     have H' := aq H
     clear H
     have p283 : 0 ≤ (x7_1 : Int) := of_decide_eq_true (by assumption)
     have q283 : x7_1 < (l0.length : Int) := of_decide_eq_true (by assumption)
     obtain ⟨ad283, e283, hx283_0⟩ := Kd.vU HR0.out x7_1 p283 q283
     cases e283
     replace hx283_0 := bc HB.out hx283_0
     replace p283 := eq_true p283
     replace q283 := eq_true q283
     go_wp2_with (first | ((with_reducible refine yC (b := .append) (xs := #[.tmp 38, .tmp 41]) rfl ?_); at_builtin; refine Kd.wL (Kd.int .u32) (w0 := w) w.heap.size rfl (.tmp 38) (.tmp 41) 107 140 (.int .u32 0) 4 rfl Try.underlying107 oW rfl (by decide) (by omega) u5 x5_1 ((wrap64 ((wrap64 (rd l0 x7_1)) - x6_1)) % 4294967296) [.int .u32 ((wrap64 ((wrap64 (rd l0 x7_1)) - x6_1)) % 4294967296)] (fun k_ => (w.heap.size ≤ k_)) (fun _ => False) rfl rfl ?aP (fun _ hk => hk.elim) ?aF ?aO ?aB ?aS ?aL ?_; (case aP => exact rfl); (case aB => exact (by exact ul HB.out)); (case aF => exact (fun k_ hk => (Nat.le_trans (bz_ (by exact ul HB.out)) hk))); (case aO => exact (by (with_reducible repeat (first | apply Kd.wT | apply Kd.vK | apply Kd.tX)); exact HO_5.out)); (case aS => exact (bz_ (by exact ul HB.out))); (case aL => have := LMc16.out; omega); intro v295 w17 ho hb hg hat; rw [← Ny294.out] at ho; have n0_ := aq (hb); have n1_ := aq (ho); clear HB; clear HO_5; have HB := n0_; have HO296 := n1_; clear n0_ n1_; clear ho hb hg hat))
     (first | go_roundg k1 | (refine Handed.intro k1 ?measure ?_; rotate_left; go_step; (repeat apply Exists.intro); (refine ⟨?rel, ?fr_⟩); (case fr_ => (simp only [add_plain]; rfl))))
     case measure => have := HK1.out; omega
     case rel => exact ⟨(y294), (0), (wrap64 (x7_1 + 1)), (by first | rfl | simp [*]), (by first | rfl | simp [*]), H', ⟨by have := HK1.out; omega⟩, ⟨by (with_reducible repeat (first | apply Kd.wT | apply Kd.vK | apply Kd.tX)); exact HO296.out⟩, ⟨by exact ul HB.out⟩⟩
    rw [if_pos c13] at H
    have c13b0 : decide ((wrap64 ((wrap64 (rd l0 x7_1)) - x6_1)) < 0) = true := decide_eq_true c13
    clear c13
    replace H := gp H
    obtain ⟨c14, H⟩ := H
    have LMc14 := aq c14
    clear c14
    obtain ⟨y291, hy291⟩ : ∃ y_ : List Int, y_ = (x5_1 ++ [(wrap64 ((wrap64 ((wrap64 (rd l0 x7_1)) - x6_1)) + 4294967296)) % 4294967296]) := ⟨_, rfl⟩
    replace H : (zH.l0 k1 l0 l1 y291 1 (wrap64 (x7_1 + 1))) = some r := by first | (rw [hy291]; with_reducible exact H) | (have H2_ := (Option.bind_some _ _).symm.trans H; rw [hy291]; with_reducible exact H2_) | (have H2_ := (Option.bind_some _ _).symm.trans H; with_reducible exact H2_) | with_reducible exact H | (rw [hy291]; exact H) | exact H
    have Ny291 := aq hy291
    clear hy291
    have H' := aq H
    clear H
    have p283 : 0 ≤ (x7_1 : Int) := of_decide_eq_true (by assumption)
    have q283 : x7_1 < (l0.length : Int) := of_decide_eq_true (by assumption)
    obtain ⟨ad283, e283, hx283_0⟩ := Kd.vU HR0.out x7_1 p283 q283
    cases e283
    replace hx283_0 := bc HB.out hx283_0
    replace p283 := eq_true p283
    replace q283 := eq_true q283
    go_wp2_with (first | ((with_reducible refine yC (b := .append) (xs := #[.tmp 38, .tmp 41]) rfl ?_); at_builtin; refine Kd.wL (Kd.int .u32) (w0 := w) w.heap.size rfl (.tmp 38) (.tmp 41) 107 140 (.int .u32 0) 4 rfl Try.underlying107 oW rfl (by decide) (by omega) u5 x5_1 ((wrap64 ((wrap64 ((wrap64 (rd l0 x7_1)) - x6_1)) + 4294967296)) % 4294967296) [.int .u32 ((wrap64 ((wrap64 ((wrap64 (rd l0 x7_1)) - x6_1)) + 4294967296)) % 4294967296)] (fun k_ => (w.heap.size ≤ k_)) (fun _ => False) rfl rfl ?aP (fun _ hk => hk.elim) ?aF ?aO ?aB ?aS ?aL ?_; (case aP => exact rfl); (case aB => exact (by exact ul HB.out)); (case aF => exact (fun k_ hk => (Nat.le_trans (bz_ (by exact ul HB.out)) hk))); (case aO => exact (by (with_reducible repeat (first | apply Kd.wT | apply Kd.vK | apply Kd.tX)); exact HO_5.out)); (case aS => exact (bz_ (by exact ul HB.out))); (case aL => have := LMc14.out; omega); intro v292 w15 ho hb hg hat; rw [← Ny291.out] at ho; have n0_ := aq (hb); have n1_ := aq (ho); clear HB; clear HO_5; have HB := n0_; have HO293 := n1_; clear n0_ n1_; clear ho hb hg hat))
    (first | go_roundg k1 | (refine Handed.intro k1 ?measure ?_; rotate_left; go_step; (repeat apply Exists.intro); (refine ⟨?rel, ?fr_⟩); (case fr_ => (simp only [add_plain]; rfl))))
    case measure => have := HK1.out; omega
    case rel => exact ⟨(y291), (1), (wrap64 (x7_1 + 1)), (by first | rfl | simp [*]), (by first | rfl | simp [*]), H', ⟨by have := HK1.out; omega⟩, ⟨by (with_reducible repeat (first | apply Kd.wT | apply Kd.vK | apply Kd.tX)); exact HO293.out⟩, ⟨by exact ul HB.out⟩⟩
   rw [if_pos c7] at H
   have c7b0 : decide (x7_1 < (l1.length : Int)) = true := decide_eq_true c7
   clear c7
   by_cases c8 : (wrap64 ((wrap64 ((wrap64 (rd l0 x7_1)) - x6_1)) - (wrap64 (rd l1 x7_1)))) < 0
   case neg =>
    rw [if_neg c8] at H
    have c8b0 : decide ((wrap64 ((wrap64 ((wrap64 (rd l0 x7_1)) - x6_1)) - (wrap64 (rd l1 x7_1)))) < 0) = false := decide_eq_false c8
    clear c8
    replace H := gp H
    obtain ⟨c11, H⟩ := H
    have LMc11 := aq c11
    clear c11
    obtain ⟨y288, hy288⟩ : ∃ y_ : List Int, y_ = (x5_1 ++ [(wrap64 ((wrap64 ((wrap64 (rd l0 x7_1)) - x6_1)) - (wrap64 (rd l1 x7_1)))) % 4294967296]) := ⟨_, rfl⟩
    replace H : (zH.l0 k1 l0 l1 y288 0 (wrap64 (x7_1 + 1))) = some r := by first | (rw [hy288]; with_reducible exact H) | (have H2_ := (Option.bind_some _ _).symm.trans H; rw [hy288]; with_reducible exact H2_) | (have H2_ := (Option.bind_some _ _).symm.trans H; with_reducible exact H2_) | with_reducible exact H | (rw [hy288]; exact H) | exact H
    have Ny288 := aq hy288
    clear hy288
    have H' := aq H
    clear H
    have p283 : 0 ≤ (x7_1 : Int) := of_decide_eq_true (by assumption)
    have q283 : x7_1 < (l0.length : Int) := of_decide_eq_true (by assumption)
    obtain ⟨ad283, e283, hx283_0⟩ := Kd.vU HR0.out x7_1 p283 q283
    cases e283
    replace hx283_0 := bc HB.out hx283_0
    replace p283 := eq_true p283
    replace q283 := eq_true q283
    have p284 : 0 ≤ (x7_1 : Int) := of_decide_eq_true (by assumption)
    have q284 : x7_1 < (l1.length : Int) := of_decide_eq_true (by assumption)
    obtain ⟨ad284, e284, hx284_0⟩ := Kd.vU HR1.out x7_1 p284 q284
    cases e284
    replace hx284_0 := bc HB.out hx284_0
    replace p284 := eq_true p284
    replace q284 := eq_true q284
    go_wp2_with (first | ((with_reducible refine yC (b := .append) (xs := #[.tmp 38, .tmp 41]) rfl ?_); at_builtin; refine Kd.wL (Kd.int .u32) (w0 := w) w.heap.size rfl (.tmp 38) (.tmp 41) 107 140 (.int .u32 0) 4 rfl Try.underlying107 oW rfl (by decide) (by omega) u5 x5_1 ((wrap64 ((wrap64 ((wrap64 (rd l0 x7_1)) - x6_1)) - (wrap64 (rd l1 x7_1)))) % 4294967296) [.int .u32 ((wrap64 ((wrap64 ((wrap64 (rd l0 x7_1)) - x6_1)) - (wrap64 (rd l1 x7_1)))) % 4294967296)] (fun k_ => (w.heap.size ≤ k_)) (fun _ => False) rfl rfl ?aP (fun _ hk => hk.elim) ?aF ?aO ?aB ?aS ?aL ?_; (case aP => exact rfl); (case aB => exact (by exact ul HB.out)); (case aF => exact (fun k_ hk => (Nat.le_trans (bz_ (by exact ul HB.out)) hk))); (case aO => exact (by (with_reducible repeat (first | apply Kd.wT | apply Kd.vK | apply Kd.tX)); exact HO_5.out)); (case aS => exact (bz_ (by exact ul HB.out))); (case aL => have := LMc11.out; omega); intro v289 w12 ho hb hg hat; rw [← Ny288.out] at ho; have n0_ := aq (hb); have n1_ := aq (ho); clear HB; clear HO_5; have HB := n0_; have HO290 := n1_; clear n0_ n1_; clear ho hb hg hat))
    (first | go_roundg k1 | (refine Handed.intro k1 ?measure ?_; rotate_left; go_step; (repeat apply Exists.intro); (refine ⟨?rel, ?fr_⟩); (case fr_ => (simp only [add_plain]; rfl))))
    case measure => have := HK1.out; omega
    case rel => exact ⟨(y288), (0), (wrap64 (x7_1 + 1)), (by first | rfl | simp [*]), (by first | rfl | simp [*]), H', ⟨by have := HK1.out; omega⟩, ⟨by (with_reducible repeat (first | apply Kd.wT | apply Kd.vK | apply Kd.tX)); exact HO290.out⟩, ⟨by exact ul HB.out⟩⟩
   rw [if_pos c8] at H
   have c8b0 : decide ((wrap64 ((wrap64 ((wrap64 (rd l0 x7_1)) - x6_1)) - (wrap64 (rd l1 x7_1)))) < 0) = true := decide_eq_true c8
   clear c8
   replace H := gp H
   obtain ⟨c9, H⟩ := H
   have LMc9 := aq c9
   clear c9
   obtain ⟨y285, hy285⟩ : ∃ y_ : List Int, y_ = (x5_1 ++ [(wrap64 ((wrap64 ((wrap64 ((wrap64 (rd l0 x7_1)) - x6_1)) - (wrap64 (rd l1 x7_1)))) + 4294967296)) % 4294967296]) := ⟨_, rfl⟩
   replace H : (zH.l0 k1 l0 l1 y285 1 (wrap64 (x7_1 + 1))) = some r := by first | (rw [hy285]; with_reducible exact H) | (have H2_ := (Option.bind_some _ _).symm.trans H; rw [hy285]; with_reducible exact H2_) | (have H2_ := (Option.bind_some _ _).symm.trans H; with_reducible exact H2_) | with_reducible exact H | (rw [hy285]; exact H) | exact H
   have Ny285 := aq hy285
   clear hy285
   have H' := aq H
   clear H
   have p283 : 0 ≤ (x7_1 : Int) := of_decide_eq_true (by assumption)
   have q283 : x7_1 < (l0.length : Int) := of_decide_eq_true (by assumption)
   obtain ⟨ad283, e283, hx283_0⟩ := Kd.vU HR0.out x7_1 p283 q283
   cases e283
   replace hx283_0 := bc HB.out hx283_0
   replace p283 := eq_true p283
   replace q283 := eq_true q283
   have p284 : 0 ≤ (x7_1 : Int) := of_decide_eq_true (by assumption)
   have q284 : x7_1 < (l1.length : Int) := of_decide_eq_true (by assumption)
   obtain ⟨ad284, e284, hx284_0⟩ := Kd.vU HR1.out x7_1 p284 q284
   cases e284
   replace hx284_0 := bc HB.out hx284_0
   replace p284 := eq_true p284
   replace q284 := eq_true q284
   go_wp2_with (first | ((with_reducible refine yC (b := .append) (xs := #[.tmp 38, .tmp 41]) rfl ?_); at_builtin; refine Kd.wL (Kd.int .u32) (w0 := w) w.heap.size rfl (.tmp 38) (.tmp 41) 107 140 (.int .u32 0) 4 rfl Try.underlying107 oW rfl (by decide) (by omega) u5 x5_1 ((wrap64 ((wrap64 ((wrap64 ((wrap64 (rd l0 x7_1)) - x6_1)) - (wrap64 (rd l1 x7_1)))) + 4294967296)) % 4294967296) [.int .u32 ((wrap64 ((wrap64 ((wrap64 ((wrap64 (rd l0 x7_1)) - x6_1)) - (wrap64 (rd l1 x7_1)))) + 4294967296)) % 4294967296)] (fun k_ => (w.heap.size ≤ k_)) (fun _ => False) rfl rfl ?aP (fun _ hk => hk.elim) ?aF ?aO ?aB ?aS ?aL ?_; (case aP => exact rfl); (case aB => exact (by exact ul HB.out)); (case aF => exact (fun k_ hk => (Nat.le_trans (bz_ (by exact ul HB.out)) hk))); (case aO => exact (by (with_reducible repeat (first | apply Kd.wT | apply Kd.vK | apply Kd.tX)); exact HO_5.out)); (case aS => exact (bz_ (by exact ul HB.out))); (case aL => have := LMc9.out; omega); intro v286 w10 ho hb hg hat; rw [← Ny285.out] at ho; have n0_ := aq (hb); have n1_ := aq (ho); clear HB; clear HO_5; have HB := n0_; have HO287 := n1_; clear n0_ n1_; clear ho hb hg hat))
   (first | go_roundg k1 | (refine Handed.intro k1 ?measure ?_; rotate_left; go_step; (repeat apply Exists.intro); (refine ⟨?rel, ?fr_⟩); (case fr_ => (simp only [add_plain]; rfl))))
   case measure => have := HK1.out; omega
   case rel => exact ⟨(y285), (1), (wrap64 (x7_1 + 1)), (by first | rfl | simp [*]), (by first | rfl | simp [*]), H', ⟨by have := HK1.out; omega⟩, ⟨by (with_reducible repeat (first | apply Kd.wT | apply Kd.vK | apply Kd.tX)); exact HO287.out⟩, ⟨by exact ul HB.out⟩⟩
def zL.l0 : Nat → List Int → List Int → Int → Option (List Int)
 | 0, _, _, _ => none
 | k + 1, x0, x1, x5 => if x5 ≥ 0 then ((zB.f k x1 x5).bind fun t299 => ((zJ.f k t299 x0).bind fun t302 => (if t302 ≤ 0 then ((zH.f k x0 t299).bind fun t303 => (zL.l0 k t303 x1 (wrap64 (x5 - 1)))) else (zL.l0 k x0 x1 (wrap64 (x5 - 1)))))) else (some x0)
def zL.f (k : Nat) (l0 : List Int) (l1 : List Int) : Option (List Int) := (yX.f k l0).bind fun t297 => ((yX.f k l1).bind fun t298 => (zL.l0 k l0 l1 (wrap64 (t297 - t298))))
theorem zL.calls (k : Nat) (P0_ : Nat → Prop) (A0 : Option Addr) (c0 : Nat) (l0 : List Int) (P1_ : Nat → Prop) (A1 : Option Addr) (c1 : Nat) (l1 : List Int) (r : List Int) (w : World) (hs0 : Kd.V (Kd.int .u32) 140 w w.heap.size (fun k_ => P0_ k_) (.slice A0 l0.length c0) l0) (hs1 : Kd.V (Kd.int .u32) 140 w w.heap.size (fun k_ => P1_ k_) (.slice A1 l1.length c1) l1) (h : zL.f k l0 l1 = some r) :
    Calls Try.prog 84 #[.slice A0 l0.length c0, .slice A1 l1.length c1] w fun e w' => ∃ v0_ : Value, e = .returned (v0_) ∧ Kd.V (Kd.int .u32) 140 w' w.heap.size (fun k_ => ((P0_ k_ ∨ P1_ k_) ∨ w.heap.size ≤ k_)) v0_ r ∧ Below w.heap.size w w' := by
 have HO0 := aq (show Kd.V (Kd.int .u32) 140 w w.heap.size (fun k_ => ((P0_ k_ ∨ P1_ k_) ∨ w.heap.size ≤ k_)) (.slice A0 l0.length c0) l0 from Kd.tY hs0 (fun k_ hk => .inl (.inl hk)))
 have HO1 := aq (show Kd.V (Kd.int .u32) 140 w w.heap.size (fun k_ => ((P0_ k_ ∨ P1_ k_) ∨ w.heap.size ≤ k_)) (.slice A1 l1.length c1) l1 from Kd.tY hs1 (fun k_ hk => .inl (.inr hk)))
 have HB := aq (Below.refl w.heap.size w)
 have H := h
 unfold zL.f at H
 clear h
 replace H := Option.bind_eq_some_iff.mp H
 obtain ⟨t297, A30, H⟩ := H
 try dsimp only at H
 have A3 := aq A30
 clear A30
 replace H := Option.bind_eq_some_iff.mp H
 obtain ⟨t298, A40, H⟩ := H
 try dsimp only at H
 have A4 := aq A40
 clear A40
 have H' := aq H
 clear H
 go_enter Try.func84, Try.ntmps84
 go_wp2_with (first | ((with_reducible refine yK (f := 116) rfl ?_); refine wD (some 8) rfl rfl Try.func116 (by kernel_rfl) rfl #[.slice A0 l0.length c0] rfl (by simp only [List.map_toArray, List.map_cons, List.map_nil] <;> rfl) ?_; (with_reducible refine (yX.calls k _ _ l0 t297 _ ?side1 ?side2 A3.out).mono ?_); (case side1 => repeat (first | exact (Kd.wV HO0.out).2.2 | (with_reducible refine Kd.qS ?_ _) | (with_reducible refine Kd.qT ?_ _) | (with_reducible refine Kd.oJ ?_))); (case side2 => exact (Kd.wV HO0.out).2.1); rintro e w' ⟨rfl, ⟨nd, rfl⟩⟩; refine ⟨_, rfl, ?_⟩) | ((with_reducible refine yK (f := 116) rfl ?_); refine wD (some 10) rfl rfl Try.func116 (by kernel_rfl) rfl #[.slice A1 l1.length c1] rfl (by simp only [List.map_toArray, List.map_cons, List.map_nil] <;> rfl) ?_; (with_reducible refine (yX.calls k _ _ l1 t298 _ ?side1 ?side2 A4.out).mono ?_); (case side1 => repeat (first | exact (Kd.wV HO1.out).2.2 | (with_reducible refine Kd.qS ?_ _) | (with_reducible refine Kd.qT ?_ _) | (with_reducible refine Kd.oJ ?_))); (case side2 => exact (Kd.wV HO1.out).2.1); rintro e w' ⟨rfl, ⟨nd, rfl⟩⟩; refine ⟨_, rfl, ?_⟩))
 go_loopg [0, 5] k (fun kq v0 v5 w' => ∃ (x0_1 : List Int) (x5_1 : Int), v5 = .int .i64 x5_1 ∧ zV (zL.l0 kq x0_1 l1 x5_1 = some r) ∧ zV (kq ≤ k) ∧ zV (Kd.V (Kd.int .u32) 140 w' w.heap.size (fun k_ => ((P0_ k_ ∨ P1_ k_) ∨ w.heap.size ≤ k_)) v0 x0_1) ∧ zV (Kd.V (Kd.int .u32) 140 w' w.heap.size (fun k_ => ((P0_ k_ ∨ P1_ k_) ∨ w.heap.size ≤ k_)) (.slice A1 l1.length c1) l1) ∧ zV (Below w.heap.size w w'))
 case atStart => exact ⟨(l0), (wrap64 (t297 - t298)), (by first | rfl | simp [*]), H', ⟨Nat.le_refl _⟩, ⟨by (with_reducible repeat (first | apply Kd.xZ | apply Kd.yA | apply Kd.xI)); exact HO0.out⟩, ⟨by (with_reducible repeat (first | apply Kd.xZ | apply Kd.yA | apply Kd.xI)); exact HO1.out⟩, ⟨by exact ul HB.out⟩⟩
 case round =>
  clear H'
  obtain ⟨x0_1, x5_1, rfl, HA, HK1, HO_0, HO_1, HB⟩ := hrel
  cases gk with
  | zero => exact absurd HA.out (by simp [zL.l0])
  | succ k1 =>
   have H := HA.out
   clear HA
   simp only [zL.l0] at H
   by_cases c5 : x5_1 ≥ 0
   case neg =>
    rw [if_neg c5] at H
    have c5b0 : decide (0 ≤ x5_1) = false := decide_eq_false c5
    clear c5
    obtain rfl := Option.some.inj H
    go_wp2
    go_ret
    exact ⟨_, by first | rfl | (simp [eN_, eS_] <;> rfl) | (simp [*, eN_, eS_] <;> rfl), by (with_reducible repeat (first | apply Kd.xZ | apply Kd.yA | apply Kd.xI)); exact HO_0.out, by exact ul HB.out⟩
   rw [if_pos c5] at H
   have c5b0 : decide (0 ≤ x5_1) = true := decide_eq_true c5
   clear c5
   replace H := Option.bind_eq_some_iff.mp H
   obtain ⟨t299, A60, H⟩ := H
   try dsimp only at H
   have A6 := aq A60
   clear A60
   replace H := Option.bind_eq_some_iff.mp H
   obtain ⟨t302, A70, H⟩ := H
   try dsimp only at H
   have A7 := aq A70
   clear A70
   by_cases c8 : t302 ≤ 0
   case neg =>
    rw [if_neg c8] at H
    have c8b0 : decide (t302 ≤ 0) = false := decide_eq_false c8
    clear c8
    have H' := aq H
    clear H
    go_wp2_with (first | ((with_reducible refine yK (f := 117) rfl ?_); refine wD (some 16) rfl rfl Try.func117 (by kernel_rfl) rfl #[.slice A1 l1.length c1, .int .i64 x5_1] rfl (by simp only [List.map_toArray, List.map_cons, List.map_nil] <;> rfl) ?_; (with_reducible refine (zB.calls k1 (fun k_ => ((P0_ k_ ∨ P1_ k_) ∨ w.heap.size ≤ k_)) _ _ l1 x5_1 t299 _ ?side1 A6.out).mono ?_); (case side1 => exact HO_1.out); rintro e w14 ⟨v300, rfl, ho0, hb⟩; refine ⟨_, rfl, ?_⟩; have n0_ := aq (Kd.uC (by (with_reducible repeat (first | apply Kd.xZ | apply Kd.yA | apply Kd.xI)); exact HO_0.out) hb); have n1_ := aq (Kd.uC (by (with_reducible repeat (first | apply Kd.xZ | apply Kd.yA | apply Kd.xI)); exact HO_1.out) hb); have n2_ := aq (Kd.tG (Kd.tY (ok' := fun k_ => ((P0_ k_ ∨ P1_ k_) ∨ w.heap.size ≤ k_)) ho0 (fun k_ hk_ => Or.elim hk_ (fun hs_ => hs_) (fun hn_ => (.inr (Nat.le_trans (bz_ (by exact ul HB.out)) hn_))))) (bz_ (by exact ul HB.out))); have n3_ := aq (bt_ (by exact ul HB.out) hb); clear HO_0; clear HO_1; clear HB; have HO_0 := n0_; have HO_1 := n1_; have HO301 := n2_; have HB := n3_; clear n0_ n1_ n2_ n3_; (try clear ho0); obtain ⟨Ao15, co15, eo15⟩ := Kd.tH HO301.out; subst eo15; obtain ⟨Ao16, co16, eo16⟩ := Kd.tH HO_0.out; subst eo16) | ((with_reducible refine yK (f := 53) rfl ?_); refine wD (some 19) rfl rfl Try.func53 (by kernel_rfl) rfl #[.slice Ao15 t299.length co15, .slice Ao16 x0_1.length co16] rfl (by simp only [List.map_toArray, List.map_cons, List.map_nil] <;> rfl) ?_; (with_reducible refine (zJ.calls k1 _ _ t299 _ _ x0_1 t302 _ ?side1 ?side2 ?side3 ?side4 A7.out).mono ?_); (case side1 => repeat (first | exact (Kd.wV HO301.out).2.2 | (with_reducible refine Kd.qS ?_ _) | (with_reducible refine Kd.qT ?_ _) | (with_reducible refine Kd.oJ ?_))); (case side2 => exact (Kd.wV HO301.out).2.1); (case side3 => repeat (first | exact (Kd.wV HO_0.out).2.2 | (with_reducible refine Kd.qS ?_ _) | (with_reducible refine Kd.qT ?_ _) | (with_reducible refine Kd.oJ ?_))); (case side4 => exact (Kd.wV HO_0.out).2.1); rintro e w' ⟨rfl, ⟨nd, rfl⟩⟩; refine ⟨_, rfl, ?_⟩))
    (first | go_roundg k1 | (refine Handed.intro k1 ?measure ?_; rotate_left; go_step; (repeat apply Exists.intro); (refine ⟨?rel, ?fr_⟩); (case fr_ => (simp only [add_plain]; rfl))))
    case measure => have := HK1.out; omega
    case rel => exact ⟨(x0_1), (wrap64 (x5_1 - 1)), (by first | rfl | simp [*]), H', ⟨by have := HK1.out; omega⟩, ⟨by (with_reducible repeat (first | apply Kd.xZ | apply Kd.yA | apply Kd.xI)); exact HO_0.out⟩, ⟨by (with_reducible repeat (first | apply Kd.xZ | apply Kd.yA | apply Kd.xI)); exact HO_1.out⟩, ⟨by exact ul HB.out⟩⟩
   rw [if_pos c8] at H
   have c8b0 : decide (t302 ≤ 0) = true := decide_eq_true c8
   clear c8
   replace H := Option.bind_eq_some_iff.mp H
   obtain ⟨t303, A90, H⟩ := H
   try dsimp only at H
   have A9 := aq A90
   clear A90
   have H' := aq H
   clear H
   go_wp2_with (first | ((with_reducible refine yK (f := 117) rfl ?_); refine wD (some 16) rfl rfl Try.func117 (by kernel_rfl) rfl #[.slice A1 l1.length c1, .int .i64 x5_1] rfl (by simp only [List.map_toArray, List.map_cons, List.map_nil] <;> rfl) ?_; (with_reducible refine (zB.calls k1 (fun k_ => ((P0_ k_ ∨ P1_ k_) ∨ w.heap.size ≤ k_)) _ _ l1 x5_1 t299 _ ?side1 A6.out).mono ?_); (case side1 => exact HO_1.out); rintro e w10 ⟨v300, rfl, ho0, hb⟩; refine ⟨_, rfl, ?_⟩; have n0_ := aq (Kd.uC (by (with_reducible repeat (first | apply Kd.xZ | apply Kd.yA | apply Kd.xI)); exact HO_0.out) hb); have n1_ := aq (Kd.uC (by (with_reducible repeat (first | apply Kd.xZ | apply Kd.yA | apply Kd.xI)); exact HO_1.out) hb); have n2_ := aq (Kd.tG (Kd.tY (ok' := fun k_ => ((P0_ k_ ∨ P1_ k_) ∨ w.heap.size ≤ k_)) ho0 (fun k_ hk_ => Or.elim hk_ (fun hs_ => hs_) (fun hn_ => (.inr (Nat.le_trans (bz_ (by exact ul HB.out)) hn_))))) (bz_ (by exact ul HB.out))); have n3_ := aq (bt_ (by exact ul HB.out) hb); clear HO_0; clear HO_1; clear HB; have HO_0 := n0_; have HO_1 := n1_; have HO301 := n2_; have HB := n3_; clear n0_ n1_ n2_ n3_; (try clear ho0); obtain ⟨Ao11, co11, eo11⟩ := Kd.tH HO301.out; subst eo11; obtain ⟨Ao12, co12, eo12⟩ := Kd.tH HO_0.out; subst eo12) | ((with_reducible refine yK (f := 53) rfl ?_); refine wD (some 19) rfl rfl Try.func53 (by kernel_rfl) rfl #[.slice Ao11 t299.length co11, .slice Ao12 x0_1.length co12] rfl (by simp only [List.map_toArray, List.map_cons, List.map_nil] <;> rfl) ?_; (with_reducible refine (zJ.calls k1 _ _ t299 _ _ x0_1 t302 _ ?side1 ?side2 ?side3 ?side4 A7.out).mono ?_); (case side1 => repeat (first | exact (Kd.wV HO301.out).2.2 | (with_reducible refine Kd.qS ?_ _) | (with_reducible refine Kd.qT ?_ _) | (with_reducible refine Kd.oJ ?_))); (case side2 => exact (Kd.wV HO301.out).2.1); (case side3 => repeat (first | exact (Kd.wV HO_0.out).2.2 | (with_reducible refine Kd.qS ?_ _) | (with_reducible refine Kd.qT ?_ _) | (with_reducible refine Kd.oJ ?_))); (case side4 => exact (Kd.wV HO_0.out).2.1); rintro e w' ⟨rfl, ⟨nd, rfl⟩⟩; refine ⟨_, rfl, ?_⟩) | ((with_reducible refine yK (f := 118) rfl ?_); refine wD (some 23) rfl rfl Try.func118 (by kernel_rfl) rfl #[.slice Ao12 x0_1.length co12, .slice Ao11 t299.length co11] rfl (by simp only [List.map_toArray, List.map_cons, List.map_nil] <;> rfl) ?_; (with_reducible refine (zH.calls k1 _ _ x0_1 _ _ t299 t303 _ ?side1 ?side2 ?side3 ?side4 A9.out).mono ?_); (case side1 => repeat (first | exact (Kd.wV HO_0.out).2.2 | (with_reducible refine Kd.qS ?_ _) | (with_reducible refine Kd.qT ?_ _) | (with_reducible refine Kd.oJ ?_))); (case side2 => exact (Kd.wV HO_0.out).2.1); (case side3 => repeat (first | exact (Kd.wV HO301.out).2.2 | (with_reducible refine Kd.qS ?_ _) | (with_reducible refine Kd.qT ?_ _) | (with_reducible refine Kd.oJ ?_))); (case side4 => exact (Kd.wV HO301.out).2.1); rintro e w13 ⟨v304, rfl, ho0, hb⟩; refine ⟨_, rfl, ?_⟩; have n0_ := aq (Kd.uC (by (with_reducible repeat (first | apply Kd.xZ | apply Kd.yA | apply Kd.xI)); exact HO_0.out) hb); have n1_ := aq (Kd.uC (by (with_reducible repeat (first | apply Kd.xZ | apply Kd.yA | apply Kd.xI)); exact HO_1.out) hb); have n2_ := aq (Kd.uC (by (with_reducible repeat (first | apply Kd.xZ | apply Kd.yA | apply Kd.xI)); exact HO301.out) hb); have n3_ := aq (Kd.tG (Kd.tY (ok' := fun k_ => ((P0_ k_ ∨ P1_ k_) ∨ w.heap.size ≤ k_)) ho0 (fun k_ hk_ => (.inr (Nat.le_trans (bz_ (by exact ul HB.out)) hk_)))) (bz_ (by exact ul HB.out))); have n4_ := aq (bt_ (by exact ul HB.out) hb); clear HO_0; clear HO_1; clear HO301; clear HB; have HO_0 := n0_; have HO_1 := n1_; have HO301 := n2_; have HO305 := n3_; have HB := n4_; clear n0_ n1_ n2_ n3_ n4_; (try clear ho0)))
   (first | go_roundg k1 | (refine Handed.intro k1 ?measure ?_; rotate_left; go_step; (repeat apply Exists.intro); (refine ⟨?rel, ?fr_⟩); (case fr_ => (simp only [add_plain]; rfl))))
   case measure => have := HK1.out; omega
   case rel => exact ⟨(t303), (wrap64 (x5_1 - 1)), (by first | rfl | simp [*]), H', ⟨by have := HK1.out; omega⟩, ⟨by (with_reducible repeat (first | apply Kd.xZ | apply Kd.yA | apply Kd.xI)); exact HO305.out⟩, ⟨by (with_reducible repeat (first | apply Kd.xZ | apply Kd.yA | apply Kd.xI)); exact HO_1.out⟩, ⟨by exact ul HB.out⟩⟩
def yW.l0 : Nat → List Int → List Int → Option (List Int)
 | 0, _, _ => none
 | k + 1, x0, x1 => if (x1.length : Int) > 0 then ((zL.f k x0 x1).bind fun t306 => (yW.l0 k x1 t306)) else (some x0)
def yW.f (k : Nat) (l0 : List Int) (l1 : List Int) : Option (List Int) := yW.l0 k l0 l1
theorem yW.calls (k : Nat) (P0_ : Nat → Prop) (A0 : Option Addr) (c0 : Nat) (l0 : List Int) (P1_ : Nat → Prop) (A1 : Option Addr) (c1 : Nat) (l1 : List Int) (r : List Int) (w : World) (hs0 : Kd.V (Kd.int .u32) 140 w w.heap.size (fun k_ => P0_ k_) (.slice A0 l0.length c0) l0) (hs1 : Kd.V (Kd.int .u32) 140 w w.heap.size (fun k_ => P1_ k_) (.slice A1 l1.length c1) l1) (h : yW.f k l0 l1 = some r) :
    Calls Try.prog 54 #[.slice A0 l0.length c0, .slice A1 l1.length c1] w fun e w' => ∃ v0_ : Value, e = .returned (v0_) ∧ Kd.V (Kd.int .u32) 140 w' w.heap.size (fun k_ => ((P0_ k_ ∨ P1_ k_) ∨ w.heap.size ≤ k_)) v0_ r ∧ Below w.heap.size w w' := by
 have HO0 := aq (show Kd.V (Kd.int .u32) 140 w w.heap.size (fun k_ => ((P0_ k_ ∨ P1_ k_) ∨ w.heap.size ≤ k_)) (.slice A0 l0.length c0) l0 from Kd.tY hs0 (fun k_ hk => .inl (.inl hk)))
 have HO1 := aq (show Kd.V (Kd.int .u32) 140 w w.heap.size (fun k_ => ((P0_ k_ ∨ P1_ k_) ∨ w.heap.size ≤ k_)) (.slice A1 l1.length c1) l1 from Kd.tY hs1 (fun k_ hk => .inl (.inr hk)))
 have HB := aq (Below.refl w.heap.size w)
 have H := h
 unfold yW.f at H
 clear h
 have H' := aq H
 clear H
 go_enter Try.func54, Try.ntmps54
 go_wp2
 go_loopg [0, 1] k (fun kq v0 v1 w' => ∃ (x0_1 : List Int) (x1_1 : List Int), zV (yW.l0 kq x0_1 x1_1 = some r) ∧ zV (kq ≤ k) ∧ zV (Kd.V (Kd.int .u32) 140 w' w.heap.size (fun k_ => ((P0_ k_ ∨ P1_ k_) ∨ w.heap.size ≤ k_)) v0 x0_1) ∧ zV (Kd.V (Kd.int .u32) 140 w' w.heap.size (fun k_ => ((P0_ k_ ∨ P1_ k_) ∨ w.heap.size ≤ k_)) v1 x1_1) ∧ zV (Below w.heap.size w w'))
 case atStart => exact ⟨(l0), (l1), H', ⟨Nat.le_refl _⟩, ⟨by (with_reducible repeat (first | apply Kd.xZ | apply Kd.yA | apply Kd.xI)); exact HO0.out⟩, ⟨by (with_reducible repeat (first | apply Kd.xZ | apply Kd.yA | apply Kd.xI)); exact HO1.out⟩, ⟨by exact ul HB.out⟩⟩
 case round =>
  clear H'
  try clear c1
  try clear p2
  obtain ⟨x0_1, x1_1, HA, HK1, HO_0, HO_1, HB⟩ := hrel
  cases gk with
  | zero => exact absurd HA.out (by simp [yW.l0])
  | succ k1 =>
   have H := HA.out
   clear HA
   simp only [yW.l0] at H
   by_cases c3 : (x1_1.length : Int) > 0
   case neg =>
    rw [if_neg c3] at H
    have c3b0 : decide (0 < (x1_1.length : Int)) = false := decide_eq_false c3
    have c3b1 : decide (0 < x1_1.length) = false := decide_eq_false (by omega)
    clear c3
    obtain rfl := Option.some.inj H
    obtain ⟨Ao8, co8, eo8⟩ := Kd.tH HO_1.out
    subst eo8
    go_wp2
    go_ret
    exact ⟨_, by first | rfl | (simp [eN_, eS_] <;> rfl) | (simp [*, eN_, eS_] <;> rfl), by (with_reducible repeat (first | apply Kd.xZ | apply Kd.yA | apply Kd.xI)); exact HO_0.out, by exact ul HB.out⟩
   rw [if_pos c3] at H
   have c3b0 : decide (0 < (x1_1.length : Int)) = true := decide_eq_true c3
   have c3b1 : decide (0 < x1_1.length) = true := decide_eq_true (by omega)
   clear c3
   replace H := Option.bind_eq_some_iff.mp H
   obtain ⟨t306, A40, H⟩ := H
   try dsimp only at H
   have A4 := aq A40
   clear A40
   have H' := aq H
   clear H
   obtain ⟨Ao5, co5, eo5⟩ := Kd.tH HO_1.out
   subst eo5
   obtain ⟨Ao6, co6, eo6⟩ := Kd.tH HO_0.out
   subst eo6
   go_wp2_with (first | ((with_reducible refine yK (f := 84) rfl ?_); refine wD (some 11) rfl rfl Try.func84 (by kernel_rfl) rfl #[.slice Ao6 x0_1.length co6, .slice Ao5 x1_1.length co5] rfl (by (try simp only [List.map_toArray, List.map_cons, List.map_nil]); first | done | rfl | (simp only [List.length_drop, List.length_take]; rfl)) ?_; (with_reducible refine (zL.calls k1 (fun k_ => ((P0_ k_ ∨ P1_ k_) ∨ w.heap.size ≤ k_)) _ _ x0_1 (fun k_ => ((P0_ k_ ∨ P1_ k_) ∨ w.heap.size ≤ k_)) _ _ x1_1 t306 _ ?side1 ?side2 A4.out).mono ?_); (case side1 => exact HO_0.out); (case side2 => exact HO_1.out); rintro e w7 ⟨v307, rfl, ho0, hb⟩; refine ⟨_, rfl, ?_⟩; have n0_ := aq (Kd.uC (by (with_reducible repeat (first | apply Kd.xZ | apply Kd.yA | apply Kd.xI)); exact HO_0.out) hb); have n1_ := aq (Kd.uC (by (with_reducible repeat (first | apply Kd.xZ | apply Kd.yA | apply Kd.xI)); exact HO_1.out) hb); have n2_ := aq (Kd.tG (Kd.tY (ok' := fun k_ => ((P0_ k_ ∨ P1_ k_) ∨ w.heap.size ≤ k_)) ho0 (fun k_ hk_ => Or.elim hk_ (fun hs_ => Or.elim hs_ (fun hs_ => hs_) (fun hs_ => hs_)) (fun hn_ => (.inr (Nat.le_trans (bz_ (by exact ul HB.out)) hn_))))) (bz_ (by exact ul HB.out))); have n3_ := aq (bt_ (by exact ul HB.out) hb); clear HO_0; clear HO_1; clear HB; have HO_0 := n0_; have HO_1 := n1_; have HO308 := n2_; have HB := n3_; clear n0_ n1_ n2_ n3_; (try clear hb); (try clear hb2); (try clear hk); (try clear hi); (try clear ho0)))
   (first | go_roundg k1 | (refine Handed.intro k1 ?measure ?_; rotate_left; go_step; (repeat apply Exists.intro); (refine ⟨?rel, ?fr_⟩); (case fr_ => (simp only [add_plain]; rfl))))
   case measure => have := HK1.out; omega
   case rel => exact ⟨(x1_1), (t306), H', ⟨by have := HK1.out; omega⟩, ⟨by (with_reducible repeat (first | apply Kd.xZ | apply Kd.yA | apply Kd.xI)); exact HO_1.out⟩, ⟨by (with_reducible repeat (first | apply Kd.xZ | apply Kd.yA | apply Kd.xI)); exact HO308.out⟩, ⟨by exact ul HB.out⟩⟩
end Go.Proofs.Ytoonahobmlnflaa.PC
