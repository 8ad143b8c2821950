/- Texts of this claim, one behind the other. -/
import Derived.Test.YtoonahobmlnflaaVc2
set_option linter.unusedVariables false
set_option linter.unusedSimpArgs false
set_option maxRecDepth 100000
set_option maxHeartbeats 16000000
namespace Go.Proofs.Ytoonahobmlnflaa.PC
open Go.RowKit A B C
attribute [local go_sem] yC yE xO xP yK yL yD yF
def zO.f (k : Nat) (a0_0 : Int) (a0_1 : Int) : Option (Bool) := if a0_1 ≥ 1 then (if a0_0 > (-9223372036854775808) then ((zS.f a0_0).bind fun t102 => ((zS.f a0_1).bind fun t103 => ((zE.f k t102 t103).bind fun t104 => (some (t104 == 1))))) else (some false)) else (some false)
theorem zO.calls (k : Nat) (a0_0 : Int) (a0_1 : Int) (r : Bool) (w : World) (h : zO.f k a0_0 a0_1 = some r) :
    Calls Try.prog 59 #[.agg #[.int .i64 a0_0, .int .i64 a0_1]] w fun e w' => e = .returned (.bool r) ∧ Below w.heap.size w w' := by
 have hu30 := Try.underlying30
 have HB := aq (Below.refl w.heap.size w)
 have H := h
 unfold zO.f at H
 clear h
 by_cases c2 : a0_1 ≥ 1
 case neg =>
  rw [if_neg c2] at H
  have c2b0 : decide (1 ≤ a0_1) = false := decide_eq_false c2
  clear c2
  obtain rfl := Option.some.inj H
  go_enter Try.func59, Try.ntmps59
  go_wp2_with (first | ((with_reducible refine gD (N := 1) rfl ?_); refine bE ?hg (N := 1) ?hd (cs := #[.int .i64 a0_0, .int .i64 a0_1]) (t := 30) ?hr ?_; (case hd => rfl); (case hg => rfl); (case hr => first | (go_simp; done) | (go_simp; rfl)); intro gb101 hg w11 hbox hb; have n0_ := aq (bt_ (by exact ul HB.out) hb); have n1_ := aq (hbox); have n2_ := aq ((by rw [hg]; exact (bz_ (by exact ul HB.out)) : w.heap.size ≤ gb101)); have n3_ := aq ((by rw [hg]; exact (bz_ (by exact ul HB.out)) : w.heap.size ≤ gb101)); clear HB; have HB := n0_; have BK101 := n1_; have GW101 := n2_; have GE101 := n3_; clear n0_ n1_ n2_ n3_; clear hb hbox hg; have hcz12_0 := bT BK101.out 0 (.int .i64 a0_0); have hcz12_1 := bT BK101.out 1 (.int .i64 a0_1); have hfz12_0 := bf_ BK101.out 0; have hfz12_1 := bf_ BK101.out 1))
  repeat (go_quiet (first | ((with_reducible refine gD (N := 1) rfl ?_); refine bE ?hg (N := 1) ?hd (cs := #[.int .i64 a0_0, .int .i64 a0_1]) (t := 30) ?hr ?_; (case hd => rfl); (case hg => rfl); (case hr => first | (go_simp; done) | (go_simp; rfl)); intro gb101 hg w11 hbox hb; have n0_ := aq (bt_ (by exact ul HB.out) hb); have n1_ := aq (hbox); have n2_ := aq ((by rw [hg]; exact (bz_ (by exact ul HB.out)) : w.heap.size ≤ gb101)); have n3_ := aq ((by rw [hg]; exact (bz_ (by exact ul HB.out)) : w.heap.size ≤ gb101)); clear HB; have HB := n0_; have BK101 := n1_; have GW101 := n2_; have GE101 := n3_; clear n0_ n1_ n2_ n3_; clear hb hbox hg; have hcz12_0 := bT BK101.out 0 (.int .i64 a0_0); have hcz12_1 := bT BK101.out 1 (.int .i64 a0_1); have hfz12_0 := bf_ BK101.out 0; have hfz12_1 := bf_ BK101.out 1)); try go_wp2_with (first | ((with_reducible refine gD (N := 1) rfl ?_); refine bE ?hg (N := 1) ?hd (cs := #[.int .i64 a0_0, .int .i64 a0_1]) (t := 30) ?hr ?_; (case hd => rfl); (case hg => rfl); (case hr => first | (go_simp; done) | (go_simp; rfl)); intro gb101 hg w11 hbox hb; have n0_ := aq (bt_ (by exact ul HB.out) hb); have n1_ := aq (hbox); have n2_ := aq ((by rw [hg]; exact (bz_ (by exact ul HB.out)) : w.heap.size ≤ gb101)); have n3_ := aq ((by rw [hg]; exact (bz_ (by exact ul HB.out)) : w.heap.size ≤ gb101)); clear HB; have HB := n0_; have BK101 := n1_; have GW101 := n2_; have GE101 := n3_; clear n0_ n1_ n2_ n3_; clear hb hbox hg; have hcz12_0 := bT BK101.out 0 (.int .i64 a0_0); have hcz12_1 := bT BK101.out 1 (.int .i64 a0_1); have hfz12_0 := bf_ BK101.out 0; have hfz12_1 := bf_ BK101.out 1)))
  go_ret
  exact ⟨by first | rfl | (simp [eN_, eS_] <;> rfl) | (simp [*, eN_, eS_] <;> rfl), by repeat first | exact HB.out | refine bs_ ?_ GE101.out | refine ul ?_⟩
 rw [if_pos c2] at H
 have c2b0 : decide (1 ≤ a0_1) = true := decide_eq_true c2
 clear c2
 by_cases c3 : a0_0 > (-9223372036854775808)
 case neg =>
  rw [if_neg c3] at H
  have c3b0 : decide ((-9223372036854775808) < a0_0) = false := decide_eq_false c3
  clear c3
  obtain rfl := Option.some.inj H
  go_enter Try.func59, Try.ntmps59
  go_wp2_with (first | ((with_reducible refine gD (N := 1) rfl ?_); refine bE ?hg (N := 1) ?hd (cs := #[.int .i64 a0_0, .int .i64 a0_1]) (t := 30) ?hr ?_; (case hd => rfl); (case hg => rfl); (case hr => first | (go_simp; done) | (go_simp; rfl)); intro gb101 hg w9 hbox hb; have n0_ := aq (bt_ (by exact ul HB.out) hb); have n1_ := aq (hbox); have n2_ := aq ((by rw [hg]; exact (bz_ (by exact ul HB.out)) : w.heap.size ≤ gb101)); have n3_ := aq ((by rw [hg]; exact (bz_ (by exact ul HB.out)) : w.heap.size ≤ gb101)); clear HB; have HB := n0_; have BK101 := n1_; have GW101 := n2_; have GE101 := n3_; clear n0_ n1_ n2_ n3_; clear hb hbox hg; have hcz10_0 := bT BK101.out 0 (.int .i64 a0_0); have hcz10_1 := bT BK101.out 1 (.int .i64 a0_1); have hfz10_0 := bf_ BK101.out 0; have hfz10_1 := bf_ BK101.out 1))
  repeat (go_quiet (first | ((with_reducible refine gD (N := 1) rfl ?_); refine bE ?hg (N := 1) ?hd (cs := #[.int .i64 a0_0, .int .i64 a0_1]) (t := 30) ?hr ?_; (case hd => rfl); (case hg => rfl); (case hr => first | (go_simp; done) | (go_simp; rfl)); intro gb101 hg w9 hbox hb; have n0_ := aq (bt_ (by exact ul HB.out) hb); have n1_ := aq (hbox); have n2_ := aq ((by rw [hg]; exact (bz_ (by exact ul HB.out)) : w.heap.size ≤ gb101)); have n3_ := aq ((by rw [hg]; exact (bz_ (by exact ul HB.out)) : w.heap.size ≤ gb101)); clear HB; have HB := n0_; have BK101 := n1_; have GW101 := n2_; have GE101 := n3_; clear n0_ n1_ n2_ n3_; clear hb hbox hg; have hcz10_0 := bT BK101.out 0 (.int .i64 a0_0); have hcz10_1 := bT BK101.out 1 (.int .i64 a0_1); have hfz10_0 := bf_ BK101.out 0; have hfz10_1 := bf_ BK101.out 1)); try go_wp2_with (first | ((with_reducible refine gD (N := 1) rfl ?_); refine bE ?hg (N := 1) ?hd (cs := #[.int .i64 a0_0, .int .i64 a0_1]) (t := 30) ?hr ?_; (case hd => rfl); (case hg => rfl); (case hr => first | (go_simp; done) | (go_simp; rfl)); intro gb101 hg w9 hbox hb; have n0_ := aq (bt_ (by exact ul HB.out) hb); have n1_ := aq (hbox); have n2_ := aq ((by rw [hg]; exact (bz_ (by exact ul HB.out)) : w.heap.size ≤ gb101)); have n3_ := aq ((by rw [hg]; exact (bz_ (by exact ul HB.out)) : w.heap.size ≤ gb101)); clear HB; have HB := n0_; have BK101 := n1_; have GW101 := n2_; have GE101 := n3_; clear n0_ n1_ n2_ n3_; clear hb hbox hg; have hcz10_0 := bT BK101.out 0 (.int .i64 a0_0); have hcz10_1 := bT BK101.out 1 (.int .i64 a0_1); have hfz10_0 := bf_ BK101.out 0; have hfz10_1 := bf_ BK101.out 1)))
  go_ret
  exact ⟨by first | rfl | (simp [eN_, eS_] <;> rfl) | (simp [*, eN_, eS_] <;> rfl), by repeat first | exact HB.out | refine bs_ ?_ GE101.out | refine ul ?_⟩
 rw [if_pos c3] at H
 have c3b0 : decide ((-9223372036854775808) < a0_0) = true := decide_eq_true c3
 clear c3
 replace H := Option.bind_eq_some_iff.mp H
 obtain ⟨t102, A40, H⟩ := H
 try dsimp only at H
 have A4 := aq A40
 clear A40
 replace H := Option.bind_eq_some_iff.mp H
 obtain ⟨t103, A50, H⟩ := H
 try dsimp only at H
 have A5 := aq A50
 clear A50
 replace H := Option.bind_eq_some_iff.mp H
 obtain ⟨t104, A60, H⟩ := H
 try dsimp only at H
 have A6 := aq A60
 clear A60
 obtain rfl := Option.some.inj H
 go_enter Try.func59, Try.ntmps59
 go_wp2_with (first | ((with_reducible refine gD (N := 1) rfl ?_); refine bE ?hg (N := 1) ?hd (cs := #[.int .i64 a0_0, .int .i64 a0_1]) (t := 30) ?hr ?_; (case hd => rfl); (case hg => rfl); (case hr => first | (go_simp; done) | (go_simp; rfl)); intro gb101 hg w7 hbox hb; have n0_ := aq (bt_ (by exact ul HB.out) hb); have n1_ := aq (hbox); have n2_ := aq ((by rw [hg]; exact (bz_ (by exact ul HB.out)) : w.heap.size ≤ gb101)); have n3_ := aq ((by rw [hg]; exact (bz_ (by exact ul HB.out)) : w.heap.size ≤ gb101)); clear HB; have HB := n0_; have BK101 := n1_; have GW101 := n2_; have GE101 := n3_; clear n0_ n1_ n2_ n3_; clear hb hbox hg; have hcz8_0 := bT BK101.out 0 (.int .i64 a0_0); have hcz8_1 := bT BK101.out 1 (.int .i64 a0_1); have hfz8_0 := bf_ BK101.out 0; have hfz8_1 := bf_ BK101.out 1) | (go_at_call 88; (with_reducible refine (zS.calls a0_0 t102 _ A4.out).mono ?_); rintro e w' ⟨rfl, ⟨nd, rfl⟩⟩; (try first | exact dA | exact dB)) | (go_at_call 88; (with_reducible refine (zS.calls a0_1 t103 _ A5.out).mono ?_); rintro e w' ⟨rfl, ⟨nd, rfl⟩⟩; (try first | exact dA | exact dB)) | (go_at_call 87; (with_reducible refine (zE.calls k t102 t103 t104 _ A6.out).mono ?_); rintro e w' ⟨rfl, ⟨nd, rfl⟩⟩; (try first | exact dA | exact dB)))
 repeat (go_quiet (first | ((with_reducible refine gD (N := 1) rfl ?_); refine bE ?hg (N := 1) ?hd (cs := #[.int .i64 a0_0, .int .i64 a0_1]) (t := 30) ?hr ?_; (case hd => rfl); (case hg => rfl); (case hr => first | (go_simp; done) | (go_simp; rfl)); intro gb101 hg w7 hbox hb; have n0_ := aq (bt_ (by exact ul HB.out) hb); have n1_ := aq (hbox); have n2_ := aq ((by rw [hg]; exact (bz_ (by exact ul HB.out)) : w.heap.size ≤ gb101)); have n3_ := aq ((by rw [hg]; exact (bz_ (by exact ul HB.out)) : w.heap.size ≤ gb101)); clear HB; have HB := n0_; have BK101 := n1_; have GW101 := n2_; have GE101 := n3_; clear n0_ n1_ n2_ n3_; clear hb hbox hg; have hcz8_0 := bT BK101.out 0 (.int .i64 a0_0); have hcz8_1 := bT BK101.out 1 (.int .i64 a0_1); have hfz8_0 := bf_ BK101.out 0; have hfz8_1 := bf_ BK101.out 1) | (go_at_call 88; (with_reducible refine (zS.calls a0_0 t102 _ A4.out).mono ?_); rintro e w' ⟨rfl, ⟨nd, rfl⟩⟩; (try first | exact dA | exact dB)) | (go_at_call 88; (with_reducible refine (zS.calls a0_1 t103 _ A5.out).mono ?_); rintro e w' ⟨rfl, ⟨nd, rfl⟩⟩; (try first | exact dA | exact dB)) | (go_at_call 87; (with_reducible refine (zE.calls k t102 t103 t104 _ A6.out).mono ?_); rintro e w' ⟨rfl, ⟨nd, rfl⟩⟩; (try first | exact dA | exact dB))); try go_wp2_with (first | ((with_reducible refine gD (N := 1) rfl ?_); refine bE ?hg (N := 1) ?hd (cs := #[.int .i64 a0_0, .int .i64 a0_1]) (t := 30) ?hr ?_; (case hd => rfl); (case hg => rfl); (case hr => first | (go_simp; done) | (go_simp; rfl)); intro gb101 hg w7 hbox hb; have n0_ := aq (bt_ (by exact ul HB.out) hb); have n1_ := aq (hbox); have n2_ := aq ((by rw [hg]; exact (bz_ (by exact ul HB.out)) : w.heap.size ≤ gb101)); have n3_ := aq ((by rw [hg]; exact (bz_ (by exact ul HB.out)) : w.heap.size ≤ gb101)); clear HB; have HB := n0_; have BK101 := n1_; have GW101 := n2_; have GE101 := n3_; clear n0_ n1_ n2_ n3_; clear hb hbox hg; have hcz8_0 := bT BK101.out 0 (.int .i64 a0_0); have hcz8_1 := bT BK101.out 1 (.int .i64 a0_1); have hfz8_0 := bf_ BK101.out 0; have hfz8_1 := bf_ BK101.out 1) | (go_at_call 88; (with_reducible refine (zS.calls a0_0 t102 _ A4.out).mono ?_); rintro e w' ⟨rfl, ⟨nd, rfl⟩⟩; (try first | exact dA | exact dB)) | (go_at_call 88; (with_reducible refine (zS.calls a0_1 t103 _ A5.out).mono ?_); rintro e w' ⟨rfl, ⟨nd, rfl⟩⟩; (try first | exact dA | exact dB)) | (go_at_call 87; (with_reducible refine (zE.calls k t102 t103 t104 _ A6.out).mono ?_); rintro e w' ⟨rfl, ⟨nd, rfl⟩⟩; (try first | exact dA | exact dB))))
 go_ret
 exact ⟨by first | rfl | (simp [eN_, eS_] <;> rfl) | (simp [*, eN_, eS_] <;> rfl), by repeat first | exact HB.out | refine bs_ ?_ GE101.out | refine ul ?_⟩
end Go.Proofs.Ytoonahobmlnflaa.PC
namespace Go.Proofs.Ytoonahobmlnflaa.PC
open Go.RowKit A B C
theorem sq {α : Type} : (∀ (l : List α) (i : Nat) (a : α), l.toArray.setIfInBounds i a = (l.set i a).toArray) ∧ (∀ (x : α) (xs : List α) (a : α), (x :: xs).set 0 a = a :: xs) ∧ ∀ (x : α) (xs : List α) (n : Nat) (a : α), (x :: xs).set (n + 1) a = x :: xs.set n a := ⟨fun _ _ _ => by simp, fun _ _ _ => rfl, fun _ _ _ _ => rfl⟩
def mskL (b : Nat) : Nat → List Bool
  | 0 => []
  | n + 1 => (b % 2 == 1) :: mskL (b / 2) n
abbrev msk (n b : Nat) : Array Bool := ⟨mskL b n⟩
section
variable {P : Program} {ops : Array Oper} {Q : Exit → Act → World → Prop} {md : Region.Mode} {S : World → Prop} {ds : List Nat} {T : Bool × List (List Nat × List Nat)}
theorem pu_ {oi : Oper} {fuel : Nat} {l : Array Bool} {a : Act} {w : World} (i N : Nat) (l' : Array Bool) (hT : wD md ops = T) (v : Value) (hy : ∀ w, (execOp a.eval oi).run P w = .ok (.value v) w) (a' : Act) (ha : a.put (some N) v = a') (h : yS P md ops Q S ds fuel l' a' w)
    (hi : ops[i]? = some oi := by rfl) (hN : oi.dst = some N := by rfl) (hc : anyT T l.toList l'.toList i = true := by kernel_rfl) (hQ : ∀ c a w, Q (.panic c) (a.put oi.dst v) w → Q (.panic c) a w := by exact fun _ _ _ h => h) (hw : Region.wanted oi (yielded ops a.tmps) = true := by rfl) : yS P md ops Q S ds (fuel + 1) l a w :=
  pure_ l' hi hN (any_of hT hc) hQ (.inl ⟨hw, hy⟩) ha h
theorem pv_ {oi : Oper} {fuel : Nat} {l : Array Bool} {a : Act} {w : World} (i N : Nat) (l' : Array Bool) (hT : wD md ops = T) (a' : Act) (ha : a.put (some N) undef = a') (h : yS P md ops Q S ds fuel l' a' w)
    (hi : ops[i]? = some oi := by rfl) (hN : oi.dst = some N := by rfl) (hc : anyT T l.toList l'.toList i = true := by kernel_rfl) (hQ : ∀ c a w, Q (.panic c) (a.put oi.dst undef) w → Q (.panic c) a w := by exact fun _ _ _ h => h) (hw : Region.wanted oi (yielded ops a.tmps) = false := by rfl) : yS P md ops Q S ds (fuel + 1) l a w :=
  pure_ l' hi hN (any_of hT hc) hQ (.inr ⟨hw, rfl⟩) ha h
theorem tk_ {oi : Oper} {fuel : Nat} {l : Array Bool} {a : Act} {w : World} {B : List Nat} (i N : Nat) (l' : Array Bool) (hT : wD md ops = T) (hB : xR T.2 B = true) (hS : S w) (v : Value) (hy : ∀ w, S w → (execOp a.eval oi).run P w = .ok (.value v) w) (a' : Act) (ha : a.put (some N) v = a') (h : yS P md ops Q S ds fuel l' a' w)
    (hi : ops[i]? = some oi := by rfl) (hN : oi.dst = some N := by rfl) (hc : takeW T B ds l.toList l'.toList i = true := by kernel_rfl) (hQ : ∀ c a w, Q (.panic c) (a.put oi.dst v) w → Q (.panic c) a w := by exact fun _ _ _ h => h) (hw : Region.wanted oi (yielded ops a.tmps) = true := by rfl) : yS P md ops Q S ds (fuel + 1) l a w :=
  take_ l' hi hN (take_ofW hT hB hc) hQ (.inl ⟨hw, hy⟩) hS ha h
theorem pU {oi : Oper} {fuel : Nat} {l : Array Bool} {a : Act} {w : World} (i N : Nat) (l' : Array Bool) (hT : wD md ops = T) {v : Value} {a' : Act} (h : yS P md ops Q S ds fuel l' a' w)
    (hi : ops[i]? = some oi := by rfl) (hN : oi.dst = some N := by rfl) (hc : anyT T l.toList l'.toList i = true := by kernel_rfl) (hw : Region.wanted oi (yielded ops a.tmps) = true := by rfl) (hy : ∀ w, (execOp a.eval oi).run P w = .ok (.value v) w := by intro w'; go_simp; with_reducible rfl) (ha : a.put (some N) v = a' := by simp only [Act.put, sq, iw, jw]; rfl) (hQ : ∀ c a w, Q (.panic c) (a.put oi.dst v) w → Q (.panic c) a w := by exact fun _ _ _ h => h) : yS P md ops Q S ds (fuel + 1) l a w :=
  pu_ i N l' hT v hy a' ha h hi hN hc hQ hw
theorem pW {oi : Oper} {fuel : Nat} {l : Array Bool} {a : Act} {w : World} (i N : Nat) (l' : Array Bool) (hT : wD md ops = T) {a' : Act} (h : yS P md ops Q S ds fuel l' a' w)
    (hi : ops[i]? = some oi := by rfl) (hN : oi.dst = some N := by rfl) (hc : anyT T l.toList l'.toList i = true := by kernel_rfl) (hw : Region.wanted oi (yielded ops a.tmps) = false := by rfl) (ha : a.put (some N) undef = a' := by simp only [Act.put, sq, iw, jw]; rfl) (hQ : ∀ c a w, Q (.panic c) (a.put oi.dst undef) w → Q (.panic c) a w := by exact fun _ _ _ h => h) : yS P md ops Q S ds (fuel + 1) l a w :=
  pv_ i N l' hT a' ha h hi hN hc hQ hw
theorem tU {oi : Oper} {fuel : Nat} {l : Array Bool} {a : Act} {w : World} {B : List Nat} (i N : Nat) (l' : Array Bool) (hT : wD md ops = T) (hB : xR T.2 B = true) (hS : S w) (v : Value) (hy : ∀ w, S w → (execOp a.eval oi).run P w = .ok (.value v) w) {a' : Act} (h : yS P md ops Q S ds fuel l' a' w)
    (hi : ops[i]? = some oi := by rfl) (hN : oi.dst = some N := by rfl) (hc : takeW T B ds l.toList l'.toList i = true := by kernel_rfl) (hw : Region.wanted oi (yielded ops a.tmps) = true := by rfl) (ha : a.put (some N) v = a' := by simp only [Act.put, sq, iw, jw]; rfl) (hQ : ∀ c a w, Q (.panic c) (a.put oi.dst v) w → Q (.panic c) a w := by exact fun _ _ _ h => h) : yS P md ops Q S ds (fuel + 1) l a w :=
  tk_ i N l' hT hB hS v hy a' ha h hi hN hc hQ hw
end
end Go.Proofs.Ytoonahobmlnflaa.PC
namespace Go.Proofs.Ytoonahobmlnflaa.PC
open Go.RowKit A B C
attribute [local go_sem] yC yE xO xP yK yL yD yF
end Go.Proofs.Ytoonahobmlnflaa.PC
