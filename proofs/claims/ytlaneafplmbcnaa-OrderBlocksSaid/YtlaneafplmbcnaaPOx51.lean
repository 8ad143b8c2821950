/- What the Go functions of this part compute, as Lean functions, and that the machine's calls come to just that; written for this claim by a program of the session (gen.sh, after the kit's printer). -/
import Derived.Test.YtlaneafplmbcnaaPOx0
namespace Go.Proofs.Ytlaneafplmbcnaa.PO
open Go.RowKit Go.Proofs.YtlaneafplmbcnaaW.PrintWords Go.Proofs.YtlaneafplmbcnaaW.PrintLast Go.Proofs.YtlaneafplmbcnaaW.PrintMore
attribute [local go_sem] max2_int min2_int max_two min_two max_three min_three max_four min_four   -- for this text's walks alone
set_option linter.unusedVariables false
set_option linter.unusedSimpArgs false

/-! ### orreryref21_free: function 19 -/
def orreryref21_free.l0 : Nat → List (List Int) → List Int → Int → Int → Int → Option (Bool)
  | 0, _, _, _, _, _ => none
  | k + 1, x0, x1, x2, x9, x10 => if x10 < x9 then (if 0 ≤ x2 then (if x2 < (x0.length : Int) then (if 0 ≤ x10 then (if x10 < ((rd_L3 x0 x2).length : Int) then (if (rd (rd_L3 x0 x2) x10) = 1 then (if x10 < (x1.length : Int) then (if (rd x1 x10) = 0 then (if x10 < (x0.length : Int) then (if x2 < ((rd_L3 x0 x10).length : Int) then (if (rd (rd_L3 x0 x10) x2) = 0 then (if x10 = x2 then (orreryref21_free.l0 k x0 x1 x2 x9 (wrap64 (x10 + 1))) else (some false)) else (orreryref21_free.l0 k x0 x1 x2 x9 (wrap64 (x10 + 1)))) else (none)) else (none)) else (orreryref21_free.l0 k x0 x1 x2 x9 (wrap64 (x10 + 1)))) else (none)) else (orreryref21_free.l0 k x0 x1 x2 x9 (wrap64 (x10 + 1)))) else (none)) else (none)) else (none)) else (none)) else (some true)
def orreryref21_free.f (k : Nat) (l0 : List (List Int)) (l1 : List Int) (a2 : Int) : Option (Bool) := orreryref21_free.l0 k l0 l1 a2 (l0.length : Int) 0
theorem orreryref21_free.mono_l : ∀ k, (∀ y0 y1 y2 y3 y4, LeO (orreryref21_free.l0 k y0 y1 y2 y3 y4) (orreryref21_free.l0 (k + 1) y0 y1 y2 y3 y4))
  | 0 => fun _ _ _ _ _ r h => by simp [orreryref21_free.l0] at h
  | k + 1 => by
    have ih0 := orreryref21_free.mono_l k
    · intro y0 y1 y2 y3 y4
      unfold orreryref21_free.l0
      repeat' first
      | (with_reducible exact ih0 _ _ _ _ _)
      | (with_reducible exact LeO.refl _)
      | (with_reducible exact LeO.none _)
      | (with_reducible refine LeO.ite ?_ ?_)
      | (with_reducible refine LeO.bind ?_ (fun _ => ?_))
      | exact ih0 _ _ _ _ _
      | exact LeO.none _
      | refine LeO.ite ?_ ?_
      | refine LeO.bind ?_ (fun _ => ?_)
theorem orreryref21_free.mono : ∀ a0 a1 a2 k, LeO (orreryref21_free.f k a0 a1 a2) (orreryref21_free.f (k + 1) a0 a1 a2) := by
 intro a0 a1 a2 k
 have ih0 := orreryref21_free.mono_l k
 unfold orreryref21_free.f
 repeat' first
     | (with_reducible exact ih0 _ _ _ _ _)
     | (with_reducible exact LeO.refl _)
     | (with_reducible exact LeO.none _)
     | (with_reducible refine LeO.ite ?_ ?_)
     | (with_reducible refine LeO.bind ?_ (fun _ => ?_))
     | exact ih0 _ _ _ _ _
     | exact LeO.none _
     | refine LeO.ite ?_ ?_
     | refine LeO.bind ?_ (fun _ => ?_)
set_option maxHeartbeats 8000000 in
set_option maxRecDepth 100000 in
theorem orreryref21_free.calls (k : Nat) (A0 : Option Addr) (c0 : Nat) (l0 : List (List Int)) (A1 : Option Addr) (c1 : Nat) (l1 : List Int) (a2 : Int) (r : Bool) (w : World) (hr0 : Kd.C (Kd.slice 3 (Kd.int .i64)) w A0 l0.length l0) (hc0 : l0.length ≤ c0) (hr1 : Kd.C (Kd.int .i64) w A1 l1.length l1) (hc1 : l1.length ≤ c1) (h : orreryref21_free.f k l0 l1 a2 = some r) :
    Calls Try.prog 19 #[.slice A0 l0.length c0, .slice A1 l1.length c1, .int .i64 a2] w fun e w' => e = .returned (.bool r) ∧ Drawn0 w w' := by
 have HR0 := Aside0.mk hr0
 have HC0 := Aside0.mk hc0
 clear hr0 hc0
 have HR1 := Aside0.mk hr1
 have HC1 := Aside0.mk hc1
 clear hr1 hc1
 have H : (orreryref21_free.l0 k l0 l1 a2 (l0.length : Int) 0) = some r := h
 clear h
 have H' := Aside0.mk H
 clear H
 go_enter Try.func19, Try.ntmps19
 go_wp2
 go_loopg [10] k (fun kq v10 w' => ∃ (x10_1 : Int), v10 = .int .i64 x10_1 ∧ Aside0 (orreryref21_free.l0 kq l0 l1 a2 (l0.length : Int) x10_1 = some r) ∧ Aside0 (kq ≤ k) ∧ Drawn0 w w')
 case atStart => exact ⟨(0), (by first | rfl | (simp; done) | (simp [*]; done)), H', ⟨Nat.le_refl _⟩, by repeat (first | exact Drawn0.refl _ | apply Drawn0.step)⟩
 case round =>
  clear H'
  try clear c1
  try clear p2
  obtain ⟨x10_1, rfl, HA, HK1, ⟨m1, rfl⟩⟩ := hrel
  cases gk with
  | zero => exact absurd HA.out (by simp [orreryref21_free.l0])
  | succ k1 =>
   have H := HA.out
   clear HA
   simp only [orreryref21_free.l0] at H
   by_cases c4 : x10_1 < (l0.length : Int)
   case neg =>
    rw [if_neg c4] at H
    have c4b0 : decide (x10_1 < (l0.length : Int)) = false := decide_eq_false c4
    clear c4
    obtain rfl := Option.some.inj H
    go_wp2
    go_ret
    exact ⟨by first | rfl | (simp; done) | (simp [*]; done), by repeat (first | exact Drawn0.refl _ | apply Drawn0.step)⟩
   rw [if_pos c4] at H
   have c4b0 : decide (x10_1 < (l0.length : Int)) = true := decide_eq_true c4
   clear c4
   by_cases c5 : 0 ≤ a2
   case neg => rw [if_neg c5] at H; exact absurd H (by simp)
   rw [if_pos c5] at H
   have c5b0 : decide (0 ≤ a2) = true := decide_eq_true c5
   clear c5
   by_cases c6 : a2 < (l0.length : Int)
   case neg => rw [if_neg c6] at H; exact absurd H (by simp)
   rw [if_pos c6] at H
   have c6b0 : decide (a2 < (l0.length : Int)) = true := decide_eq_true c6
   clear c6
   by_cases c7 : 0 ≤ x10_1
   case neg => rw [if_neg c7] at H; exact absurd H (by simp)
   rw [if_pos c7] at H
   have c7b0 : decide (0 ≤ x10_1) = true := decide_eq_true c7
   clear c7
   by_cases c8 : x10_1 < ((rd_L3 l0 a2).length : Int)
   case neg => rw [if_neg c8] at H; exact absurd H (by simp)
   rw [if_pos c8] at H
   have c8b0 : decide (x10_1 < ((rd_L3 l0 a2).length : Int)) = true := decide_eq_true c8
   clear c8
   by_cases c9 : (rd (rd_L3 l0 a2) x10_1) = 1
   case neg =>
    rw [if_neg c9] at H
    have c9b0 : ((rd (rd_L3 l0 a2) x10_1) == 1) = false := beq_eq_false_iff_ne.mpr c9
    have c9b1 : ((rd (rd_L3 l0 a2) x10_1) != 1) = true := bne_iff_ne.mpr c9
    have H' := Aside0.mk H
    clear H
    have p309 : 0 ≤ (a2 : Int) := of_decide_eq_true (by first | (with_reducible assumption) | assumption)
    have q309 : a2 < (l0.length : Int) := of_decide_eq_true (by first | (with_reducible assumption) | assumption)
    obtain ⟨ad309, A309_0, c309_0, e309, hx309_0, hl309_0, hi309_0⟩ := at_L3 HR0.out a2 p309 q309
    cases e309
    have HR309_0 := Aside0.mk hi309_0
    have HC309_0 := Aside0.mk hl309_0
    clear hi309_0 hl309_0
    replace p309 := eq_true p309
    replace q309 := eq_true q309
    have p310 : 0 ≤ (x10_1 : Int) := of_decide_eq_true (by first | (with_reducible assumption) | assumption)
    have q310 : x10_1 < ((rd_L3 l0 a2).length : Int) := of_decide_eq_true (by first | (with_reducible assumption) | assumption)
    obtain ⟨ad310, e310, hx310_0⟩ := Kd.at_int HR309_0.out x10_1 p310 q310
    cases e310
    replace p310 := eq_true p310
    replace q310 := eq_true q310
    go_wp2
    (first | go_roundg k1 | (refine Handed.intro k1 ?measure ?_; rotate_left; go_step; (repeat apply Exists.intro); (refine ⟨?rel, ?fr_⟩); (case fr_ => (simp only [add_plain]; rfl))))
    case measure => have := HK1.out; omega
    case rel => exact ⟨(wrap64 (x10_1 + 1)), (by first | rfl | (simp; done) | (simp [*]; done)), H', ⟨by have := HK1.out; omega⟩, by repeat (first | exact Drawn0.refl _ | apply Drawn0.step)⟩
   rw [if_pos c9] at H
   have c9b0 : ((rd (rd_L3 l0 a2) x10_1) == 1) = true := beq_iff_eq.mpr c9
   have c9b1 : ((rd (rd_L3 l0 a2) x10_1) != 1) = false := bne_eq_false_iff_eq.mpr c9
   clear c9
   by_cases c10 : x10_1 < (l1.length : Int)
   case neg => rw [if_neg c10] at H; exact absurd H (by simp)
   rw [if_pos c10] at H
   have c10b0 : decide (x10_1 < (l1.length : Int)) = true := decide_eq_true c10
   clear c10
   by_cases c11 : (rd l1 x10_1) = 0
   case neg =>
    rw [if_neg c11] at H
    have c11b0 : ((rd l1 x10_1) == 0) = false := beq_eq_false_iff_ne.mpr c11
    have c11b1 : ((rd l1 x10_1) != 0) = true := bne_iff_ne.mpr c11
    have H' := Aside0.mk H
    clear H
    have p309 : 0 ≤ (a2 : Int) := of_decide_eq_true (by first | (with_reducible assumption) | assumption)
    have q309 : a2 < (l0.length : Int) := of_decide_eq_true (by first | (with_reducible assumption) | assumption)
    obtain ⟨ad309, A309_0, c309_0, e309, hx309_0, hl309_0, hi309_0⟩ := at_L3 HR0.out a2 p309 q309
    cases e309
    have HR309_0 := Aside0.mk hi309_0
    have HC309_0 := Aside0.mk hl309_0
    clear hi309_0 hl309_0
    replace p309 := eq_true p309
    replace q309 := eq_true q309
    have p310 : 0 ≤ (x10_1 : Int) := of_decide_eq_true (by first | (with_reducible assumption) | assumption)
    have q310 : x10_1 < ((rd_L3 l0 a2).length : Int) := of_decide_eq_true (by first | (with_reducible assumption) | assumption)
    obtain ⟨ad310, e310, hx310_0⟩ := Kd.at_int HR309_0.out x10_1 p310 q310
    cases e310
    replace p310 := eq_true p310
    replace q310 := eq_true q310
    have p311 : 0 ≤ (x10_1 : Int) := of_decide_eq_true (by first | (with_reducible assumption) | assumption)
    have q311 : x10_1 < (l1.length : Int) := of_decide_eq_true (by first | (with_reducible assumption) | assumption)
    obtain ⟨ad311, e311, hx311_0⟩ := Kd.at_int HR1.out x10_1 p311 q311
    cases e311
    replace p311 := eq_true p311
    replace q311 := eq_true q311
    go_wp2
    (first | go_roundg k1 | (refine Handed.intro k1 ?measure ?_; rotate_left; go_step; (repeat apply Exists.intro); (refine ⟨?rel, ?fr_⟩); (case fr_ => (simp only [add_plain]; rfl))))
    case measure => have := HK1.out; omega
    case rel => exact ⟨(wrap64 (x10_1 + 1)), (by first | rfl | (simp; done) | (simp [*]; done)), H', ⟨by have := HK1.out; omega⟩, by repeat (first | exact Drawn0.refl _ | apply Drawn0.step)⟩
   rw [if_pos c11] at H
   have c11b0 : ((rd l1 x10_1) == 0) = true := beq_iff_eq.mpr c11
   have c11b1 : ((rd l1 x10_1) != 0) = false := bne_eq_false_iff_eq.mpr c11
   clear c11
   by_cases c12 : x10_1 < (l0.length : Int)
   case neg => rw [if_neg c12] at H; exact absurd H (by simp)
   rw [if_pos c12] at H
   have c12b0 : decide (x10_1 < (l0.length : Int)) = true := decide_eq_true c12
   clear c12
   by_cases c13 : a2 < ((rd_L3 l0 x10_1).length : Int)
   case neg => rw [if_neg c13] at H; exact absurd H (by simp)
   rw [if_pos c13] at H
   have c13b0 : decide (a2 < ((rd_L3 l0 x10_1).length : Int)) = true := decide_eq_true c13
   clear c13
   by_cases c14 : (rd (rd_L3 l0 x10_1) a2) = 0
   case neg =>
    rw [if_neg c14] at H
    have c14b0 : ((rd (rd_L3 l0 x10_1) a2) == 0) = false := beq_eq_false_iff_ne.mpr c14
    have c14b1 : ((rd (rd_L3 l0 x10_1) a2) != 0) = true := bne_iff_ne.mpr c14
    have H' := Aside0.mk H
    clear H
    have p309 : 0 ≤ (a2 : Int) := of_decide_eq_true (by first | (with_reducible assumption) | assumption)
    have q309 : a2 < (l0.length : Int) := of_decide_eq_true (by first | (with_reducible assumption) | assumption)
    obtain ⟨ad309, A309_0, c309_0, e309, hx309_0, hl309_0, hi309_0⟩ := at_L3 HR0.out a2 p309 q309
    cases e309
    have HR309_0 := Aside0.mk hi309_0
    have HC309_0 := Aside0.mk hl309_0
    clear hi309_0 hl309_0
    replace p309 := eq_true p309
    replace q309 := eq_true q309
    have p310 : 0 ≤ (x10_1 : Int) := of_decide_eq_true (by first | (with_reducible assumption) | assumption)
    have q310 : x10_1 < ((rd_L3 l0 a2).length : Int) := of_decide_eq_true (by first | (with_reducible assumption) | assumption)
    obtain ⟨ad310, e310, hx310_0⟩ := Kd.at_int HR309_0.out x10_1 p310 q310
    cases e310
    replace p310 := eq_true p310
    replace q310 := eq_true q310
    have p311 : 0 ≤ (x10_1 : Int) := of_decide_eq_true (by first | (with_reducible assumption) | assumption)
    have q311 : x10_1 < (l1.length : Int) := of_decide_eq_true (by first | (with_reducible assumption) | assumption)
    obtain ⟨ad311, e311, hx311_0⟩ := Kd.at_int HR1.out x10_1 p311 q311
    cases e311
    replace p311 := eq_true p311
    replace q311 := eq_true q311
    have p312 : 0 ≤ (x10_1 : Int) := of_decide_eq_true (by first | (with_reducible assumption) | assumption)
    have q312 : x10_1 < (l0.length : Int) := of_decide_eq_true (by first | (with_reducible assumption) | assumption)
    obtain ⟨ad312, A312_0, c312_0, e312, hx312_0, hl312_0, hi312_0⟩ := at_L3 HR0.out x10_1 p312 q312
    obtain rfl : ad309 = ad312 := (by injection e312)
    have HR312_0 := Aside0.mk hi312_0
    have HC312_0 := Aside0.mk hl312_0
    clear hi312_0 hl312_0
    replace p312 := eq_true p312
    replace q312 := eq_true q312
    have p313 : 0 ≤ (a2 : Int) := of_decide_eq_true (by first | (with_reducible assumption) | assumption)
    have q313 : a2 < ((rd_L3 l0 x10_1).length : Int) := of_decide_eq_true (by first | (with_reducible assumption) | assumption)
    obtain ⟨ad313, e313, hx313_0⟩ := Kd.at_int HR312_0.out a2 p313 q313
    cases e313
    replace p313 := eq_true p313
    replace q313 := eq_true q313
    go_wp2
    (first | go_roundg k1 | (refine Handed.intro k1 ?measure ?_; rotate_left; go_step; (repeat apply Exists.intro); (refine ⟨?rel, ?fr_⟩); (case fr_ => (simp only [add_plain]; rfl))))
    case measure => have := HK1.out; omega
    case rel => exact ⟨(wrap64 (x10_1 + 1)), (by first | rfl | (simp; done) | (simp [*]; done)), H', ⟨by have := HK1.out; omega⟩, by repeat (first | exact Drawn0.refl _ | apply Drawn0.step)⟩
   rw [if_pos c14] at H
   have c14b0 : ((rd (rd_L3 l0 x10_1) a2) == 0) = true := beq_iff_eq.mpr c14
   have c14b1 : ((rd (rd_L3 l0 x10_1) a2) != 0) = false := bne_eq_false_iff_eq.mpr c14
   clear c14
   by_cases c15 : x10_1 = a2
   case neg =>
    rw [if_neg c15] at H
    have c15b0 : (x10_1 == a2) = false := beq_eq_false_iff_ne.mpr c15
    have c15b1 : (x10_1 != a2) = true := bne_iff_ne.mpr c15
    obtain rfl := Option.some.inj H
    have p309 : 0 ≤ (a2 : Int) := of_decide_eq_true (by first | (with_reducible assumption) | assumption)
    have q309 : a2 < (l0.length : Int) := of_decide_eq_true (by first | (with_reducible assumption) | assumption)
    obtain ⟨ad309, A309_0, c309_0, e309, hx309_0, hl309_0, hi309_0⟩ := at_L3 HR0.out a2 p309 q309
    cases e309
    have HR309_0 := Aside0.mk hi309_0
    have HC309_0 := Aside0.mk hl309_0
    clear hi309_0 hl309_0
    replace p309 := eq_true p309
    replace q309 := eq_true q309
    have p310 : 0 ≤ (x10_1 : Int) := of_decide_eq_true (by first | (with_reducible assumption) | assumption)
    have q310 : x10_1 < ((rd_L3 l0 a2).length : Int) := of_decide_eq_true (by first | (with_reducible assumption) | assumption)
    obtain ⟨ad310, e310, hx310_0⟩ := Kd.at_int HR309_0.out x10_1 p310 q310
    cases e310
    replace p310 := eq_true p310
    replace q310 := eq_true q310
    have p311 : 0 ≤ (x10_1 : Int) := of_decide_eq_true (by first | (with_reducible assumption) | assumption)
    have q311 : x10_1 < (l1.length : Int) := of_decide_eq_true (by first | (with_reducible assumption) | assumption)
    obtain ⟨ad311, e311, hx311_0⟩ := Kd.at_int HR1.out x10_1 p311 q311
    cases e311
    replace p311 := eq_true p311
    replace q311 := eq_true q311
    have p312 : 0 ≤ (x10_1 : Int) := of_decide_eq_true (by first | (with_reducible assumption) | assumption)
    have q312 : x10_1 < (l0.length : Int) := of_decide_eq_true (by first | (with_reducible assumption) | assumption)
    obtain ⟨ad312, A312_0, c312_0, e312, hx312_0, hl312_0, hi312_0⟩ := at_L3 HR0.out x10_1 p312 q312
    obtain rfl : ad309 = ad312 := (by injection e312)
    have HR312_0 := Aside0.mk hi312_0
    have HC312_0 := Aside0.mk hl312_0
    clear hi312_0 hl312_0
    replace p312 := eq_true p312
    replace q312 := eq_true q312
    have p313 : 0 ≤ (a2 : Int) := of_decide_eq_true (by first | (with_reducible assumption) | assumption)
    have q313 : a2 < ((rd_L3 l0 x10_1).length : Int) := of_decide_eq_true (by first | (with_reducible assumption) | assumption)
    obtain ⟨ad313, e313, hx313_0⟩ := Kd.at_int HR312_0.out a2 p313 q313
    cases e313
    replace p313 := eq_true p313
    replace q313 := eq_true q313
    go_wp2
    go_ret
    exact ⟨by first | rfl | (simp; done) | (simp [*]; done), by repeat (first | exact Drawn0.refl _ | apply Drawn0.step)⟩
   rw [if_pos c15] at H
   have c15b0 : (x10_1 == a2) = true := beq_iff_eq.mpr c15
   have c15b1 : (x10_1 != a2) = false := bne_eq_false_iff_eq.mpr c15
   clear c15
   have H' := Aside0.mk H
   clear H
   have p309 : 0 ≤ (a2 : Int) := of_decide_eq_true (by first | (with_reducible assumption) | assumption)
   have q309 : a2 < (l0.length : Int) := of_decide_eq_true (by first | (with_reducible assumption) | assumption)
   obtain ⟨ad309, A309_0, c309_0, e309, hx309_0, hl309_0, hi309_0⟩ := at_L3 HR0.out a2 p309 q309
   cases e309
   have HR309_0 := Aside0.mk hi309_0
   have HC309_0 := Aside0.mk hl309_0
   clear hi309_0 hl309_0
   replace p309 := eq_true p309
   replace q309 := eq_true q309
   have p310 : 0 ≤ (x10_1 : Int) := of_decide_eq_true (by first | (with_reducible assumption) | assumption)
   have q310 : x10_1 < ((rd_L3 l0 a2).length : Int) := of_decide_eq_true (by first | (with_reducible assumption) | assumption)
   obtain ⟨ad310, e310, hx310_0⟩ := Kd.at_int HR309_0.out x10_1 p310 q310
   cases e310
   replace p310 := eq_true p310
   replace q310 := eq_true q310
   have p311 : 0 ≤ (x10_1 : Int) := of_decide_eq_true (by first | (with_reducible assumption) | assumption)
   have q311 : x10_1 < (l1.length : Int) := of_decide_eq_true (by first | (with_reducible assumption) | assumption)
   obtain ⟨ad311, e311, hx311_0⟩ := Kd.at_int HR1.out x10_1 p311 q311
   cases e311
   replace p311 := eq_true p311
   replace q311 := eq_true q311
   have p312 : 0 ≤ (x10_1 : Int) := of_decide_eq_true (by first | (with_reducible assumption) | assumption)
   have q312 : x10_1 < (l0.length : Int) := of_decide_eq_true (by first | (with_reducible assumption) | assumption)
   obtain ⟨ad312, A312_0, c312_0, e312, hx312_0, hl312_0, hi312_0⟩ := at_L3 HR0.out x10_1 p312 q312
   obtain rfl : ad309 = ad312 := (by injection e312)
   have HR312_0 := Aside0.mk hi312_0
   have HC312_0 := Aside0.mk hl312_0
   clear hi312_0 hl312_0
   replace p312 := eq_true p312
   replace q312 := eq_true q312
   have p313 : 0 ≤ (a2 : Int) := of_decide_eq_true (by first | (with_reducible assumption) | assumption)
   have q313 : a2 < ((rd_L3 l0 x10_1).length : Int) := of_decide_eq_true (by first | (with_reducible assumption) | assumption)
   obtain ⟨ad313, e313, hx313_0⟩ := Kd.at_int HR312_0.out a2 p313 q313
   cases e313
   replace p313 := eq_true p313
   replace q313 := eq_true q313
   go_wp2
   (first | go_roundg k1 | (refine Handed.intro k1 ?measure ?_; rotate_left; go_step; (repeat apply Exists.intro); (refine ⟨?rel, ?fr_⟩); (case fr_ => (simp only [add_plain]; rfl))))
   case measure => have := HK1.out; omega
   case rel => exact ⟨(wrap64 (x10_1 + 1)), (by first | rfl | (simp; done) | (simp [*]; done)), H', ⟨by have := HK1.out; omega⟩, by repeat (first | exact Drawn0.refl _ | apply Drawn0.step)⟩

end Go.Proofs.Ytlaneafplmbcnaa.PO
