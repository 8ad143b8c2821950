/- What the Go functions of this part compute, as Lean functions, and that the machine's calls come to just that; written for this claim by a program of the session (gen.sh, after the kit's printer). -/
import Derived.Test.YtamloclgignfgaaPAx0
namespace Go.Proofs.Ytamloclgignfgaa.PA
open Go.RowKit Go.Proofs.YtamloclgignfgaaW.PrintWords Go.Proofs.YtamloclgignfgaaW.PrintLast Go.Proofs.YtamloclgignfgaaW.PrintMore
attribute [local go_sem] max2_int min2_int max_two min_two max_three min_three max_four min_four   -- for this text's walks alone
set_option linter.unusedVariables false
set_option linter.unusedSimpArgs false

/-! ### orreryref20_Valid: function 22 -/
mutual
def orreryref20_Valid.j0 : Nat → List (List Int) → List Int → List Int → List Int → Bool → Option (Bool)
  | 0, _, _, _, _, _ => none
  | k + 1, x0, x1, x2, x3, x22 => if x22 = true then (some false) else (orreryref20_Valid.l0 k x0 x1 x2 x3 (x0.length : Int) 0)
def orreryref20_Valid.l0 : Nat → List (List Int) → List Int → List Int → List Int → Int → Int → Option (Bool)
  | 0, _, _, _, _, _, _ => none
  | k + 1, x0, x1, x2, x3, x24, x25 => if x25 < x24 then (if 0 ≤ x25 then (if x25 < (x2.length : Int) then (if (rd x2 x25) < 0 then (orreryref20_Valid.j2 k x0 x1 x2 x3 x25 x24 x25 true) else (if x25 < (x3.length : Int) then (if (rd x3 x25) < 0 then (orreryref20_Valid.j2 k x0 x1 x2 x3 x25 x24 x25 true) else (if x25 < (x1.length : Int) then (if 0 ≤ (rd x1 x25) then (if (rd x1 x25) < (x3.length : Int) then (if x25 < (x0.length : Int) then (if (rd x1 x25) < ((rd_L3 x0 x25).length : Int) then (orreryref20_Valid.j2 k x0 x1 x2 x3 x25 x24 x25 ((wrap64 ((rd x3 (rd x1 x25)) - (rd x2 x25))) != (rd (rd_L3 x0 x25) (rd x1 x25)))) else (none)) else (none)) else (none)) else (none)) else (none))) else (none))) else (none)) else (none)) else (some true)
def orreryref20_Valid.j2 : Nat → List (List Int) → List Int → List Int → List Int → Int → Int → Int → Bool → Option (Bool)
  | 0, _, _, _, _, _, _, _, _ => none
  | k + 1, x0, x1, x2, x3, x9, x24, x25, x64 => if x64 = true then (some false) else (orreryref20_Valid.l1 k x0 x1 x2 x3 x9 x24 x25 (x0.length : Int) 0)
def orreryref20_Valid.l1 : Nat → List (List Int) → List Int → List Int → List Int → Int → Int → Int → Int → Int → Option (Bool)
  | 0, _, _, _, _, _, _, _, _, _ => none
  | k + 1, x0, x1, x2, x3, x9, x24, x25, x66, x67 => if x67 < x66 then (if 0 ≤ x9 then (if x9 < (x0.length : Int) then (if 0 ≤ x67 then (if x67 < ((rd_L3 x0 x9).length : Int) then (if (rd (rd_L3 x0 x9) x67) ≥ 0 then (if x67 < (x3.length : Int) then (if x9 < (x2.length : Int) then (if (wrap64 ((rd x3 x67) - (rd x2 x9))) < (rd (rd_L3 x0 x9) x67) then (some false) else (orreryref20_Valid.l1 k x0 x1 x2 x3 x9 x24 x25 x66 (wrap64 (x67 + 1)))) else (none)) else (none)) else (orreryref20_Valid.l1 k x0 x1 x2 x3 x9 x24 x25 x66 (wrap64 (x67 + 1)))) else (none)) else (none)) else (none)) else (none)) else (orreryref20_Valid.l0 k x0 x1 x2 x3 x24 (wrap64 (x25 + 1)))
end
def orreryref20_Valid.f (k : Nat) (l0 : List (List Int)) (l1 : List Int) (l2 : List Int) (l3 : List Int) : Option (Bool) := if (l2.length : Int) = (l0.length : Int) then (orreryref20_Valid.j0 k l0 l1 l2 l3 ((l3.length : Int) != (l0.length : Int))) else (orreryref20_Valid.j0 k l0 l1 l2 l3 true)
theorem orreryref20_Valid.mono_l : ∀ k, (∀ y0 y1 y2 y3 y4, LeO (orreryref20_Valid.j0 k y0 y1 y2 y3 y4) (orreryref20_Valid.j0 (k + 1) y0 y1 y2 y3 y4)) ∧ (∀ y0 y1 y2 y3 y4 y5, LeO (orreryref20_Valid.l0 k y0 y1 y2 y3 y4 y5) (orreryref20_Valid.l0 (k + 1) y0 y1 y2 y3 y4 y5)) ∧ (∀ y0 y1 y2 y3 y4 y5 y6 y7, LeO (orreryref20_Valid.j2 k y0 y1 y2 y3 y4 y5 y6 y7) (orreryref20_Valid.j2 (k + 1) y0 y1 y2 y3 y4 y5 y6 y7)) ∧ (∀ y0 y1 y2 y3 y4 y5 y6 y7 y8, LeO (orreryref20_Valid.l1 k y0 y1 y2 y3 y4 y5 y6 y7 y8) (orreryref20_Valid.l1 (k + 1) y0 y1 y2 y3 y4 y5 y6 y7 y8))
  | 0 => ⟨fun _ _ _ _ _ r h => by simp [orreryref20_Valid.j0] at h, fun _ _ _ _ _ _ r h => by simp [orreryref20_Valid.l0] at h, fun _ _ _ _ _ _ _ _ r h => by simp [orreryref20_Valid.j2] at h, fun _ _ _ _ _ _ _ _ _ r h => by simp [orreryref20_Valid.l1] at h⟩
  | k + 1 => by
    obtain ⟨ih0, ih1, ih2, ih3⟩ := orreryref20_Valid.mono_l k
    refine ⟨?_, ?_, ?_, ?_⟩
    · intro y0 y1 y2 y3 y4
      unfold orreryref20_Valid.j0
      repeat' first
      | (with_reducible exact ih0 _ _ _ _ _)
      | (with_reducible exact ih1 _ _ _ _ _ _)
      | (with_reducible exact ih2 _ _ _ _ _ _ _ _)
      | (with_reducible exact ih3 _ _ _ _ _ _ _ _ _)
      | (with_reducible exact LeO.refl _)
      | (with_reducible exact LeO.none _)
      | (with_reducible refine LeO.ite ?_ ?_)
      | (with_reducible refine LeO.bind ?_ (fun _ => ?_))
      | exact ih0 _ _ _ _ _
      | exact ih1 _ _ _ _ _ _
      | exact ih2 _ _ _ _ _ _ _ _
      | exact ih3 _ _ _ _ _ _ _ _ _
      | exact LeO.none _
      | refine LeO.ite ?_ ?_
      | refine LeO.bind ?_ (fun _ => ?_)
    · intro y0 y1 y2 y3 y4 y5
      unfold orreryref20_Valid.l0
      repeat' first
      | (with_reducible exact ih0 _ _ _ _ _)
      | (with_reducible exact ih1 _ _ _ _ _ _)
      | (with_reducible exact ih2 _ _ _ _ _ _ _ _)
      | (with_reducible exact ih3 _ _ _ _ _ _ _ _ _)
      | (with_reducible exact LeO.refl _)
      | (with_reducible exact LeO.none _)
      | (with_reducible refine LeO.ite ?_ ?_)
      | (with_reducible refine LeO.bind ?_ (fun _ => ?_))
      | exact ih0 _ _ _ _ _
      | exact ih1 _ _ _ _ _ _
      | exact ih2 _ _ _ _ _ _ _ _
      | exact ih3 _ _ _ _ _ _ _ _ _
      | exact LeO.none _
      | refine LeO.ite ?_ ?_
      | refine LeO.bind ?_ (fun _ => ?_)
    · intro y0 y1 y2 y3 y4 y5 y6 y7
      unfold orreryref20_Valid.j2
      repeat' first
      | (with_reducible exact ih0 _ _ _ _ _)
      | (with_reducible exact ih1 _ _ _ _ _ _)
      | (with_reducible exact ih2 _ _ _ _ _ _ _ _)
      | (with_reducible exact ih3 _ _ _ _ _ _ _ _ _)
      | (with_reducible exact LeO.refl _)
      | (with_reducible exact LeO.none _)
      | (with_reducible refine LeO.ite ?_ ?_)
      | (with_reducible refine LeO.bind ?_ (fun _ => ?_))
      | exact ih0 _ _ _ _ _
      | exact ih1 _ _ _ _ _ _
      | exact ih2 _ _ _ _ _ _ _ _
      | exact ih3 _ _ _ _ _ _ _ _ _
      | exact LeO.none _
      | refine LeO.ite ?_ ?_
      | refine LeO.bind ?_ (fun _ => ?_)
    · intro y0 y1 y2 y3 y4 y5 y6 y7 y8
      unfold orreryref20_Valid.l1
      repeat' first
      | (with_reducible exact ih0 _ _ _ _ _)
      | (with_reducible exact ih1 _ _ _ _ _ _)
      | (with_reducible exact ih2 _ _ _ _ _ _ _ _)
      | (with_reducible exact ih3 _ _ _ _ _ _ _ _ _)
      | (with_reducible exact LeO.refl _)
      | (with_reducible exact LeO.none _)
      | (with_reducible refine LeO.ite ?_ ?_)
      | (with_reducible refine LeO.bind ?_ (fun _ => ?_))
      | exact ih0 _ _ _ _ _
      | exact ih1 _ _ _ _ _ _
      | exact ih2 _ _ _ _ _ _ _ _
      | exact ih3 _ _ _ _ _ _ _ _ _
      | exact LeO.none _
      | refine LeO.ite ?_ ?_
      | refine LeO.bind ?_ (fun _ => ?_)
theorem orreryref20_Valid.mono : ∀ a0 a1 a2 a3 k, LeO (orreryref20_Valid.f k a0 a1 a2 a3) (orreryref20_Valid.f (k + 1) a0 a1 a2 a3) := by
 intro a0 a1 a2 a3 k
 obtain ⟨ih0, ih1, ih2, ih3⟩ := orreryref20_Valid.mono_l k
 unfold orreryref20_Valid.f
 repeat' first
     | (with_reducible exact ih0 _ _ _ _ _)
     | (with_reducible exact ih1 _ _ _ _ _ _)
     | (with_reducible exact ih2 _ _ _ _ _ _ _ _)
     | (with_reducible exact ih3 _ _ _ _ _ _ _ _ _)
     | (with_reducible exact LeO.refl _)
     | (with_reducible exact LeO.none _)
     | (with_reducible refine LeO.ite ?_ ?_)
     | (with_reducible refine LeO.bind ?_ (fun _ => ?_))
     | exact ih0 _ _ _ _ _
     | exact ih1 _ _ _ _ _ _
     | exact ih2 _ _ _ _ _ _ _ _
     | exact ih3 _ _ _ _ _ _ _ _ _
     | exact LeO.none _
     | refine LeO.ite ?_ ?_
     | refine LeO.bind ?_ (fun _ => ?_)
set_option maxHeartbeats 8000000 in
set_option maxRecDepth 100000 in
theorem orreryref20_Valid.calls (k : Nat) (A0 : Option Addr) (c0 : Nat) (l0 : List (List Int)) (A1 : Option Addr) (c1 : Nat) (l1 : List Int) (A2 : Option Addr) (c2 : Nat) (l2 : List Int) (A3 : Option Addr) (c3 : Nat) (l3 : List Int) (r : Bool) (w : World) (hr0 : Kd.C (Kd.slice 3 (Kd.int .i64)) w A0 l0.length l0) (hc0 : l0.length ≤ c0) (hr1 : Kd.C (Kd.int .i64) w A1 l1.length l1) (hc1 : l1.length ≤ c1) (hr2 : Kd.C (Kd.int .i64) w A2 l2.length l2) (hc2 : l2.length ≤ c2) (hr3 : Kd.C (Kd.int .i64) w A3 l3.length l3) (hc3 : l3.length ≤ c3) (h : orreryref20_Valid.f k l0 l1 l2 l3 = some r) :
    Calls Try.prog 22 #[.slice A0 l0.length c0, .slice A1 l1.length c1, .slice A2 l2.length c2, .slice A3 l3.length c3] w fun e w' => e = .returned (.bool r) ∧ Drawn0 w w' := by
 have HR0 := Aside0.mk hr0
 have HC0 := Aside0.mk hc0
 clear hr0 hc0
 have HR1 := Aside0.mk hr1
 have HC1 := Aside0.mk hc1
 clear hr1 hc1
 have HR2 := Aside0.mk hr2
 have HC2 := Aside0.mk hc2
 clear hr2 hc2
 have HR3 := Aside0.mk hr3
 have HC3 := Aside0.mk hc3
 clear hr3 hc3
 have H : (if (l2.length : Int) = (l0.length : Int) then (orreryref20_Valid.j0 k l0 l1 l2 l3 ((l3.length : Int) != (l0.length : Int))) else (orreryref20_Valid.j0 k l0 l1 l2 l3 true)) = some r := h
 clear h
 have HC5 := Aside0.mk H
 clear H
 go_enter Try.func22, Try.ntmps22
 go_upto_region 1 with (fail)
 repeat (go_quiet (fail); go_upto_region 1 with (fail))
 go_cut [22] (fun v22 wc => ∃ (kq : Nat) (x22_4 : Bool), v22 = .bool x22_4 ∧ Aside0 (orreryref20_Valid.j0 kq l0 l1 l2 l3 x22_4 = some r) ∧ Aside0 (kq ≤ k) ∧ Drawn0 w wc)
 case first =>
  have H := HC5.out
  clear HC5
  by_cases c6 : (l2.length : Int) = (l0.length : Int)
  case neg =>
   rw [if_neg c6] at H
   have c6b0 : ((l2.length : Int) == (l0.length : Int)) = false := beq_eq_false_iff_ne.mpr c6
   have c6b1 : ((l2.length : Int) != (l0.length : Int)) = true := bne_iff_ne.mpr c6
   have c6b2 : (l2.length == l0.length) = false := by first | simpa using c6 | (simp at c6 ⊢; omega)
   (first | rw [c6b0] | (simp only [i64_w, i32_w]; rw [c6b0]) | skip)
   have H' := Aside0.mk H
   clear H
   go_wp2
   repeat (go_quiet (fail); try go_wp2)
   go_meet
   case rel => exact ⟨_, (true), (by first | rfl | (simp; done) | (simp [*]; done)), H', ⟨by first | omega | exact Nat.le_refl _⟩, by repeat (first | exact Drawn0.refl _ | apply Drawn0.step)⟩
  rw [if_pos c6] at H
  have c6b0 : ((l2.length : Int) == (l0.length : Int)) = true := beq_iff_eq.mpr c6
  have c6b1 : ((l2.length : Int) != (l0.length : Int)) = false := bne_eq_false_iff_eq.mpr c6
  have c6b2 : (l2.length == l0.length) = true := by first | simpa using c6 | (simp at c6 ⊢; omega)
  clear c6
  (first | rw [c6b0] | (simp only [i64_w, i32_w]; rw [c6b0]) | skip)
  have H' := Aside0.mk H
  clear H
  go_wp2
  repeat (go_quiet (fail); try go_wp2)
  go_meet
  case rel => exact ⟨_, (((l3.length : Int) != (l0.length : Int))), (by first | rfl | (simp; done) | (simp [*]; done)), H', ⟨by first | omega | exact Nat.le_refl _⟩, by repeat (first | exact Drawn0.refl _ | apply Drawn0.step)⟩
 case rest =>
  clear HC5
  try clear c1
  try clear c2
  try clear p2
  try clear c3
  try clear c6
  try clear c6b0
  try clear c6b1
  try clear c6b2
  obtain ⟨kq, x22_4, rfl, HA, HJ4, ⟨mc4, rfl⟩⟩ := hcut
  cases kq with
  | zero => exact absurd HA.out (by simp [orreryref20_Valid.j0])
  | succ kj4 =>
   have H := HA.out
   clear HA
   simp only [orreryref20_Valid.j0] at H
   by_cases c7 : x22_4 = true
   case pos =>
    subst c7
    have H1 : (some false) = some r := by rw [if_pos rfl] at H; exact H
    clear H
    have H := H1
    clear H1
    obtain rfl := Option.some.inj H
    go_wp2
    repeat (go_quiet (fail); try go_wp2)
    go_ret
    exact ⟨by first | rfl | (simp; done) | (simp [*]; done), by repeat (first | exact Drawn0.refl _ | apply Drawn0.step)⟩
   replace c7 := Bool.eq_false_iff.mpr c7
   subst c7
   have H1 : (orreryref20_Valid.l0 kj4 l0 l1 l2 l3 (l0.length : Int) 0) = some r := by rw [if_neg (show ¬ (false = true) by decide)] at H; exact H
   clear H
   have H := H1
   clear H1
   have H' := Aside0.mk H
   clear H
   go_wp2
   repeat (go_quiet (fail); try go_wp2)
   go_loopg [25] kj4 (fun kq v25 w' => ∃ (x25_2 : Int), v25 = .int .i64 x25_2 ∧ Aside0 (orreryref20_Valid.l0 kq l0 l1 l2 l3 (l0.length : Int) x25_2 = some r) ∧ Aside0 (kq ≤ kj4) ∧ Drawn0 w w')
   case atStart => exact ⟨(0), (by first | rfl | (simp; done) | (simp [*]; done)), H', ⟨Nat.le_refl _⟩, by repeat (first | exact Drawn0.refl _ | apply Drawn0.step)⟩
   case round =>
    clear H'
    try clear c1
    try clear c2
    try clear p2
    try clear c3
    try clear c4
    try clear c6
    try clear c6b0
    try clear c6b1
    try clear c6b2
    try clear c7
    try clear p2
    obtain ⟨x25_2, rfl, HA, HK2, ⟨m2, rfl⟩⟩ := hrel
    cases gk with
    | zero => exact absurd HA.out (by simp [orreryref20_Valid.l0])
    | succ k2 =>
     have H := HA.out
     clear HA
     simp only [orreryref20_Valid.l0] at H
     by_cases c8 : x25_2 < (l0.length : Int)
     case neg =>
      rw [if_neg c8] at H
      have c8b0 : decide (x25_2 < (l0.length : Int)) = false := decide_eq_false c8
      clear c8
      obtain rfl := Option.some.inj H
      go_wp2
      repeat (go_quiet (fail); try go_wp2)
      go_ret
      exact ⟨by first | rfl | (simp; done) | (simp [*]; done), by repeat (first | exact Drawn0.refl _ | apply Drawn0.step)⟩
     rw [if_pos c8] at H
     have c8b0 : decide (x25_2 < (l0.length : Int)) = true := decide_eq_true c8
     clear c8
     have HC9 := Aside0.mk H
     clear H
     go_upto_region 6 with (fail)
     repeat (go_quiet (fail); go_upto_region 6 with (fail))
     go_cut [64] (fun v64 wc => ∃ (kq : Nat) (x64_8 : Bool), v64 = .bool x64_8 ∧ Aside0 (orreryref20_Valid.j2 kq l0 l1 l2 l3 x25_2 (l0.length : Int) x25_2 x64_8 = some r) ∧ Aside0 (kq ≤ k2) ∧ Drawn0 w wc)
     case first =>
      have H := HC9.out
      clear HC9
      by_cases c10 : 0 ≤ x25_2
      case neg => rw [if_neg c10] at H; exact absurd H (by simp)
      rw [if_pos c10] at H
      have c10b0 : decide (0 ≤ x25_2) = true := decide_eq_true c10
      clear c10
      (first | rw [c10b0] | (simp only [i64_w, i32_w]; rw [c10b0]) | skip)
      by_cases c11 : x25_2 < (l2.length : Int)
      case neg => rw [if_neg c11] at H; exact absurd H (by simp)
      rw [if_pos c11] at H
      have c11b0 : decide (x25_2 < (l2.length : Int)) = true := decide_eq_true c11
      clear c11
      by_cases c12 : (rd l2 x25_2) < 0
      case pos =>
       rw [if_pos c12] at H
       have c12b0 : decide ((rd l2 x25_2) < 0) = true := decide_eq_true c12
       clear c12
       have H' := Aside0.mk H
       clear H
       have p237 : 0 ≤ (x25_2 : Int) := of_decide_eq_true (by first | (with_reducible assumption) | assumption)
       have q237 : x25_2 < (l2.length : Int) := of_decide_eq_true (by first | (with_reducible assumption) | assumption)
       obtain ⟨ad237, e237, hx237_0⟩ := Kd.at_int HR2.out x25_2 p237 q237
       cases e237
       replace p237 := eq_true p237
       replace q237 := eq_true q237
       go_wp2
       repeat (go_quiet (fail); try go_wp2)
       go_meet
       case rel => exact ⟨_, (true), (by first | rfl | (simp; done) | (simp [*]; done)), H', ⟨by have := HJ4.out; have := HK2.out; first | omega | exact Nat.le_refl _⟩, by repeat (first | exact Drawn0.refl _ | apply Drawn0.step)⟩
      rw [if_neg c12] at H
      have c12b0 : decide ((rd l2 x25_2) < 0) = false := decide_eq_false c12
      clear c12
      by_cases c13 : x25_2 < (l3.length : Int)
      case neg => rw [if_neg c13] at H; exact absurd H (by simp)
      rw [if_pos c13] at H
      have c13b0 : decide (x25_2 < (l3.length : Int)) = true := decide_eq_true c13
      clear c13
      by_cases c14 : (rd l3 x25_2) < 0
      case pos =>
       rw [if_pos c14] at H
       have c14b0 : decide ((rd l3 x25_2) < 0) = true := decide_eq_true c14
       clear c14
       have H' := Aside0.mk H
       clear H
       have p237 : 0 ≤ (x25_2 : Int) := of_decide_eq_true (by first | (with_reducible assumption) | assumption)
       have q237 : x25_2 < (l2.length : Int) := of_decide_eq_true (by first | (with_reducible assumption) | assumption)
       obtain ⟨ad237, e237, hx237_0⟩ := Kd.at_int HR2.out x25_2 p237 q237
       cases e237
       replace p237 := eq_true p237
       replace q237 := eq_true q237
       have p238 : 0 ≤ (x25_2 : Int) := of_decide_eq_true (by first | (with_reducible assumption) | assumption)
       have q238 : x25_2 < (l3.length : Int) := of_decide_eq_true (by first | (with_reducible assumption) | assumption)
       obtain ⟨ad238, e238, hx238_0⟩ := Kd.at_int HR3.out x25_2 p238 q238
       cases e238
       replace p238 := eq_true p238
       replace q238 := eq_true q238
       go_wp2
       repeat (go_quiet (fail); try go_wp2)
       go_meet
       case rel => exact ⟨_, (true), (by first | rfl | (simp; done) | (simp [*]; done)), H', ⟨by have := HJ4.out; have := HK2.out; first | omega | exact Nat.le_refl _⟩, by repeat (first | exact Drawn0.refl _ | apply Drawn0.step)⟩
      rw [if_neg c14] at H
      have c14b0 : decide ((rd l3 x25_2) < 0) = false := decide_eq_false c14
      clear c14
      by_cases c15 : x25_2 < (l1.length : Int)
      case neg => rw [if_neg c15] at H; exact absurd H (by simp)
      rw [if_pos c15] at H
      have c15b0 : decide (x25_2 < (l1.length : Int)) = true := decide_eq_true c15
      clear c15
      by_cases c16 : 0 ≤ (rd l1 x25_2)
      case neg => rw [if_neg c16] at H; exact absurd H (by simp)
      rw [if_pos c16] at H
      have c16b0 : decide (0 ≤ (rd l1 x25_2)) = true := decide_eq_true c16
      clear c16
      by_cases c17 : (rd l1 x25_2) < (l3.length : Int)
      case neg => rw [if_neg c17] at H; exact absurd H (by simp)
      rw [if_pos c17] at H
      have c17b0 : decide ((rd l1 x25_2) < (l3.length : Int)) = true := decide_eq_true c17
      clear c17
      by_cases c18 : x25_2 < (l0.length : Int)
      case neg => rw [if_neg c18] at H; exact absurd H (by simp)
      rw [if_pos c18] at H
      have c18b0 : decide (x25_2 < (l0.length : Int)) = true := decide_eq_true c18
      clear c18
      by_cases c19 : (rd l1 x25_2) < ((rd_L3 l0 x25_2).length : Int)
      case neg => rw [if_neg c19] at H; exact absurd H (by simp)
      rw [if_pos c19] at H
      have c19b0 : decide ((rd l1 x25_2) < ((rd_L3 l0 x25_2).length : Int)) = true := decide_eq_true c19
      clear c19
      have H' := Aside0.mk H
      clear H
      have p237 : 0 ≤ (x25_2 : Int) := of_decide_eq_true (by first | (with_reducible assumption) | assumption)
      have q237 : x25_2 < (l2.length : Int) := of_decide_eq_true (by first | (with_reducible assumption) | assumption)
      obtain ⟨ad237, e237, hx237_0⟩ := Kd.at_int HR2.out x25_2 p237 q237
      cases e237
      replace p237 := eq_true p237
      replace q237 := eq_true q237
      have p238 : 0 ≤ (x25_2 : Int) := of_decide_eq_true (by first | (with_reducible assumption) | assumption)
      have q238 : x25_2 < (l3.length : Int) := of_decide_eq_true (by first | (with_reducible assumption) | assumption)
      obtain ⟨ad238, e238, hx238_0⟩ := Kd.at_int HR3.out x25_2 p238 q238
      cases e238
      replace p238 := eq_true p238
      replace q238 := eq_true q238
      have p239 : 0 ≤ (x25_2 : Int) := of_decide_eq_true (by first | (with_reducible assumption) | assumption)
      have q239 : x25_2 < (l1.length : Int) := of_decide_eq_true (by first | (with_reducible assumption) | assumption)
      obtain ⟨ad239, e239, hx239_0⟩ := Kd.at_int HR1.out x25_2 p239 q239
      cases e239
      replace p239 := eq_true p239
      replace q239 := eq_true q239
      have p240 : 0 ≤ ((rd l1 x25_2) : Int) := of_decide_eq_true (by first | (with_reducible assumption) | assumption)
      have q240 : (rd l1 x25_2) < (l3.length : Int) := of_decide_eq_true (by first | (with_reducible assumption) | assumption)
      obtain ⟨ad240, e240, hx240_0⟩ := Kd.at_int HR3.out (rd l1 x25_2) p240 q240
      obtain rfl : ad238 = ad240 := (by injection e240)
      replace p240 := eq_true p240
      replace q240 := eq_true q240
      have p241 : 0 ≤ (x25_2 : Int) := of_decide_eq_true (by first | (with_reducible assumption) | assumption)
      have q241 : x25_2 < (l2.length : Int) := of_decide_eq_true (by first | (with_reducible assumption) | assumption)
      obtain ⟨ad241, e241, hx241_0⟩ := Kd.at_int HR2.out x25_2 p241 q241
      obtain rfl : ad237 = ad241 := (by injection e241)
      replace p241 := eq_true p241
      replace q241 := eq_true q241
      have p242 : 0 ≤ (x25_2 : Int) := of_decide_eq_true (by first | (with_reducible assumption) | assumption)
      have q242 : x25_2 < (l0.length : Int) := of_decide_eq_true (by first | (with_reducible assumption) | assumption)
      obtain ⟨ad242, A242_0, c242_0, e242, hx242_0, hl242_0, hi242_0⟩ := at_L3 HR0.out x25_2 p242 q242
      cases e242
      have HR242_0 := Aside0.mk hi242_0
      have HC242_0 := Aside0.mk hl242_0
      clear hi242_0 hl242_0
      replace p242 := eq_true p242
      replace q242 := eq_true q242
      have p243 : 0 ≤ (x25_2 : Int) := of_decide_eq_true (by first | (with_reducible assumption) | assumption)
      have q243 : x25_2 < (l1.length : Int) := of_decide_eq_true (by first | (with_reducible assumption) | assumption)
      obtain ⟨ad243, e243, hx243_0⟩ := Kd.at_int HR1.out x25_2 p243 q243
      obtain rfl : ad239 = ad243 := (by injection e243)
      replace p243 := eq_true p243
      replace q243 := eq_true q243
      have p244 : 0 ≤ ((rd l1 x25_2) : Int) := of_decide_eq_true (by first | (with_reducible assumption) | assumption)
      have q244 : (rd l1 x25_2) < ((rd_L3 l0 x25_2).length : Int) := of_decide_eq_true (by first | (with_reducible assumption) | assumption)
      obtain ⟨ad244, e244, hx244_0⟩ := Kd.at_int HR242_0.out (rd l1 x25_2) p244 q244
      cases e244
      replace p244 := eq_true p244
      replace q244 := eq_true q244
      go_wp2
      repeat (go_quiet (fail); try go_wp2)
      go_meet
      case rel => exact ⟨_, (((wrap64 ((rd l3 (rd l1 x25_2)) - (rd l2 x25_2))) != (rd (rd_L3 l0 x25_2) (rd l1 x25_2)))), (by first | rfl | (simp; done) | (simp [*]; done)), H', ⟨by have := HJ4.out; have := HK2.out; first | omega | exact Nat.le_refl _⟩, by repeat (first | exact Drawn0.refl _ | apply Drawn0.step)⟩
     case rest =>
      clear HC9
      try clear c1
      try clear c2
      try clear p2
      try clear q2
      try clear hx2
      try clear c3
      try clear c4
      try clear c6
      try clear c6b0
      try clear c6b1
      try clear c6b2
      try clear p6
      try clear c7
      try clear c8
      try clear c8b0
      try clear c10
      try clear c10b0
      try clear c11
      try clear c11b0
      try clear c12
      try clear c12b0
      try clear c13
      try clear c13b0
      try clear c14
      try clear c14b0
      try clear c15
      try clear c15b0
      try clear c16
      try clear c16b0
      try clear c17
      try clear c17b0
      try clear c18
      try clear c18b0
      try clear c19
      try clear c19b0
      try clear hx237_0
      try clear hx238_0
      try clear hx239_0
      try clear hx240_0
      try clear hx241_0
      try clear hx242_0
      try clear hx243_0
      try clear hx244_0
      try clear p2
      try clear p237
      try clear p238
      try clear p239
      try clear p240
      try clear p241
      try clear p242
      try clear p243
      try clear p244
      try clear q237
      try clear q238
      try clear q239
      try clear q240
      try clear q241
      try clear q242
      try clear q243
      try clear q244
      obtain ⟨kq, x64_8, rfl, HA, HJ8, ⟨mc8, rfl⟩⟩ := hcut
      cases kq with
      | zero => exact absurd HA.out (by simp [orreryref20_Valid.j2])
      | succ kj8 =>
       have H := HA.out
       clear HA
       simp only [orreryref20_Valid.j2] at H
       by_cases c20 : x64_8 = true
       case pos =>
        subst c20
        have H1 : (some false) = some r := by rw [if_pos rfl] at H; exact H
        clear H
        have H := H1
        clear H1
        obtain rfl := Option.some.inj H
        go_wp2
        repeat (go_quiet (fail); try go_wp2)
        go_ret
        exact ⟨by first | rfl | (simp; done) | (simp [*]; done), by repeat (first | exact Drawn0.refl _ | apply Drawn0.step)⟩
       replace c20 := Bool.eq_false_iff.mpr c20
       subst c20
       have H1 : (orreryref20_Valid.l1 kj8 l0 l1 l2 l3 x25_2 (l0.length : Int) x25_2 (l0.length : Int) 0) = some r := by rw [if_neg (show ¬ (false = true) by decide)] at H; exact H
       clear H
       have H := H1
       clear H1
       have H' := Aside0.mk H
       clear H
       go_wp2
       repeat (go_quiet (fail); try go_wp2)
       go_loopg [67] kj8 (fun kq v67 w' => ∃ (x67_4 : Int), v67 = .int .i64 x67_4 ∧ Aside0 (orreryref20_Valid.l1 kq l0 l1 l2 l3 x25_2 (l0.length : Int) x25_2 (l0.length : Int) x67_4 = some r) ∧ Aside0 (kq ≤ kj8) ∧ Drawn0 w w')
       case atStart => exact ⟨(0), (by first | rfl | (simp; done) | (simp [*]; done)), H', ⟨Nat.le_refl _⟩, by repeat (first | exact Drawn0.refl _ | apply Drawn0.step)⟩
       case round =>
        clear H'
        try clear c1
        try clear c2
        try clear p2
        try clear q2
        try clear hx2
        try clear c3
        try clear c4
        try clear c6
        try clear c6b0
        try clear c6b1
        try clear c6b2
        try clear p6
        try clear c7
        try clear c8
        try clear c8b0
        try clear c10
        try clear c10b0
        try clear c11
        try clear c11b0
        try clear c12
        try clear c12b0
        try clear c13
        try clear c13b0
        try clear c14
        try clear c14b0
        try clear c15
        try clear c15b0
        try clear c16
        try clear c16b0
        try clear c17
        try clear c17b0
        try clear c18
        try clear c18b0
        try clear c19
        try clear c19b0
        try clear c20
        try clear hx237_0
        try clear hx238_0
        try clear hx239_0
        try clear hx240_0
        try clear hx241_0
        try clear hx242_0
        try clear hx243_0
        try clear hx244_0
        try clear p2
        try clear p237
        try clear p238
        try clear p239
        try clear p240
        try clear p241
        try clear p242
        try clear p243
        try clear p244
        try clear p6
        try clear q2
        try clear q237
        try clear q238
        try clear q239
        try clear q240
        try clear q241
        try clear q242
        try clear q243
        try clear q244
        obtain ⟨x67_4, rfl, HA, HK4, ⟨m4, rfl⟩⟩ := hrel
        cases gk with
        | zero => exact absurd HA.out (by simp [orreryref20_Valid.l1])
        | succ k4 =>
         have H := HA.out
         clear HA
         simp only [orreryref20_Valid.l1] at H
         by_cases c21 : x67_4 < (l0.length : Int)
         case neg =>
          rw [if_neg c21] at H
          have c21b0 : decide (x67_4 < (l0.length : Int)) = false := decide_eq_false c21
          clear c21
          have H' := Aside0.mk H
          clear H
          go_wp2
          repeat (go_quiet (fail); try go_wp2)
          (first | go_roundg k4 | (refine Handed.intro k4 ?measure ?_; rotate_left; go_step; (repeat apply Exists.intro); (refine ⟨?rel, ?fr_⟩); (case fr_ => (simp only [add_plain]; rfl))))
          case measure => have := HJ4.out; have := HK2.out; have := HJ8.out; have := HK4.out; omega
          case rel => exact ⟨(wrap64 (x25_2 + 1)), (by first | rfl | (simp; done) | (simp [*]; done)), H', ⟨by have := HJ4.out; have := HK2.out; have := HJ8.out; have := HK4.out; omega⟩, by repeat (first | exact Drawn0.refl _ | apply Drawn0.step)⟩
         rw [if_pos c21] at H
         have c21b0 : decide (x67_4 < (l0.length : Int)) = true := decide_eq_true c21
         clear c21
         by_cases c22 : 0 ≤ x25_2
         case neg => rw [if_neg c22] at H; exact absurd H (by simp)
         rw [if_pos c22] at H
         have c22b0 : decide (0 ≤ x25_2) = true := decide_eq_true c22
         clear c22
         by_cases c23 : x25_2 < (l0.length : Int)
         case neg => rw [if_neg c23] at H; exact absurd H (by simp)
         rw [if_pos c23] at H
         have c23b0 : decide (x25_2 < (l0.length : Int)) = true := decide_eq_true c23
         clear c23
         by_cases c24 : 0 ≤ x67_4
         case neg => rw [if_neg c24] at H; exact absurd H (by simp)
         rw [if_pos c24] at H
         have c24b0 : decide (0 ≤ x67_4) = true := decide_eq_true c24
         clear c24
         by_cases c25 : x67_4 < ((rd_L3 l0 x25_2).length : Int)
         case neg => rw [if_neg c25] at H; exact absurd H (by simp)
         rw [if_pos c25] at H
         have c25b0 : decide (x67_4 < ((rd_L3 l0 x25_2).length : Int)) = true := decide_eq_true c25
         clear c25
         by_cases c26 : (rd (rd_L3 l0 x25_2) x67_4) ≥ 0
         case neg =>
          rw [if_neg c26] at H
          have c26b0 : decide (0 ≤ (rd (rd_L3 l0 x25_2) x67_4)) = false := decide_eq_false c26
          clear c26
          have H' := Aside0.mk H
          clear H
          have p245 : 0 ≤ (x25_2 : Int) := of_decide_eq_true (by first | (with_reducible assumption) | assumption)
          have q245 : x25_2 < (l0.length : Int) := of_decide_eq_true (by first | (with_reducible assumption) | assumption)
          obtain ⟨ad245, A245_0, c245_0, e245, hx245_0, hl245_0, hi245_0⟩ := at_L3 HR0.out x25_2 p245 q245
          cases e245
          have HR245_0 := Aside0.mk hi245_0
          have HC245_0 := Aside0.mk hl245_0
          clear hi245_0 hl245_0
          replace p245 := eq_true p245
          replace q245 := eq_true q245
          have p246 : 0 ≤ (x67_4 : Int) := of_decide_eq_true (by first | (with_reducible assumption) | assumption)
          have q246 : x67_4 < ((rd_L3 l0 x25_2).length : Int) := of_decide_eq_true (by first | (with_reducible assumption) | assumption)
          obtain ⟨ad246, e246, hx246_0⟩ := Kd.at_int HR245_0.out x67_4 p246 q246
          cases e246
          replace p246 := eq_true p246
          replace q246 := eq_true q246
          go_wp2
          repeat (go_quiet (fail); try go_wp2)
          (first | go_roundg k4 | (refine Handed.intro k4 ?measure ?_; rotate_left; go_step; (repeat apply Exists.intro); (refine ⟨?rel, ?fr_⟩); (case fr_ => (simp only [add_plain]; rfl))))
          case measure => have := HJ4.out; have := HK2.out; have := HJ8.out; have := HK4.out; omega
          case rel => exact ⟨(wrap64 (x67_4 + 1)), (by first | rfl | (simp; done) | (simp [*]; done)), H', ⟨by have := HJ4.out; have := HK2.out; have := HJ8.out; have := HK4.out; omega⟩, by repeat (first | exact Drawn0.refl _ | apply Drawn0.step)⟩
         rw [if_pos c26] at H
         have c26b0 : decide (0 ≤ (rd (rd_L3 l0 x25_2) x67_4)) = true := decide_eq_true c26
         clear c26
         by_cases c27 : x67_4 < (l3.length : Int)
         case neg => rw [if_neg c27] at H; exact absurd H (by simp)
         rw [if_pos c27] at H
         have c27b0 : decide (x67_4 < (l3.length : Int)) = true := decide_eq_true c27
         clear c27
         by_cases c28 : x25_2 < (l2.length : Int)
         case neg => rw [if_neg c28] at H; exact absurd H (by simp)
         rw [if_pos c28] at H
         have c28b0 : decide (x25_2 < (l2.length : Int)) = true := decide_eq_true c28
         clear c28
         by_cases c29 : (wrap64 ((rd l3 x67_4) - (rd l2 x25_2))) < (rd (rd_L3 l0 x25_2) x67_4)
         case pos =>
          rw [if_pos c29] at H
          have c29b0 : decide ((wrap64 ((rd l3 x67_4) - (rd l2 x25_2))) < (rd (rd_L3 l0 x25_2) x67_4)) = true := decide_eq_true c29
          clear c29
          obtain rfl := Option.some.inj H
          have p245 : 0 ≤ (x25_2 : Int) := of_decide_eq_true (by first | (with_reducible assumption) | assumption)
          have q245 : x25_2 < (l0.length : Int) := of_decide_eq_true (by first | (with_reducible assumption) | assumption)
          obtain ⟨ad245, A245_0, c245_0, e245, hx245_0, hl245_0, hi245_0⟩ := at_L3 HR0.out x25_2 p245 q245
          cases e245
          have HR245_0 := Aside0.mk hi245_0
          have HC245_0 := Aside0.mk hl245_0
          clear hi245_0 hl245_0
          replace p245 := eq_true p245
          replace q245 := eq_true q245
          have p246 : 0 ≤ (x67_4 : Int) := of_decide_eq_true (by first | (with_reducible assumption) | assumption)
          have q246 : x67_4 < ((rd_L3 l0 x25_2).length : Int) := of_decide_eq_true (by first | (with_reducible assumption) | assumption)
          obtain ⟨ad246, e246, hx246_0⟩ := Kd.at_int HR245_0.out x67_4 p246 q246
          cases e246
          replace p246 := eq_true p246
          replace q246 := eq_true q246
          have p247 : 0 ≤ (x67_4 : Int) := of_decide_eq_true (by first | (with_reducible assumption) | assumption)
          have q247 : x67_4 < (l3.length : Int) := of_decide_eq_true (by first | (with_reducible assumption) | assumption)
          obtain ⟨ad247, e247, hx247_0⟩ := Kd.at_int HR3.out x67_4 p247 q247
          cases e247
          replace p247 := eq_true p247
          replace q247 := eq_true q247
          have p248 : 0 ≤ (x25_2 : Int) := of_decide_eq_true (by first | (with_reducible assumption) | assumption)
          have q248 : x25_2 < (l2.length : Int) := of_decide_eq_true (by first | (with_reducible assumption) | assumption)
          obtain ⟨ad248, e248, hx248_0⟩ := Kd.at_int HR2.out x25_2 p248 q248
          cases e248
          replace p248 := eq_true p248
          replace q248 := eq_true q248
          have p249 : 0 ≤ (x25_2 : Int) := of_decide_eq_true (by first | (with_reducible assumption) | assumption)
          have q249 : x25_2 < (l0.length : Int) := of_decide_eq_true (by first | (with_reducible assumption) | assumption)
          obtain ⟨ad249, A249_0, c249_0, e249, hx249_0, hl249_0, hi249_0⟩ := at_L3 HR0.out x25_2 p249 q249
          obtain rfl : ad245 = ad249 := (by injection e249)
          have HR249_0 := Aside0.mk hi249_0
          have HC249_0 := Aside0.mk hl249_0
          clear hi249_0 hl249_0
          replace p249 := eq_true p249
          replace q249 := eq_true q249
          have ea_ := Option.some.inj (hx245_0.symm.trans hx249_0)
          injection ea_ with ea_ en_ ec_
          subst ea_
          subst ec_
          clear en_
          have p250 : 0 ≤ (x67_4 : Int) := of_decide_eq_true (by first | (with_reducible assumption) | assumption)
          have q250 : x67_4 < ((rd_L3 l0 x25_2).length : Int) := of_decide_eq_true (by first | (with_reducible assumption) | assumption)
          obtain ⟨ad250, e250, hx250_0⟩ := Kd.at_int HR249_0.out x67_4 p250 q250
          cases e250
          replace p250 := eq_true p250
          replace q250 := eq_true q250
          go_wp2
          repeat (go_quiet (fail); try go_wp2)
          go_ret
          exact ⟨by first | rfl | (simp; done) | (simp [*]; done), by repeat (first | exact Drawn0.refl _ | apply Drawn0.step)⟩
         rw [if_neg c29] at H
         have c29b0 : decide ((wrap64 ((rd l3 x67_4) - (rd l2 x25_2))) < (rd (rd_L3 l0 x25_2) x67_4)) = false := decide_eq_false c29
         clear c29
         have H' := Aside0.mk H
         clear H
         have p245 : 0 ≤ (x25_2 : Int) := of_decide_eq_true (by first | (with_reducible assumption) | assumption)
         have q245 : x25_2 < (l0.length : Int) := of_decide_eq_true (by first | (with_reducible assumption) | assumption)
         obtain ⟨ad245, A245_0, c245_0, e245, hx245_0, hl245_0, hi245_0⟩ := at_L3 HR0.out x25_2 p245 q245
         cases e245
         have HR245_0 := Aside0.mk hi245_0
         have HC245_0 := Aside0.mk hl245_0
         clear hi245_0 hl245_0
         replace p245 := eq_true p245
         replace q245 := eq_true q245
         have p246 : 0 ≤ (x67_4 : Int) := of_decide_eq_true (by first | (with_reducible assumption) | assumption)
         have q246 : x67_4 < ((rd_L3 l0 x25_2).length : Int) := of_decide_eq_true (by first | (with_reducible assumption) | assumption)
         obtain ⟨ad246, e246, hx246_0⟩ := Kd.at_int HR245_0.out x67_4 p246 q246
         cases e246
         replace p246 := eq_true p246
         replace q246 := eq_true q246
         have p247 : 0 ≤ (x67_4 : Int) := of_decide_eq_true (by first | (with_reducible assumption) | assumption)
         have q247 : x67_4 < (l3.length : Int) := of_decide_eq_true (by first | (with_reducible assumption) | assumption)
         obtain ⟨ad247, e247, hx247_0⟩ := Kd.at_int HR3.out x67_4 p247 q247
         cases e247
         replace p247 := eq_true p247
         replace q247 := eq_true q247
         have p248 : 0 ≤ (x25_2 : Int) := of_decide_eq_true (by first | (with_reducible assumption) | assumption)
         have q248 : x25_2 < (l2.length : Int) := of_decide_eq_true (by first | (with_reducible assumption) | assumption)
         obtain ⟨ad248, e248, hx248_0⟩ := Kd.at_int HR2.out x25_2 p248 q248
         cases e248
         replace p248 := eq_true p248
         replace q248 := eq_true q248
         have p249 : 0 ≤ (x25_2 : Int) := of_decide_eq_true (by first | (with_reducible assumption) | assumption)
         have q249 : x25_2 < (l0.length : Int) := of_decide_eq_true (by first | (with_reducible assumption) | assumption)
         obtain ⟨ad249, A249_0, c249_0, e249, hx249_0, hl249_0, hi249_0⟩ := at_L3 HR0.out x25_2 p249 q249
         obtain rfl : ad245 = ad249 := (by injection e249)
         have HR249_0 := Aside0.mk hi249_0
         have HC249_0 := Aside0.mk hl249_0
         clear hi249_0 hl249_0
         replace p249 := eq_true p249
         replace q249 := eq_true q249
         have ea_ := Option.some.inj (hx245_0.symm.trans hx249_0)
         injection ea_ with ea_ en_ ec_
         subst ea_
         subst ec_
         clear en_
         have p250 : 0 ≤ (x67_4 : Int) := of_decide_eq_true (by first | (with_reducible assumption) | assumption)
         have q250 : x67_4 < ((rd_L3 l0 x25_2).length : Int) := of_decide_eq_true (by first | (with_reducible assumption) | assumption)
         obtain ⟨ad250, e250, hx250_0⟩ := Kd.at_int HR249_0.out x67_4 p250 q250
         cases e250
         replace p250 := eq_true p250
         replace q250 := eq_true q250
         go_wp2
         repeat (go_quiet (fail); try go_wp2)
         (first | go_roundg k4 | (refine Handed.intro k4 ?measure ?_; rotate_left; go_step; (repeat apply Exists.intro); (refine ⟨?rel, ?fr_⟩); (case fr_ => (simp only [add_plain]; rfl))))
         case measure => have := HJ4.out; have := HK2.out; have := HJ8.out; have := HK4.out; omega
         case rel => exact ⟨(wrap64 (x67_4 + 1)), (by first | rfl | (simp; done) | (simp [*]; done)), H', ⟨by have := HJ4.out; have := HK2.out; have := HJ8.out; have := HK4.out; omega⟩, by repeat (first | exact Drawn0.refl _ | apply Drawn0.step)⟩

end Go.Proofs.Ytamloclgignfgaa.PA
