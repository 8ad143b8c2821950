/- What the Go functions of this part compute, as Lean functions, and that the machine's calls come to just that; written for this claim by a program of the session (gen.sh, after the kit's printer). -/
import Derived.Test.YtamloclgignfgaaPAx0
import Derived.Test.YtamloclgignfgaaPAx6
import Derived.Test.YtamloclgignfgaaPAx7
import Derived.Test.YtamloclgignfgaaPAx21
import Derived.Test.YtamloclgignfgaaPAx22
import Derived.Test.YtamloclgignfgaaPAx25
import Derived.Test.YtamloclgignfgaaGiven
namespace Go.Proofs.Ytamloclgignfgaa.PA
open Go.RowKit Go.Proofs.YtamloclgignfgaaW.PrintWords Go.Proofs.YtamloclgignfgaaW.PrintLast Go.Proofs.YtamloclgignfgaaW.PrintMore
attribute [local go_sem] max2_int min2_int max_two min_two max_three min_three max_four min_four   -- for this text's walks alone
set_option linter.unusedVariables false
set_option linter.unusedSimpArgs false

/-! ### orrerylaw19_MatchWhole: function 8 -/
mutual
def orrerylaw19_MatchWhole.j0 : Nat → List Int → List Int → List (S40) → Int → Bool → Option (Bool)
  | 0, _, _, _, _, _ => none
  | k + 1, x0, x1, x2, x7, x29 => if x29 = true then (some true) else (if 0 ≤ x7 then (if (x7 : Int).toNat ≤ 35184372088832 then (orrerylaw19_MatchWhole.l0 k x1 x2 x7 (List.replicate (x7 : Int).toNat 0) ([] : List (S40)) 0 x0 (x0.length : Int) 0) else (none)) else (none))
def orrerylaw19_MatchWhole.l0 : Nat → List Int → List (S40) → Int → List Int → List (S40) → Int → List Int → Int → Int → Option (Bool)
  | 0, _, _, _, _, _, _, _, _, _ => none
  | k + 1, x1, x2, x7, x8, x9, x10, x32, x33, x34 => if x34 < x33 then (if 0 ≤ x34 then (if x34 < (x32.length : Int) then (if (rd x32 x34) < 0 then (orrerylaw19_MatchWhole.j2 k x1 x2 x7 x8 x9 x10 x34 (rd x32 x34) x32 x33 x34 true) else (if (rd x32 x34) ≥ x7 then (orrerylaw19_MatchWhole.j2 k x1 x2 x7 x8 x9 x10 x34 (rd x32 x34) x32 x33 x34 true) else (if 0 ≤ (rd x32 x34) then (if (rd x32 x34) < (x8.length : Int) then (orrerylaw19_MatchWhole.j2 k x1 x2 x7 x8 x9 x10 x34 (rd x32 x34) x32 x33 x34 ((rd x8 (rd x32 x34)) == 1)) else (none)) else (none)))) else (none)) else (none)) else (orrerylaw19_MatchWhole.l1 k x7 x9 x10 x2 (x2.length : Int) 0)
def orrerylaw19_MatchWhole.j2 : Nat → List Int → List (S40) → Int → List Int → List (S40) → Int → Int → Int → List Int → Int → Int → Bool → Option (Bool)
  | 0, _, _, _, _, _, _, _, _, _, _, _, _ => none
  | k + 1, x1, x2, x7, x8, x9, x10, x11, x12, x32, x33, x34, x52 => if x52 = true then (some true) else (if 0 ≤ x12 then (if x12 < (x8.length : Int) then ((some (x8.set (x12 : Int).toNat 1 : List Int)).bind fun y473 => (if x11 < (x1.length : Int) then (if 0 ≤ x11 then (if (rd x1 x11) ≥ 0 then (if (rd x1 x11) ≤ 100 then (if x9.length < 5864062014805 then (orrerylaw19_MatchWhole.l0 k x1 x2 x7 y473 (x9 ++ [(⟨x11, x12, rd x1 x11⟩ : S40)]) (wrap64 (x10 + (rd x1 x11))) x32 x33 (wrap64 (x34 + 1))) else (none)) else (if x9.length < 5864062014805 then (orrerylaw19_MatchWhole.l0 k x1 x2 x7 y473 (x9 ++ [(⟨x11, x12, 0⟩ : S40)]) (wrap64 (x10 + 0)) x32 x33 (wrap64 (x34 + 1))) else (none))) else (if x9.length < 5864062014805 then (orrerylaw19_MatchWhole.l0 k x1 x2 x7 y473 (x9 ++ [(⟨x11, x12, 0⟩ : S40)]) (wrap64 (x10 + 0)) x32 x33 (wrap64 (x34 + 1))) else (none))) else (none)) else (if x9.length < 5864062014805 then (orrerylaw19_MatchWhole.l0 k x1 x2 x7 y473 (x9 ++ [(⟨x11, x12, 0⟩ : S40)]) (wrap64 (x10 + 0)) x32 x33 (wrap64 (x34 + 1))) else (none)))) else (none)) else (none))
def orrerylaw19_MatchWhole.l1 : Nat → Int → List (S40) → Int → List (S40) → Int → Int → Option (Bool)
  | 0, _, _, _, _, _, _ => none
  | k + 1, x7, x9, x10, x89, x90, x91 => if x91 < x90 then (if 0 ≤ x91 then (if x91 < (x89.length : Int) then (if ((rd_T40 x89 x91).f0) ≥ 0 then (if ((rd_T40 x89 x91).f0) < x7 then (if ((rd_T40 x89 x91).f1) ≥ 0 then (if ((rd_T40 x89 x91).f1) < x7 then (if ((rd_T40 x89 x91).f2) ≥ 0 then (if ((rd_T40 x89 x91).f2) ≤ 100 then (if x9.length < 5864062014805 then (orrerylaw19_MatchWhole.l1 k x7 (x9 ++ [(⟨(rd_T40 x89 x91).f0, (rd_T40 x89 x91).f1, (rd_T40 x89 x91).f2⟩ : S40)]) x10 x89 x90 (wrap64 (x91 + 1))) else (none)) else (orrerylaw19_MatchWhole.l1 k x7 x9 x10 x89 x90 (wrap64 (x91 + 1)))) else (orrerylaw19_MatchWhole.l1 k x7 x9 x10 x89 x90 (wrap64 (x91 + 1)))) else (orrerylaw19_MatchWhole.l1 k x7 x9 x10 x89 x90 (wrap64 (x91 + 1)))) else (orrerylaw19_MatchWhole.l1 k x7 x9 x10 x89 x90 (wrap64 (x91 + 1)))) else (orrerylaw19_MatchWhole.l1 k x7 x9 x10 x89 x90 (wrap64 (x91 + 1)))) else (orrerylaw19_MatchWhole.l1 k x7 x9 x10 x89 x90 (wrap64 (x91 + 1)))) else (none)) else (none)) else ((orreryref19_Table.f k x7 x7 x9).bind fun t494 => ((match_Assign.f k x7 x9).bind fun bt497 => ((match_Most.f x7 x7 x9).bind fun bt501 => (if bt497.2 = 0 then (if bt501.2 = 0 then ((orreryref19_Matching.f k t494 x7 bt497.1).bind fun t505 => (if t505 = true then ((orreryref19_Size.f k bt497.1).bind fun t506 => (if t506 = x7 then ((orreryref19_Sum.f k t494 bt497.1).bind fun t507 => (if t507 ≥ x10 then ((orreryref19_Matching.f k t494 x7 bt501.1).bind fun t508 => (if t508 = true then ((orreryref19_Size.f k bt501.1).bind fun t509 => (some (t509 == x7))) else (some false))) else (some false))) else (some false))) else (some false))) else (some false)) else (some false)))))
end
def orrerylaw19_MatchWhole.f (k : Nat) (l0 : List Int) (l1 : List Int) (l2 : List (S40)) : Option (Bool) := if (l0.length : Int) > 40 then (orrerylaw19_MatchWhole.j0 k l0 l1 l2 (l0.length : Int) true) else (orrerylaw19_MatchWhole.j0 k l0 l1 l2 (l0.length : Int) (decide ((l2.length : Int) > 2000)))
theorem orrerylaw19_MatchWhole.mono_l : ∀ k, (∀ y0 y1 y2 y3 y4, LeO (orrerylaw19_MatchWhole.j0 k y0 y1 y2 y3 y4) (orrerylaw19_MatchWhole.j0 (k + 1) y0 y1 y2 y3 y4)) ∧ (∀ y0 y1 y2 y3 y4 y5 y6 y7 y8, LeO (orrerylaw19_MatchWhole.l0 k y0 y1 y2 y3 y4 y5 y6 y7 y8) (orrerylaw19_MatchWhole.l0 (k + 1) y0 y1 y2 y3 y4 y5 y6 y7 y8)) ∧ (∀ y0 y1 y2 y3 y4 y5 y6 y7 y8 y9 y10 y11, LeO (orrerylaw19_MatchWhole.j2 k y0 y1 y2 y3 y4 y5 y6 y7 y8 y9 y10 y11) (orrerylaw19_MatchWhole.j2 (k + 1) y0 y1 y2 y3 y4 y5 y6 y7 y8 y9 y10 y11)) ∧ (∀ y0 y1 y2 y3 y4 y5, LeO (orrerylaw19_MatchWhole.l1 k y0 y1 y2 y3 y4 y5) (orrerylaw19_MatchWhole.l1 (k + 1) y0 y1 y2 y3 y4 y5))
  | 0 => ⟨fun _ _ _ _ _ r h => by simp [orrerylaw19_MatchWhole.j0] at h, fun _ _ _ _ _ _ _ _ _ r h => by simp [orrerylaw19_MatchWhole.l0] at h, fun _ _ _ _ _ _ _ _ _ _ _ _ r h => by simp [orrerylaw19_MatchWhole.j2] at h, fun _ _ _ _ _ _ r h => by simp [orrerylaw19_MatchWhole.l1] at h⟩
  | k + 1 => by
    obtain ⟨ih0, ih1, ih2, ih3⟩ := orrerylaw19_MatchWhole.mono_l k
    refine ⟨?_, ?_, ?_, ?_⟩
    · intro y0 y1 y2 y3 y4
      unfold orrerylaw19_MatchWhole.j0
      repeat' first
      | (with_reducible exact ih0 _ _ _ _ _)
      | (with_reducible exact ih1 _ _ _ _ _ _ _ _ _)
      | (with_reducible exact ih2 _ _ _ _ _ _ _ _ _ _ _ _)
      | (with_reducible exact ih3 _ _ _ _ _ _)
      | (with_reducible exact match_Assign.mono _ _ _)
      | (with_reducible exact orreryref19_Matching.mono _ _ _ _)
      | (with_reducible exact orreryref19_Size.mono _ _)
      | (with_reducible exact orreryref19_Sum.mono _ _ _)
      | (with_reducible exact orreryref19_Table.mono _ _ _ _)
      | (with_reducible exact LeO.refl _)
      | (with_reducible exact LeO.none _)
      | (with_reducible refine LeO.ite ?_ ?_)
      | (with_reducible refine LeO.bind ?_ (fun _ => ?_))
      | exact ih0 _ _ _ _ _
      | exact ih1 _ _ _ _ _ _ _ _ _
      | exact ih2 _ _ _ _ _ _ _ _ _ _ _ _
      | exact ih3 _ _ _ _ _ _
      | exact match_Assign.mono _ _ _
      | exact orreryref19_Matching.mono _ _ _ _
      | exact orreryref19_Size.mono _ _
      | exact orreryref19_Sum.mono _ _ _
      | exact orreryref19_Table.mono _ _ _ _
      | exact LeO.none _
      | refine LeO.ite ?_ ?_
      | refine LeO.bind ?_ (fun _ => ?_)
    · intro y0 y1 y2 y3 y4 y5 y6 y7 y8
      unfold orrerylaw19_MatchWhole.l0
      repeat' first
      | (with_reducible exact ih0 _ _ _ _ _)
      | (with_reducible exact ih1 _ _ _ _ _ _ _ _ _)
      | (with_reducible exact ih2 _ _ _ _ _ _ _ _ _ _ _ _)
      | (with_reducible exact ih3 _ _ _ _ _ _)
      | (with_reducible exact match_Assign.mono _ _ _)
      | (with_reducible exact orreryref19_Matching.mono _ _ _ _)
      | (with_reducible exact orreryref19_Size.mono _ _)
      | (with_reducible exact orreryref19_Sum.mono _ _ _)
      | (with_reducible exact orreryref19_Table.mono _ _ _ _)
      | (with_reducible exact LeO.refl _)
      | (with_reducible exact LeO.none _)
      | (with_reducible refine LeO.ite ?_ ?_)
      | (with_reducible refine LeO.bind ?_ (fun _ => ?_))
      | exact ih0 _ _ _ _ _
      | exact ih1 _ _ _ _ _ _ _ _ _
      | exact ih2 _ _ _ _ _ _ _ _ _ _ _ _
      | exact ih3 _ _ _ _ _ _
      | exact match_Assign.mono _ _ _
      | exact orreryref19_Matching.mono _ _ _ _
      | exact orreryref19_Size.mono _ _
      | exact orreryref19_Sum.mono _ _ _
      | exact orreryref19_Table.mono _ _ _ _
      | exact LeO.none _
      | refine LeO.ite ?_ ?_
      | refine LeO.bind ?_ (fun _ => ?_)
    · intro y0 y1 y2 y3 y4 y5 y6 y7 y8 y9 y10 y11
      unfold orrerylaw19_MatchWhole.j2
      repeat' first
      | (with_reducible exact ih0 _ _ _ _ _)
      | (with_reducible exact ih1 _ _ _ _ _ _ _ _ _)
      | (with_reducible exact ih2 _ _ _ _ _ _ _ _ _ _ _ _)
      | (with_reducible exact ih3 _ _ _ _ _ _)
      | (with_reducible exact match_Assign.mono _ _ _)
      | (with_reducible exact orreryref19_Matching.mono _ _ _ _)
      | (with_reducible exact orreryref19_Size.mono _ _)
      | (with_reducible exact orreryref19_Sum.mono _ _ _)
      | (with_reducible exact orreryref19_Table.mono _ _ _ _)
      | (with_reducible exact LeO.refl _)
      | (with_reducible exact LeO.none _)
      | (with_reducible refine LeO.ite ?_ ?_)
      | (with_reducible refine LeO.bind ?_ (fun _ => ?_))
      | exact ih0 _ _ _ _ _
      | exact ih1 _ _ _ _ _ _ _ _ _
      | exact ih2 _ _ _ _ _ _ _ _ _ _ _ _
      | exact ih3 _ _ _ _ _ _
      | exact match_Assign.mono _ _ _
      | exact orreryref19_Matching.mono _ _ _ _
      | exact orreryref19_Size.mono _ _
      | exact orreryref19_Sum.mono _ _ _
      | exact orreryref19_Table.mono _ _ _ _
      | exact LeO.none _
      | refine LeO.ite ?_ ?_
      | refine LeO.bind ?_ (fun _ => ?_)
    · intro y0 y1 y2 y3 y4 y5
      unfold orrerylaw19_MatchWhole.l1
      repeat' first
      | (with_reducible exact ih0 _ _ _ _ _)
      | (with_reducible exact ih1 _ _ _ _ _ _ _ _ _)
      | (with_reducible exact ih2 _ _ _ _ _ _ _ _ _ _ _ _)
      | (with_reducible exact ih3 _ _ _ _ _ _)
      | (with_reducible exact match_Assign.mono _ _ _)
      | (with_reducible exact orreryref19_Matching.mono _ _ _ _)
      | (with_reducible exact orreryref19_Size.mono _ _)
      | (with_reducible exact orreryref19_Sum.mono _ _ _)
      | (with_reducible exact orreryref19_Table.mono _ _ _ _)
      | (with_reducible exact LeO.refl _)
      | (with_reducible exact LeO.none _)
      | (with_reducible refine LeO.ite ?_ ?_)
      | (with_reducible refine LeO.bind ?_ (fun _ => ?_))
      | exact ih0 _ _ _ _ _
      | exact ih1 _ _ _ _ _ _ _ _ _
      | exact ih2 _ _ _ _ _ _ _ _ _ _ _ _
      | exact ih3 _ _ _ _ _ _
      | exact match_Assign.mono _ _ _
      | exact orreryref19_Matching.mono _ _ _ _
      | exact orreryref19_Size.mono _ _
      | exact orreryref19_Sum.mono _ _ _
      | exact orreryref19_Table.mono _ _ _ _
      | exact LeO.none _
      | refine LeO.ite ?_ ?_
      | refine LeO.bind ?_ (fun _ => ?_)
theorem orrerylaw19_MatchWhole.mono : ∀ a0 a1 a2 k, LeO (orrerylaw19_MatchWhole.f k a0 a1 a2) (orrerylaw19_MatchWhole.f (k + 1) a0 a1 a2) := by
 intro a0 a1 a2 k
 obtain ⟨ih0, ih1, ih2, ih3⟩ := orrerylaw19_MatchWhole.mono_l k
 unfold orrerylaw19_MatchWhole.f
 repeat' first
     | (with_reducible exact ih0 _ _ _ _ _)
     | (with_reducible exact ih1 _ _ _ _ _ _ _ _ _)
     | (with_reducible exact ih2 _ _ _ _ _ _ _ _ _ _ _ _)
     | (with_reducible exact ih3 _ _ _ _ _ _)
     | (with_reducible exact match_Assign.mono _ _ _)
     | (with_reducible exact orreryref19_Matching.mono _ _ _ _)
     | (with_reducible exact orreryref19_Size.mono _ _)
     | (with_reducible exact orreryref19_Sum.mono _ _ _)
     | (with_reducible exact orreryref19_Table.mono _ _ _ _)
     | (with_reducible exact LeO.refl _)
     | (with_reducible exact LeO.none _)
     | (with_reducible refine LeO.ite ?_ ?_)
     | (with_reducible refine LeO.bind ?_ (fun _ => ?_))
     | exact ih0 _ _ _ _ _
     | exact ih1 _ _ _ _ _ _ _ _ _
     | exact ih2 _ _ _ _ _ _ _ _ _ _ _ _
     | exact ih3 _ _ _ _ _ _
     | exact match_Assign.mono _ _ _
     | exact orreryref19_Matching.mono _ _ _ _
     | exact orreryref19_Size.mono _ _
     | exact orreryref19_Sum.mono _ _ _
     | exact orreryref19_Table.mono _ _ _ _
     | exact LeO.none _
     | refine LeO.ite ?_ ?_
     | refine LeO.bind ?_ (fun _ => ?_)
set_option maxHeartbeats 8000000 in
set_option maxRecDepth 100000 in
theorem orrerylaw19_MatchWhole.calls (k : Nat) (A0 : Option Addr) (c0 : Nat) (l0 : List Int) (A1 : Option Addr) (c1 : Nat) (l1 : List Int) (A2 : Option Addr) (c2 : Nat) (l2 : List (S40)) (r : Bool) (w : World) (hr0 : Kd.C (Kd.int .i64) w A0 l0.length l0) (hc0 : l0.length ≤ c0) (hr1 : Kd.C (Kd.int .i64) w A1 l1.length l1) (hc1 : l1.length ≤ c1) (hr2 : Kd.C k40 w A2 l2.length l2) (hc2 : l2.length ≤ c2) (h : orrerylaw19_MatchWhole.f k l0 l1 l2 = some r) :
    Calls Try.prog 8 #[.slice A0 l0.length c0, .slice A1 l1.length c1, .slice A2 l2.length c2] w fun e w' => e = .returned (.bool r) ∧ Below w.heap.size w w' := by
 have hu40 := Try.underlying40
 have HR0 := Aside0.mk hr0
 have HC0 := Aside0.mk hc0
 clear hr0 hc0
 have HR1 := Aside0.mk hr1
 have HC1 := Aside0.mk hc1
 clear hr1 hc1
 have HR2 := Aside0.mk hr2
 have HC2 := Aside0.mk hc2
 clear hr2 hc2
 have HB := Aside0.mk (Below.refl w.heap.size w)
 have H : (if (l0.length : Int) > 40 then (orrerylaw19_MatchWhole.j0 k l0 l1 l2 (l0.length : Int) true) else (orrerylaw19_MatchWhole.j0 k l0 l1 l2 (l0.length : Int) (decide ((l2.length : Int) > 2000)))) = some r := h
 clear h
 have HC4 := Aside0.mk H
 clear H
 go_enter Try.func8, Try.ntmps8
 go_upto_region 2 with (fail)
 go_cut [29] (fun v29 wc => ∃ (kq : Nat) (x29_3 : Bool), v29 = .bool x29_3 ∧ Aside0 (orrerylaw19_MatchWhole.j0 kq l0 l1 l2 (l0.length : Int) x29_3 = some r) ∧ Aside0 (kq ≤ k) ∧ Aside0 (Below w.heap.size w wc))
 case first =>
  have H := HC4.out
  clear HC4
  by_cases c5 : (l0.length : Int) > 40
  case pos =>
   rw [if_pos c5] at H
   have c5b0 : decide (40 < (l0.length : Int)) = true := decide_eq_true c5
   have c5b1 : decide (40 < l0.length) = true := decide_eq_true (by omega)
   clear c5
   (first | rw [c5b0] | (simp only [i64_w, i32_w]; rw [c5b0]) | skip)
   have H' := Aside0.mk H
   clear H
   go_wp2
   go_meet
   case rel => exact ⟨_, (true), (by first | rfl | (simp; done) | (simp [*]; done)), H', ⟨by first | omega | exact Nat.le_refl _⟩, ⟨by repeat (first | (with_reducible first | exact HB.out | apply below_alloc | apply pw_below_drewN | apply below_drew1) | exact HB.out)⟩⟩
  rw [if_neg c5] at H
  have c5b0 : decide (40 < (l0.length : Int)) = false := decide_eq_false c5
  have c5b1 : decide (40 < l0.length) = false := decide_eq_false (by omega)
  clear c5
  (first | rw [c5b0] | (simp only [i64_w, i32_w]; rw [c5b0]) | skip)
  have H' := Aside0.mk H
  clear H
  go_wp2
  go_meet
  case rel => exact ⟨_, (decide ((l2.length : Int) > 2000)), (by first | rfl | (simp; done) | (simp [*]; done)), H', ⟨by first | omega | exact Nat.le_refl _⟩, ⟨by repeat (first | (with_reducible first | exact HB.out | apply below_alloc | apply pw_below_drewN | apply below_drew1) | exact HB.out)⟩⟩
 case rest =>
  clear HC4
  try clear c1
  try clear c2
  try clear p2
  try clear c5
  try clear c5b0
  try clear c5b1
  obtain ⟨kq, x29_3, rfl, HA, HJ3, HB⟩ := hcut
  cases kq with
  | zero => exact absurd HA.out (by simp [orrerylaw19_MatchWhole.j0])
  | succ kj3 =>
   have H := HA.out
   clear HA
   simp only [orrerylaw19_MatchWhole.j0] at H
   by_cases c6 : x29_3 = true
   case pos =>
    subst c6
    have H1 : (some true) = some r := by rw [if_pos rfl] at H; exact H
    clear H
    have H := H1
    clear H1
    obtain rfl := Option.some.inj H
    go_wp2
    go_ret
    exact ⟨by first | rfl | (simp [errW_none, errW_some] <;> rfl) | (simp [*, errW_none, errW_some] <;> rfl), by repeat (first | (with_reducible first | exact HB.out | apply below_alloc | apply pw_below_drewN | apply below_drew1) | exact HB.out)⟩
   replace c6 := Bool.eq_false_iff.mpr c6
   subst c6
   have H1 : (if 0 ≤ (l0.length : Int) then (if ((l0.length : Int) : Int).toNat ≤ 35184372088832 then (orrerylaw19_MatchWhole.l0 kj3 l1 l2 (l0.length : Int) (List.replicate ((l0.length : Int) : Int).toNat 0) ([] : List (S40)) 0 l0 (l0.length : Int) 0) else (none)) else (none)) = some r := by rw [if_neg (show ¬ (false = true) by decide)] at H; exact H
   clear H
   have H := H1
   clear H1
   by_cases c7 : 0 ≤ (l0.length : Int)
   case neg => rw [if_neg c7] at H; exact absurd H (by simp)
   rw [if_pos c7] at H
   have c7b0 := eq_true c7
   have c7b1 : decide (0 ≤ (l0.length : Int)) = true := decide_eq_true c7
   clear c7
   by_cases c8 : ((l0.length : Int) : Int).toNat ≤ 35184372088832
   case neg => rw [if_neg c8] at H; exact absurd H (by simp)
   rw [if_pos c8] at H
   have c8b0 := eq_true c8
   have c8b1 : decide (((l0.length : Int) : Int).toNat ≤ 35184372088832) = true := decide_eq_true c8
   clear c8
   obtain ⟨y468, hy468⟩ : ∃ y_ : List Int, y_ = (List.replicate ((l0.length : Int) : Int).toNat 0) := ⟨_, rfl⟩
   replace H : (orrerylaw19_MatchWhole.l0 kj3 l1 l2 (l0.length : Int) y468 ([] : List (S40)) 0 l0 (l0.length : Int) 0) = some r := by first | (rw [hy468]; with_reducible exact H) | (have H2_ := (Option.bind_some _ _).symm.trans H; rw [hy468]; with_reducible exact H2_) | (have H2_ := (Option.bind_some _ _).symm.trans H; with_reducible exact H2_) | with_reducible exact H | (rw [hy468]; exact H) | exact H
   have Ny468 := Aside0.mk hy468
   clear hy468
   have H' := Aside0.mk H
   clear H
   go_wp2_with (first | ((with_reducible refine gate_dst (N := 31) rfl ?_); (try (refine gate_guard (by rfl) ?_; dsimp only)); refine Kd.R_make (Kd.int .i64) _ 3 rfl (N := 31) rfl 23 _ _ rfl (l0.length : Int) rfl rfl Try.underlying23 (.int .i64 0) 8 info3 rfl (by decide) (by omega) 0 (ok := fun _ => True) (okp := fun _ => True) rfl (fun _ hk => hk) trivial (of_decide_eq_true (by first | (with_reducible assumption) | assumption)) (Nat.le_trans (Nat.mul_le_mul_right _ (of_decide_eq_true (by first | (with_reducible assumption) | assumption) : (l0.length : Int).toNat ≤ 35184372088832)) (by omega)) (Below.refl _ _) (Nat.le_refl _) ?_; intro v469 w9 ho10 hb hg_ hnew_; clear hg_ hnew_; (first | rw [← Ny468.out] at ho10 | (simp only [Int.reduceToNat] at ho10; rw [← Ny468.out] at ho10)); have n0_ := Aside0.mk (Kd.R_lower ho10 (below_size (by repeat (first | (with_reducible first | exact HB.out | apply below_alloc | apply pw_below_drewN | apply below_drew1) | exact HB.out)))); have n1_ := Aside0.mk (below_step (by repeat (first | (with_reducible first | exact HB.out | apply below_alloc | apply pw_below_drewN | apply below_drew1) | exact HB.out)) hb); clear HB; have HO470 := n0_; have HB := n1_; clear n0_ n1_; clear hb ho10))
   go_loopg [9, 10, 34] kj3 (fun kq v9 v10 v34 w' => ∃ (x8_2 : List Int) (x9_2 : List (S40)) (x10_2 : Int) (x34_2 : Int), v10 = .int .i64 x10_2 ∧ v34 = .int .i64 x34_2 ∧ Aside0 (orrerylaw19_MatchWhole.l0 kq l1 l2 (l0.length : Int) x8_2 x9_2 x10_2 l0 (l0.length : Int) x34_2 = some r) ∧ Aside0 (kq ≤ kj3) ∧ Aside0 (Kd.R (Kd.int .i64) 3 w' w.heap.size (fun _ => True) v469 x8_2) ∧ Aside0 (Kd.R k40 40 w' w.heap.size (fun _ => True) v9 x9_2) ∧ Aside0 (Below w.heap.size w w'))
   case atStart => exact ⟨(y468), (([] : List (S40))), (0), (0), (by first | rfl | (simp; done) | (simp [*]; done)), (by first | rfl | (simp; done) | (simp [*]; done)), H', ⟨Nat.le_refl _⟩, ⟨by (with_reducible repeat (first | apply Kd.R_alloc | apply Kd.R_drewN | apply Kd.R_drew)); exact HO470.out⟩, ⟨by first | exact Kd.R_nil _ _ _ _ _ | exact Kd.N_nil _ _ _ _ _ | exact Kd.V_nil _ _ _ _ _ | exact Kd.Q_nil _ _ _ _ _ | exact Kd.S_nil _ _ _ _ _⟩, ⟨by repeat (first | (with_reducible first | exact HB.out | apply below_alloc | apply pw_below_drewN | apply below_drew1) | exact HB.out)⟩⟩
   case round =>
    clear H'
    try clear c1
    try clear c2
    try clear p2
    try clear c5
    try clear c5b0
    try clear c5b1
    try clear c6
    try clear c7
    try clear c7b0
    try clear c7b1
    try clear c8
    try clear c8b0
    try clear c8b1
    try clear p2
    obtain ⟨x8_2, x9_2, x10_2, x34_2, rfl, rfl, HA, HK2, HO_8, HO_9, HB⟩ := hrel
    cases gk with
    | zero => exact absurd HA.out (by simp [orrerylaw19_MatchWhole.l0])
    | succ k2 =>
     have H := HA.out
     clear HA
     simp only [orrerylaw19_MatchWhole.l0] at H
     by_cases c11 : x34_2 < (l0.length : Int)
     case pos =>
      rw [if_pos c11] at H
      have c11b0 : decide (x34_2 < (l0.length : Int)) = true := decide_eq_true c11
      clear c11
      by_cases c12 : 0 ≤ x34_2
      case neg => rw [if_neg c12] at H; exact absurd H (by simp)
      rw [if_pos c12] at H
      have c12b0 : decide (0 ≤ x34_2) = true := decide_eq_true c12
      clear c12
      by_cases c13 : x34_2 < (l0.length : Int)
      case neg => rw [if_neg c13] at H; exact absurd H (by simp)
      rw [if_pos c13] at H
      have c13b0 : decide (x34_2 < (l0.length : Int)) = true := decide_eq_true c13
      clear c13
      have HC14 := Aside0.mk H
      clear H
      have p471 : 0 ≤ (x34_2 : Int) := of_decide_eq_true (by first | (with_reducible assumption) | assumption)
      have q471 : x34_2 < (l0.length : Int) := of_decide_eq_true (by first | (with_reducible assumption) | assumption)
      obtain ⟨ad471, e471, hx471_0⟩ := Kd.at_int HR0.out x34_2 p471 q471
      cases e471
      replace hx471_0 := (HB.out.cell (World.block_lt_of_cell? w _ hx471_0)).trans hx471_0
      replace p471 := eq_true p471
      replace q471 := eq_true q471
      go_upto_region 10 with (fail)
      go_cut [52] (fun v52 wc => ∃ (kq : Nat) (x52_13 : Bool), v52 = .bool x52_13 ∧ Aside0 (orrerylaw19_MatchWhole.j2 kq l1 l2 (l0.length : Int) x8_2 x9_2 x10_2 x34_2 (rd l0 x34_2) l0 (l0.length : Int) x34_2 x52_13 = some r) ∧ Aside0 (kq ≤ k2) ∧ Aside0 (Kd.R (Kd.int .i64) 3 wc w.heap.size (fun _ => True) v469 x8_2) ∧ Aside0 (Kd.R k40 40 wc w.heap.size (fun _ => True) u9 x9_2) ∧ Aside0 (Below w.heap.size w wc))
      case first =>
       have H := HC14.out
       clear HC14
       by_cases c15 : (rd l0 x34_2) < 0
       case pos =>
        rw [if_pos c15] at H
        have c15b0 : decide ((rd l0 x34_2) < 0) = true := decide_eq_true c15
        clear c15
        (first | rw [c15b0] | (simp only [i64_w, i32_w]; rw [c15b0]) | skip)
        have H' := Aside0.mk H
        clear H
        go_wp2
        go_meet
        case rel => exact ⟨_, (true), (by first | rfl | (simp; done) | (simp [*]; done)), H', ⟨by have := HJ3.out; have := HK2.out; first | omega | exact Nat.le_refl _⟩, ⟨by (with_reducible repeat (first | apply Kd.R_alloc | apply Kd.R_drewN | apply Kd.R_drew)); exact HO_8.out⟩, ⟨by (with_reducible repeat (first | apply Kd.R_alloc | apply Kd.R_drewN | apply Kd.R_drew)); exact HO_9.out⟩, ⟨by repeat (first | (with_reducible first | exact HB.out | apply below_alloc | apply pw_below_drewN | apply below_drew1) | exact HB.out)⟩⟩
       rw [if_neg c15] at H
       have c15b0 : decide ((rd l0 x34_2) < 0) = false := decide_eq_false c15
       clear c15
       (first | rw [c15b0] | (simp only [i64_w, i32_w]; rw [c15b0]) | skip)
       by_cases c16 : (rd l0 x34_2) ≥ (l0.length : Int)
       case pos =>
        rw [if_pos c16] at H
        have c16b0 : decide ((l0.length : Int) ≤ (rd l0 x34_2)) = true := decide_eq_true c16
        clear c16
        have H' := Aside0.mk H
        clear H
        go_wp2
        go_meet
        case rel => exact ⟨_, (true), (by first | rfl | (simp; done) | (simp [*]; done)), H', ⟨by have := HJ3.out; have := HK2.out; first | omega | exact Nat.le_refl _⟩, ⟨by (with_reducible repeat (first | apply Kd.R_alloc | apply Kd.R_drewN | apply Kd.R_drew)); exact HO_8.out⟩, ⟨by (with_reducible repeat (first | apply Kd.R_alloc | apply Kd.R_drewN | apply Kd.R_drew)); exact HO_9.out⟩, ⟨by repeat (first | (with_reducible first | exact HB.out | apply below_alloc | apply pw_below_drewN | apply below_drew1) | exact HB.out)⟩⟩
       rw [if_neg c16] at H
       have c16b0 : decide ((l0.length : Int) ≤ (rd l0 x34_2)) = false := decide_eq_false c16
       clear c16
       by_cases c17 : 0 ≤ (rd l0 x34_2)
       case neg => rw [if_neg c17] at H; exact absurd H (by simp)
       rw [if_pos c17] at H
       have c17b0 : decide (0 ≤ (rd l0 x34_2)) = true := decide_eq_true c17
       clear c17
       by_cases c18 : (rd l0 x34_2) < (x8_2.length : Int)
       case neg => rw [if_neg c18] at H; exact absurd H (by simp)
       rw [if_pos c18] at H
       have c18b0 : decide ((rd l0 x34_2) < (x8_2.length : Int)) = true := decide_eq_true c18
       clear c18
       have H' := Aside0.mk H
       clear H
       obtain ⟨Ao19, co19, eo19⟩ := Kd.R_slice HO_8.out
       subst eo19
       have p472 : 0 ≤ ((rd l0 x34_2) : Int) := of_decide_eq_true (by first | (with_reducible assumption) | assumption)
       have q472 : (rd l0 x34_2) < (x8_2.length : Int) := of_decide_eq_true (by first | (with_reducible assumption) | assumption)
       obtain ⟨ad472, e472, hx472_0⟩ := Kd.at_int (Kd.R_reads' HO_8.out).2.2 (rd l0 x34_2) p472 q472
       cases e472
       replace p472 := eq_true p472
       replace q472 := eq_true q472
       go_wp2
       go_meet
       case rel => exact ⟨_, (((rd x8_2 (rd l0 x34_2)) == 1)), (by first | rfl | (simp; done) | (simp [*]; done)), H', ⟨by have := HJ3.out; have := HK2.out; first | omega | exact Nat.le_refl _⟩, ⟨by (with_reducible repeat (first | apply Kd.R_alloc | apply Kd.R_drewN | apply Kd.R_drew)); exact HO_8.out⟩, ⟨by (with_reducible repeat (first | apply Kd.R_alloc | apply Kd.R_drewN | apply Kd.R_drew)); exact HO_9.out⟩, ⟨by repeat (first | (with_reducible first | exact HB.out | apply below_alloc | apply pw_below_drewN | apply below_drew1) | exact HB.out)⟩⟩
      case rest =>
       clear HC14
       try clear c1
       try clear c2
       try clear p2
       try clear p4
       try clear q4
       try clear hx4
       try clear c5
       try clear c5b0
       try clear c5b1
       try clear c6
       try clear c7
       try clear c7b0
       try clear c7b1
       try clear c8
       try clear c8b0
       try clear c8b1
       try clear c11
       try clear c11b0
       try clear c12
       try clear c12b0
       try clear c13
       try clear c13b0
       try clear c15
       try clear c15b0
       try clear c16
       try clear c16b0
       try clear c17
       try clear c17b0
       try clear c18
       try clear c18b0
       try clear hx471_0
       try clear hx472_0
       try clear p2
       try clear p471
       try clear p472
       try clear q471
       try clear q472
       obtain ⟨kq, x52_13, rfl, HA, HJ13, HO_8, HO_9, HB⟩ := hcut
       cases kq with
       | zero => exact absurd HA.out (by simp [orrerylaw19_MatchWhole.j2])
       | succ kj13 =>
        have H := HA.out
        clear HA
        simp only [orrerylaw19_MatchWhole.j2] at H
        by_cases c20 : x52_13 = true
        case pos =>
         subst c20
         have H1 : (some true) = some r := by rw [if_pos rfl] at H; exact H
         clear H
         have H := H1
         clear H1
         obtain rfl := Option.some.inj H
         go_wp2
         go_ret
         exact ⟨by first | rfl | (simp [errW_none, errW_some] <;> rfl) | (simp [*, errW_none, errW_some] <;> rfl), by repeat (first | (with_reducible first | exact HB.out | apply below_alloc | apply pw_below_drewN | apply below_drew1) | exact HB.out)⟩
        replace c20 := Bool.eq_false_iff.mpr c20
        subst c20
        have H1 : (if 0 ≤ (rd l0 x34_2) then (if (rd l0 x34_2) < (x8_2.length : Int) then ((some (x8_2.set ((rd l0 x34_2) : Int).toNat 1 : List Int)).bind fun y473 => (if x34_2 < (l1.length : Int) then (if 0 ≤ x34_2 then (if (rd l1 x34_2) ≥ 0 then (if (rd l1 x34_2) ≤ 100 then (if x9_2.length < 5864062014805 then (orrerylaw19_MatchWhole.l0 kj13 l1 l2 (l0.length : Int) y473 (x9_2 ++ [(⟨x34_2, (rd l0 x34_2), rd l1 x34_2⟩ : S40)]) (wrap64 (x10_2 + (rd l1 x34_2))) l0 (l0.length : Int) (wrap64 (x34_2 + 1))) else (none)) else (if x9_2.length < 5864062014805 then (orrerylaw19_MatchWhole.l0 kj13 l1 l2 (l0.length : Int) y473 (x9_2 ++ [(⟨x34_2, (rd l0 x34_2), 0⟩ : S40)]) (wrap64 (x10_2 + 0)) l0 (l0.length : Int) (wrap64 (x34_2 + 1))) else (none))) else (if x9_2.length < 5864062014805 then (orrerylaw19_MatchWhole.l0 kj13 l1 l2 (l0.length : Int) y473 (x9_2 ++ [(⟨x34_2, (rd l0 x34_2), 0⟩ : S40)]) (wrap64 (x10_2 + 0)) l0 (l0.length : Int) (wrap64 (x34_2 + 1))) else (none))) else (none)) else (if x9_2.length < 5864062014805 then (orrerylaw19_MatchWhole.l0 kj13 l1 l2 (l0.length : Int) y473 (x9_2 ++ [(⟨x34_2, (rd l0 x34_2), 0⟩ : S40)]) (wrap64 (x10_2 + 0)) l0 (l0.length : Int) (wrap64 (x34_2 + 1))) else (none)))) else (none)) else (none)) = some r := by rw [if_neg (show ¬ (false = true) by decide)] at H; exact H
        clear H
        have H := H1
        clear H1
        by_cases c21 : 0 ≤ (rd l0 x34_2)
        case neg => rw [if_neg c21] at H; exact absurd H (by simp)
        rw [if_pos c21] at H
        have c21b0 : decide (0 ≤ (rd l0 x34_2)) = true := decide_eq_true c21
        clear c21
        by_cases c22 : (rd l0 x34_2) < (x8_2.length : Int)
        case neg => rw [if_neg c22] at H; exact absurd H (by simp)
        rw [if_pos c22] at H
        have c22b0 : decide ((rd l0 x34_2) < (x8_2.length : Int)) = true := decide_eq_true c22
        clear c22
        obtain ⟨y473, hy473⟩ : ∃ y_ : List Int, y_ = (x8_2.set ((rd l0 x34_2) : Int).toNat 1) := ⟨_, rfl⟩
        replace H : (if x34_2 < (l1.length : Int) then (if 0 ≤ x34_2 then (if (rd l1 x34_2) ≥ 0 then (if (rd l1 x34_2) ≤ 100 then (if x9_2.length < 5864062014805 then (orrerylaw19_MatchWhole.l0 kj13 l1 l2 (l0.length : Int) y473 (x9_2 ++ [(⟨x34_2, (rd l0 x34_2), rd l1 x34_2⟩ : S40)]) (wrap64 (x10_2 + (rd l1 x34_2))) l0 (l0.length : Int) (wrap64 (x34_2 + 1))) else (none)) else (if x9_2.length < 5864062014805 then (orrerylaw19_MatchWhole.l0 kj13 l1 l2 (l0.length : Int) y473 (x9_2 ++ [(⟨x34_2, (rd l0 x34_2), 0⟩ : S40)]) (wrap64 (x10_2 + 0)) l0 (l0.length : Int) (wrap64 (x34_2 + 1))) else (none))) else (if x9_2.length < 5864062014805 then (orrerylaw19_MatchWhole.l0 kj13 l1 l2 (l0.length : Int) y473 (x9_2 ++ [(⟨x34_2, (rd l0 x34_2), 0⟩ : S40)]) (wrap64 (x10_2 + 0)) l0 (l0.length : Int) (wrap64 (x34_2 + 1))) else (none))) else (none)) else (if x9_2.length < 5864062014805 then (orrerylaw19_MatchWhole.l0 kj13 l1 l2 (l0.length : Int) y473 (x9_2 ++ [(⟨x34_2, (rd l0 x34_2), 0⟩ : S40)]) (wrap64 (x10_2 + 0)) l0 (l0.length : Int) (wrap64 (x34_2 + 1))) else (none))) = some r := by first | (rw [hy473]; with_reducible exact H) | (have H2_ := (Option.bind_some _ _).symm.trans H; rw [hy473]; with_reducible exact H2_) | (have H2_ := (Option.bind_some _ _).symm.trans H; with_reducible exact H2_) | with_reducible exact H | (rw [hy473]; exact H) | exact H
        have Ny473 := Aside0.mk hy473
        clear hy473
        by_cases c24 : x34_2 < (l1.length : Int)
        case neg =>
         rw [if_neg c24] at H
         have c24b0 : decide (x34_2 < (l1.length : Int)) = false := decide_eq_false c24
         clear c24
         by_cases c40 : x9_2.length < 5864062014805
         case neg => rw [if_neg c40] at H; exact absurd H (by simp)
         rw [if_pos c40] at H
         have LMc40 := Aside0.mk c40
         clear c40
         obtain ⟨y486, hy486⟩ : ∃ y_ : List (S40), y_ = (x9_2 ++ [(⟨x34_2, (rd l0 x34_2), 0⟩ : S40)]) := ⟨_, rfl⟩
         replace H : (orrerylaw19_MatchWhole.l0 kj13 l1 l2 (l0.length : Int) y473 y486 (wrap64 (x10_2 + 0)) l0 (l0.length : Int) (wrap64 (x34_2 + 1))) = some r := by first | (rw [hy486]; with_reducible exact H) | (have H2_ := (Option.bind_some _ _).symm.trans H; rw [hy486]; with_reducible exact H2_) | (have H2_ := (Option.bind_some _ _).symm.trans H; with_reducible exact H2_) | with_reducible exact H | (rw [hy486]; exact H) | exact H
         have Ny486 := Aside0.mk hy486
         clear hy486
         have H' := Aside0.mk H
         clear H
         have p23 : 0 ≤ ((rd l0 x34_2) : Int) := of_decide_eq_true (by first | (with_reducible assumption) | assumption)
         have q23 : ((rd l0 x34_2) : Int) < ((x8_2.length : Int) : Int) := of_decide_eq_true (by first | (with_reducible assumption) | assumption)
         obtain ⟨go23, co23, eo23, gb23, gl23, cl23, HG23⟩ := Kd.R_form HO_8.out (by omega)
         (first | cases eo23 | (injection eo23 with ea_ en_ ec_; (first | subst ea_ | (injection ea_ with ea_; subst ea_)); subst ec_; clear en_))
         have GB23 := Aside0.mk gb23
         have GG23 := Aside0.mk HG23
         clear gb23 gl23 HG23
         obtain ⟨hx23_0, hf23_0⟩ := Kd.R_celln 0 HO_8.out ((rd l0 x34_2) : Int) p23 q23
         replace p23 := eq_true p23
         replace q23 := eq_true q23
         have HP41 := Kd.R_putg HO_8.out ((rd l0 x34_2) : Int) 1
         go_wp2_with (first | ((with_reducible refine gate_store (t := 3) (p := 55) rfl ?_); refine store_event (t := 3) (p := 55) (v := ?vo_w42) (w1 := (wc.setCell ⟨go23, ((rd l0 x34_2) : Int).toNat, none⟩ (.int .i64 1))) ?hg ?ho ?hn ?hr ?_; (case ho => rfl); (case hg => rfl); (case hn => rfl); (case hr => first | (go_simp; done) | (go_simp; rfl)); intro w42 hw; have hg : wc.grownBy w42 (some go23) := (by rw [hw]; exact HP41.2); have hp_ : Kd.R (Kd.int .i64) 3 w42 w.heap.size (fun _ => True) (.slice (some ⟨go23, 0, none⟩) x8_2.length co23) y473 := (by rw [hw, Ny473.out]; exact HP41.1); clear HP41; have n0_ := Aside0.mk (hp_); have n1_ := Aside0.mk (Kd.R_over' (v := (.slice (some ⟨go23, 0, none⟩) x8_2.length co23)) (by (with_reducible repeat (first | apply Kd.R_alloc | apply Kd.R_drewN | apply Kd.R_drew)); exact HO_9.out) (Kd.R_typed HO_8.out) (by decide) hg); have n2_ := Aside0.mk ((by rw [hw]; exact below_set (HB.out) GB23.out : Below w.heap.size w w42)); clear HO_8; clear HO_9; clear HB; have HO_8 := n0_; have HO_9 := n1_; have HB := n2_; clear n0_ n1_ n2_; clear hg hw hp_) | ((with_reducible refine gate_builtin (b := .append) (xs := #[.tmp 81, .tmp 86]) rfl ?_); (try (refine gate_guard (by rfl) ?_; dsimp only)); at_builtin; refine Kd.R_append k40 (w0 := w) w.heap.size rfl (.tmp 81) (.tmp 86) 22 40 (.agg #[(.int .i64 0), (.int .i64 0), (.int .i64 0)]) 24 rfl Try.underlying22 info40 rfl (by decide) (by omega) u9 x9_2 (⟨x34_2, (rd l0 x34_2), 0⟩ : S40) [.int .i64 x34_2, .int .i64 (rd l0 x34_2), .int .i64 0] (fun _ => True) (fun _ => False) rfl rfl ?aP (fun _ hk => hk.elim) ?aF ?aO ?aB ?aS ?aL ?_; (case aP => exact k40_mkM _ _ _ (⟨x34_2, (rd l0 x34_2), 0⟩ : S40)); (case aB => exact (by repeat (first | (with_reducible first | exact HB.out | apply below_alloc | apply pw_below_drewN | apply below_drew1) | exact HB.out))); (case aF => exact (fun _ _ => trivial)); (case aO => exact (by (with_reducible repeat (first | apply Kd.R_alloc | apply Kd.R_drewN | apply Kd.R_drew)); exact HO_9.out)); (case aS => exact (below_size (by repeat (first | (with_reducible first | exact HB.out | apply below_alloc | apply pw_below_drewN | apply below_drew1) | exact HB.out)))); (case aL => have := LMc40.out; omega); intro v487 w43 ho hb hg hat; rw [← Ny486.out] at ho; have n0_ := Aside0.mk (Kd.R_over' (by (with_reducible repeat (first | apply Kd.R_alloc | apply Kd.R_drewN | apply Kd.R_drew)); exact HO_8.out) (Kd.R_typed (by (with_reducible repeat (first | apply Kd.R_alloc | apply Kd.R_drewN | apply Kd.R_drew)); exact HO_9.out)) (by decide) hg); have n1_ := Aside0.mk (hb); have n2_ := Aside0.mk (ho); clear HO_8; clear HB; clear HO_9; have HO_8 := n0_; have HB := n1_; have HO488 := n2_; clear n0_ n1_ n2_; clear ho hb hg hat))
         (first | go_roundg kj13 | (refine Handed.intro kj13 ?measure ?_; rotate_left; go_step; (repeat apply Exists.intro); (refine ⟨?rel, ?fr_⟩); (case fr_ => (simp only [add_plain]; rfl))))
         case measure => have := HJ3.out; have := HK2.out; have := HJ13.out; omega
         case rel => exact ⟨(y473), (y486), (wrap64 (x10_2 + 0)), (wrap64 (x34_2 + 1)), (by first | rfl | (simp; done) | (simp [*]; done)), (by first | rfl | (simp; done) | (simp [*]; done)), H', ⟨by have := HJ3.out; have := HK2.out; have := HJ13.out; omega⟩, ⟨by (with_reducible repeat (first | apply Kd.R_alloc | apply Kd.R_drewN | apply Kd.R_drew)); exact HO_8.out⟩, ⟨by (with_reducible repeat (first | apply Kd.R_alloc | apply Kd.R_drewN | apply Kd.R_drew)); exact HO488.out⟩, ⟨by repeat (first | (with_reducible first | exact HB.out | apply below_alloc | apply pw_below_drewN | apply below_drew1) | exact HB.out)⟩⟩
        rw [if_pos c24] at H
        have c24b0 : decide (x34_2 < (l1.length : Int)) = true := decide_eq_true c24
        clear c24
        by_cases c25 : 0 ≤ x34_2
        case neg => rw [if_neg c25] at H; exact absurd H (by simp)
        rw [if_pos c25] at H
        have c25b0 : decide (0 ≤ x34_2) = true := decide_eq_true c25
        clear c25
        by_cases c26 : (rd l1 x34_2) ≥ 0
        case neg =>
         rw [if_neg c26] at H
         have c26b0 : decide (0 ≤ (rd l1 x34_2)) = false := decide_eq_false c26
         clear c26
         by_cases c36 : x9_2.length < 5864062014805
         case neg => rw [if_neg c36] at H; exact absurd H (by simp)
         rw [if_pos c36] at H
         have LMc36 := Aside0.mk c36
         clear c36
         obtain ⟨y483, hy483⟩ : ∃ y_ : List (S40), y_ = (x9_2 ++ [(⟨x34_2, (rd l0 x34_2), 0⟩ : S40)]) := ⟨_, rfl⟩
         replace H : (orrerylaw19_MatchWhole.l0 kj13 l1 l2 (l0.length : Int) y473 y483 (wrap64 (x10_2 + 0)) l0 (l0.length : Int) (wrap64 (x34_2 + 1))) = some r := by first | (rw [hy483]; with_reducible exact H) | (have H2_ := (Option.bind_some _ _).symm.trans H; rw [hy483]; with_reducible exact H2_) | (have H2_ := (Option.bind_some _ _).symm.trans H; with_reducible exact H2_) | with_reducible exact H | (rw [hy483]; exact H) | exact H
         have Ny483 := Aside0.mk hy483
         clear hy483
         have H' := Aside0.mk H
         clear H
         have p23 : 0 ≤ ((rd l0 x34_2) : Int) := of_decide_eq_true (by first | (with_reducible assumption) | assumption)
         have q23 : ((rd l0 x34_2) : Int) < ((x8_2.length : Int) : Int) := of_decide_eq_true (by first | (with_reducible assumption) | assumption)
         obtain ⟨go23, co23, eo23, gb23, gl23, cl23, HG23⟩ := Kd.R_form HO_8.out (by omega)
         (first | cases eo23 | (injection eo23 with ea_ en_ ec_; (first | subst ea_ | (injection ea_ with ea_; subst ea_)); subst ec_; clear en_))
         have GB23 := Aside0.mk gb23
         have GG23 := Aside0.mk HG23
         clear gb23 gl23 HG23
         obtain ⟨hx23_0, hf23_0⟩ := Kd.R_celln 0 HO_8.out ((rd l0 x34_2) : Int) p23 q23
         replace p23 := eq_true p23
         replace q23 := eq_true q23
         have HP37 := Kd.R_putg HO_8.out ((rd l0 x34_2) : Int) 1
         go_wp2_with (first | ((with_reducible refine gate_store (t := 3) (p := 55) rfl ?_); refine store_event (t := 3) (p := 55) (v := ?vo_w38) (w1 := (wc.setCell ⟨go23, ((rd l0 x34_2) : Int).toNat, none⟩ (.int .i64 1))) ?hg ?ho ?hn ?hr ?_; (case ho => rfl); (case hg => rfl); (case hn => rfl); (case hr => first | (go_simp; done) | (go_simp; rfl)); intro w38 hw; have hg : wc.grownBy w38 (some go23) := (by rw [hw]; exact HP37.2); have hp_ : Kd.R (Kd.int .i64) 3 w38 w.heap.size (fun _ => True) (.slice (some ⟨go23, 0, none⟩) x8_2.length co23) y473 := (by rw [hw, Ny473.out]; exact HP37.1); clear HP37; have n0_ := Aside0.mk (hp_); have n1_ := Aside0.mk (Kd.R_over' (v := (.slice (some ⟨go23, 0, none⟩) x8_2.length co23)) (by (with_reducible repeat (first | apply Kd.R_alloc | apply Kd.R_drewN | apply Kd.R_drew)); exact HO_9.out) (Kd.R_typed HO_8.out) (by decide) hg); have n2_ := Aside0.mk ((by rw [hw]; exact below_set (HB.out) GB23.out : Below w.heap.size w w38)); clear HO_8; clear HO_9; clear HB; have HO_8 := n0_; have HO_9 := n1_; have HB := n2_; clear n0_ n1_ n2_; clear hg hw hp_; have p474 : 0 ≤ (x34_2 : Int) := of_decide_eq_true (by first | (with_reducible assumption) | assumption); have q474 : x34_2 < (l1.length : Int) := of_decide_eq_true (by first | (with_reducible assumption) | assumption); obtain ⟨ad474, e474, hx474_0⟩ := Kd.at_int HR1.out x34_2 p474 q474; cases e474; replace hx474_0 := (HB.out.cell (World.block_lt_of_cell? w _ hx474_0)).trans hx474_0; replace p474 := eq_true p474; replace q474 := eq_true q474) | ((with_reducible refine gate_builtin (b := .append) (xs := #[.tmp 81, .tmp 86]) rfl ?_); (try (refine gate_guard (by rfl) ?_; dsimp only)); at_builtin; refine Kd.R_append k40 (w0 := w) w.heap.size rfl (.tmp 81) (.tmp 86) 22 40 (.agg #[(.int .i64 0), (.int .i64 0), (.int .i64 0)]) 24 rfl Try.underlying22 info40 rfl (by decide) (by omega) u9 x9_2 (⟨x34_2, (rd l0 x34_2), 0⟩ : S40) [.int .i64 x34_2, .int .i64 (rd l0 x34_2), .int .i64 0] (fun _ => True) (fun _ => False) rfl rfl ?aP (fun _ hk => hk.elim) ?aF ?aO ?aB ?aS ?aL ?_; (case aP => exact k40_mkM _ _ _ (⟨x34_2, (rd l0 x34_2), 0⟩ : S40)); (case aB => exact (by repeat (first | (with_reducible first | exact HB.out | apply below_alloc | apply pw_below_drewN | apply below_drew1) | exact HB.out))); (case aF => exact (fun _ _ => trivial)); (case aO => exact (by (with_reducible repeat (first | apply Kd.R_alloc | apply Kd.R_drewN | apply Kd.R_drew)); exact HO_9.out)); (case aS => exact (below_size (by repeat (first | (with_reducible first | exact HB.out | apply below_alloc | apply pw_below_drewN | apply below_drew1) | exact HB.out)))); (case aL => have := LMc36.out; omega); intro v484 w39 ho hb hg hat; rw [← Ny483.out] at ho; have n0_ := Aside0.mk (Kd.R_over' (by (with_reducible repeat (first | apply Kd.R_alloc | apply Kd.R_drewN | apply Kd.R_drew)); exact HO_8.out) (Kd.R_typed (by (with_reducible repeat (first | apply Kd.R_alloc | apply Kd.R_drewN | apply Kd.R_drew)); exact HO_9.out)) (by decide) hg); have n1_ := Aside0.mk (hb); have n2_ := Aside0.mk (ho); clear HO_8; clear HB; clear HO_9; have HO_8 := n0_; have HB := n1_; have HO485 := n2_; clear n0_ n1_ n2_; clear ho hb hg hat))
         (first | go_roundg kj13 | (refine Handed.intro kj13 ?measure ?_; rotate_left; go_step; (repeat apply Exists.intro); (refine ⟨?rel, ?fr_⟩); (case fr_ => (simp only [add_plain]; rfl))))
         case measure => have := HJ3.out; have := HK2.out; have := HJ13.out; omega
         case rel => exact ⟨(y473), (y483), (wrap64 (x10_2 + 0)), (wrap64 (x34_2 + 1)), (by first | rfl | (simp; done) | (simp [*]; done)), (by first | rfl | (simp; done) | (simp [*]; done)), H', ⟨by have := HJ3.out; have := HK2.out; have := HJ13.out; omega⟩, ⟨by (with_reducible repeat (first | apply Kd.R_alloc | apply Kd.R_drewN | apply Kd.R_drew)); exact HO_8.out⟩, ⟨by (with_reducible repeat (first | apply Kd.R_alloc | apply Kd.R_drewN | apply Kd.R_drew)); exact HO485.out⟩, ⟨by repeat (first | (with_reducible first | exact HB.out | apply below_alloc | apply pw_below_drewN | apply below_drew1) | exact HB.out)⟩⟩
        rw [if_pos c26] at H
        have c26b0 : decide (0 ≤ (rd l1 x34_2)) = true := decide_eq_true c26
        clear c26
        by_cases c27 : (rd l1 x34_2) ≤ 100
        case neg =>
         rw [if_neg c27] at H
         have c27b0 : decide ((rd l1 x34_2) ≤ 100) = false := decide_eq_false c27
         clear c27
         by_cases c32 : x9_2.length < 5864062014805
         case neg => rw [if_neg c32] at H; exact absurd H (by simp)
         rw [if_pos c32] at H
         have LMc32 := Aside0.mk c32
         clear c32
         obtain ⟨y480, hy480⟩ : ∃ y_ : List (S40), y_ = (x9_2 ++ [(⟨x34_2, (rd l0 x34_2), 0⟩ : S40)]) := ⟨_, rfl⟩
         replace H : (orrerylaw19_MatchWhole.l0 kj13 l1 l2 (l0.length : Int) y473 y480 (wrap64 (x10_2 + 0)) l0 (l0.length : Int) (wrap64 (x34_2 + 1))) = some r := by first | (rw [hy480]; with_reducible exact H) | (have H2_ := (Option.bind_some _ _).symm.trans H; rw [hy480]; with_reducible exact H2_) | (have H2_ := (Option.bind_some _ _).symm.trans H; with_reducible exact H2_) | with_reducible exact H | (rw [hy480]; exact H) | exact H
         have Ny480 := Aside0.mk hy480
         clear hy480
         have H' := Aside0.mk H
         clear H
         have p23 : 0 ≤ ((rd l0 x34_2) : Int) := of_decide_eq_true (by first | (with_reducible assumption) | assumption)
         have q23 : ((rd l0 x34_2) : Int) < ((x8_2.length : Int) : Int) := of_decide_eq_true (by first | (with_reducible assumption) | assumption)
         obtain ⟨go23, co23, eo23, gb23, gl23, cl23, HG23⟩ := Kd.R_form HO_8.out (by omega)
         (first | cases eo23 | (injection eo23 with ea_ en_ ec_; (first | subst ea_ | (injection ea_ with ea_; subst ea_)); subst ec_; clear en_))
         have GB23 := Aside0.mk gb23
         have GG23 := Aside0.mk HG23
         clear gb23 gl23 HG23
         obtain ⟨hx23_0, hf23_0⟩ := Kd.R_celln 0 HO_8.out ((rd l0 x34_2) : Int) p23 q23
         replace p23 := eq_true p23
         replace q23 := eq_true q23
         have HP33 := Kd.R_putg HO_8.out ((rd l0 x34_2) : Int) 1
         go_wp2_with (first | ((with_reducible refine gate_store (t := 3) (p := 55) rfl ?_); refine store_event (t := 3) (p := 55) (v := ?vo_w34) (w1 := (wc.setCell ⟨go23, ((rd l0 x34_2) : Int).toNat, none⟩ (.int .i64 1))) ?hg ?ho ?hn ?hr ?_; (case ho => rfl); (case hg => rfl); (case hn => rfl); (case hr => first | (go_simp; done) | (go_simp; rfl)); intro w34 hw; have hg : wc.grownBy w34 (some go23) := (by rw [hw]; exact HP33.2); have hp_ : Kd.R (Kd.int .i64) 3 w34 w.heap.size (fun _ => True) (.slice (some ⟨go23, 0, none⟩) x8_2.length co23) y473 := (by rw [hw, Ny473.out]; exact HP33.1); clear HP33; have n0_ := Aside0.mk (hp_); have n1_ := Aside0.mk (Kd.R_over' (v := (.slice (some ⟨go23, 0, none⟩) x8_2.length co23)) (by (with_reducible repeat (first | apply Kd.R_alloc | apply Kd.R_drewN | apply Kd.R_drew)); exact HO_9.out) (Kd.R_typed HO_8.out) (by decide) hg); have n2_ := Aside0.mk ((by rw [hw]; exact below_set (HB.out) GB23.out : Below w.heap.size w w34)); clear HO_8; clear HO_9; clear HB; have HO_8 := n0_; have HO_9 := n1_; have HB := n2_; clear n0_ n1_ n2_; clear hg hw hp_; have p474 : 0 ≤ (x34_2 : Int) := of_decide_eq_true (by first | (with_reducible assumption) | assumption); have q474 : x34_2 < (l1.length : Int) := of_decide_eq_true (by first | (with_reducible assumption) | assumption); obtain ⟨ad474, e474, hx474_0⟩ := Kd.at_int HR1.out x34_2 p474 q474; cases e474; replace hx474_0 := (HB.out.cell (World.block_lt_of_cell? w _ hx474_0)).trans hx474_0; replace p474 := eq_true p474; replace q474 := eq_true q474; have p475 : 0 ≤ (x34_2 : Int) := of_decide_eq_true (by first | (with_reducible assumption) | assumption); have q475 : x34_2 < (l1.length : Int) := of_decide_eq_true (by first | (with_reducible assumption) | assumption); obtain ⟨ad475, e475, hx475_0⟩ := Kd.at_int HR1.out x34_2 p475 q475; obtain rfl : ad474 = ad475 := (by injection e475); replace hx475_0 := (HB.out.cell (World.block_lt_of_cell? w _ hx475_0)).trans hx475_0; replace p475 := eq_true p475; replace q475 := eq_true q475) | ((with_reducible refine gate_builtin (b := .append) (xs := #[.tmp 81, .tmp 86]) rfl ?_); (try (refine gate_guard (by rfl) ?_; dsimp only)); at_builtin; refine Kd.R_append k40 (w0 := w) w.heap.size rfl (.tmp 81) (.tmp 86) 22 40 (.agg #[(.int .i64 0), (.int .i64 0), (.int .i64 0)]) 24 rfl Try.underlying22 info40 rfl (by decide) (by omega) u9 x9_2 (⟨x34_2, (rd l0 x34_2), 0⟩ : S40) [.int .i64 x34_2, .int .i64 (rd l0 x34_2), .int .i64 0] (fun _ => True) (fun _ => False) rfl rfl ?aP (fun _ hk => hk.elim) ?aF ?aO ?aB ?aS ?aL ?_; (case aP => exact k40_mkM _ _ _ (⟨x34_2, (rd l0 x34_2), 0⟩ : S40)); (case aB => exact (by repeat (first | (with_reducible first | exact HB.out | apply below_alloc | apply pw_below_drewN | apply below_drew1) | exact HB.out))); (case aF => exact (fun _ _ => trivial)); (case aO => exact (by (with_reducible repeat (first | apply Kd.R_alloc | apply Kd.R_drewN | apply Kd.R_drew)); exact HO_9.out)); (case aS => exact (below_size (by repeat (first | (with_reducible first | exact HB.out | apply below_alloc | apply pw_below_drewN | apply below_drew1) | exact HB.out)))); (case aL => have := LMc32.out; omega); intro v481 w35 ho hb hg hat; rw [← Ny480.out] at ho; have n0_ := Aside0.mk (Kd.R_over' (by (with_reducible repeat (first | apply Kd.R_alloc | apply Kd.R_drewN | apply Kd.R_drew)); exact HO_8.out) (Kd.R_typed (by (with_reducible repeat (first | apply Kd.R_alloc | apply Kd.R_drewN | apply Kd.R_drew)); exact HO_9.out)) (by decide) hg); have n1_ := Aside0.mk (hb); have n2_ := Aside0.mk (ho); clear HO_8; clear HB; clear HO_9; have HO_8 := n0_; have HB := n1_; have HO482 := n2_; clear n0_ n1_ n2_; clear ho hb hg hat))
         (first | go_roundg kj13 | (refine Handed.intro kj13 ?measure ?_; rotate_left; go_step; (repeat apply Exists.intro); (refine ⟨?rel, ?fr_⟩); (case fr_ => (simp only [add_plain]; rfl))))
         case measure => have := HJ3.out; have := HK2.out; have := HJ13.out; omega
         case rel => exact ⟨(y473), (y480), (wrap64 (x10_2 + 0)), (wrap64 (x34_2 + 1)), (by first | rfl | (simp; done) | (simp [*]; done)), (by first | rfl | (simp; done) | (simp [*]; done)), H', ⟨by have := HJ3.out; have := HK2.out; have := HJ13.out; omega⟩, ⟨by (with_reducible repeat (first | apply Kd.R_alloc | apply Kd.R_drewN | apply Kd.R_drew)); exact HO_8.out⟩, ⟨by (with_reducible repeat (first | apply Kd.R_alloc | apply Kd.R_drewN | apply Kd.R_drew)); exact HO482.out⟩, ⟨by repeat (first | (with_reducible first | exact HB.out | apply below_alloc | apply pw_below_drewN | apply below_drew1) | exact HB.out)⟩⟩
        rw [if_pos c27] at H
        have c27b0 : decide ((rd l1 x34_2) ≤ 100) = true := decide_eq_true c27
        clear c27
        by_cases c28 : x9_2.length < 5864062014805
        case neg => rw [if_neg c28] at H; exact absurd H (by simp)
        rw [if_pos c28] at H
        have LMc28 := Aside0.mk c28
        clear c28
        obtain ⟨y477, hy477⟩ : ∃ y_ : List (S40), y_ = (x9_2 ++ [(⟨x34_2, (rd l0 x34_2), rd l1 x34_2⟩ : S40)]) := ⟨_, rfl⟩
        replace H : (orrerylaw19_MatchWhole.l0 kj13 l1 l2 (l0.length : Int) y473 y477 (wrap64 (x10_2 + (rd l1 x34_2))) l0 (l0.length : Int) (wrap64 (x34_2 + 1))) = some r := by first | (rw [hy477]; with_reducible exact H) | (have H2_ := (Option.bind_some _ _).symm.trans H; rw [hy477]; with_reducible exact H2_) | (have H2_ := (Option.bind_some _ _).symm.trans H; with_reducible exact H2_) | with_reducible exact H | (rw [hy477]; exact H) | exact H
        have Ny477 := Aside0.mk hy477
        clear hy477
        have H' := Aside0.mk H
        clear H
        have p23 : 0 ≤ ((rd l0 x34_2) : Int) := of_decide_eq_true (by first | (with_reducible assumption) | assumption)
        have q23 : ((rd l0 x34_2) : Int) < ((x8_2.length : Int) : Int) := of_decide_eq_true (by first | (with_reducible assumption) | assumption)
        obtain ⟨go23, co23, eo23, gb23, gl23, cl23, HG23⟩ := Kd.R_form HO_8.out (by omega)
        (first | cases eo23 | (injection eo23 with ea_ en_ ec_; (first | subst ea_ | (injection ea_ with ea_; subst ea_)); subst ec_; clear en_))
        have GB23 := Aside0.mk gb23
        have GG23 := Aside0.mk HG23
        clear gb23 gl23 HG23
        obtain ⟨hx23_0, hf23_0⟩ := Kd.R_celln 0 HO_8.out ((rd l0 x34_2) : Int) p23 q23
        replace p23 := eq_true p23
        replace q23 := eq_true q23
        have HP29 := Kd.R_putg HO_8.out ((rd l0 x34_2) : Int) 1
        go_wp2_with (first | ((with_reducible refine gate_store (t := 3) (p := 55) rfl ?_); refine store_event (t := 3) (p := 55) (v := ?vo_w30) (w1 := (wc.setCell ⟨go23, ((rd l0 x34_2) : Int).toNat, none⟩ (.int .i64 1))) ?hg ?ho ?hn ?hr ?_; (case ho => rfl); (case hg => rfl); (case hn => rfl); (case hr => first | (go_simp; done) | (go_simp; rfl)); intro w30 hw; have hg : wc.grownBy w30 (some go23) := (by rw [hw]; exact HP29.2); have hp_ : Kd.R (Kd.int .i64) 3 w30 w.heap.size (fun _ => True) (.slice (some ⟨go23, 0, none⟩) x8_2.length co23) y473 := (by rw [hw, Ny473.out]; exact HP29.1); clear HP29; have n0_ := Aside0.mk (hp_); have n1_ := Aside0.mk (Kd.R_over' (v := (.slice (some ⟨go23, 0, none⟩) x8_2.length co23)) (by (with_reducible repeat (first | apply Kd.R_alloc | apply Kd.R_drewN | apply Kd.R_drew)); exact HO_9.out) (Kd.R_typed HO_8.out) (by decide) hg); have n2_ := Aside0.mk ((by rw [hw]; exact below_set (HB.out) GB23.out : Below w.heap.size w w30)); clear HO_8; clear HO_9; clear HB; have HO_8 := n0_; have HO_9 := n1_; have HB := n2_; clear n0_ n1_ n2_; clear hg hw hp_; have p474 : 0 ≤ (x34_2 : Int) := of_decide_eq_true (by first | (with_reducible assumption) | assumption); have q474 : x34_2 < (l1.length : Int) := of_decide_eq_true (by first | (with_reducible assumption) | assumption); obtain ⟨ad474, e474, hx474_0⟩ := Kd.at_int HR1.out x34_2 p474 q474; cases e474; replace hx474_0 := (HB.out.cell (World.block_lt_of_cell? w _ hx474_0)).trans hx474_0; replace p474 := eq_true p474; replace q474 := eq_true q474; have p475 : 0 ≤ (x34_2 : Int) := of_decide_eq_true (by first | (with_reducible assumption) | assumption); have q475 : x34_2 < (l1.length : Int) := of_decide_eq_true (by first | (with_reducible assumption) | assumption); obtain ⟨ad475, e475, hx475_0⟩ := Kd.at_int HR1.out x34_2 p475 q475; obtain rfl : ad474 = ad475 := (by injection e475); replace hx475_0 := (HB.out.cell (World.block_lt_of_cell? w _ hx475_0)).trans hx475_0; replace p475 := eq_true p475; replace q475 := eq_true q475; have p476 : 0 ≤ (x34_2 : Int) := of_decide_eq_true (by first | (with_reducible assumption) | assumption); have q476 : x34_2 < (l1.length : Int) := of_decide_eq_true (by first | (with_reducible assumption) | assumption); obtain ⟨ad476, e476, hx476_0⟩ := Kd.at_int HR1.out x34_2 p476 q476; obtain rfl : ad474 = ad476 := (by injection e476); replace hx476_0 := (HB.out.cell (World.block_lt_of_cell? w _ hx476_0)).trans hx476_0; replace p476 := eq_true p476; replace q476 := eq_true q476) | ((with_reducible refine gate_builtin (b := .append) (xs := #[.tmp 81, .tmp 86]) rfl ?_); (try (refine gate_guard (by rfl) ?_; dsimp only)); at_builtin; refine Kd.R_append k40 (w0 := w) w.heap.size rfl (.tmp 81) (.tmp 86) 22 40 (.agg #[(.int .i64 0), (.int .i64 0), (.int .i64 0)]) 24 rfl Try.underlying22 info40 rfl (by decide) (by omega) u9 x9_2 (⟨x34_2, (rd l0 x34_2), rd l1 x34_2⟩ : S40) [.int .i64 x34_2, .int .i64 (rd l0 x34_2), .int .i64 (rd l1 x34_2)] (fun _ => True) (fun _ => False) rfl rfl ?aP (fun _ hk => hk.elim) ?aF ?aO ?aB ?aS ?aL ?_; (case aP => exact k40_mkM _ _ _ (⟨x34_2, (rd l0 x34_2), rd l1 x34_2⟩ : S40)); (case aB => exact (by repeat (first | (with_reducible first | exact HB.out | apply below_alloc | apply pw_below_drewN | apply below_drew1) | exact HB.out))); (case aF => exact (fun _ _ => trivial)); (case aO => exact (by (with_reducible repeat (first | apply Kd.R_alloc | apply Kd.R_drewN | apply Kd.R_drew)); exact HO_9.out)); (case aS => exact (below_size (by repeat (first | (with_reducible first | exact HB.out | apply below_alloc | apply pw_below_drewN | apply below_drew1) | exact HB.out)))); (case aL => have := LMc28.out; omega); intro v478 w31 ho hb hg hat; rw [← Ny477.out] at ho; have n0_ := Aside0.mk (Kd.R_over' (by (with_reducible repeat (first | apply Kd.R_alloc | apply Kd.R_drewN | apply Kd.R_drew)); exact HO_8.out) (Kd.R_typed (by (with_reducible repeat (first | apply Kd.R_alloc | apply Kd.R_drewN | apply Kd.R_drew)); exact HO_9.out)) (by decide) hg); have n1_ := Aside0.mk (hb); have n2_ := Aside0.mk (ho); clear HO_8; clear HB; clear HO_9; have HO_8 := n0_; have HB := n1_; have HO479 := n2_; clear n0_ n1_ n2_; clear ho hb hg hat))
        (first | go_roundg kj13 | (refine Handed.intro kj13 ?measure ?_; rotate_left; go_step; (repeat apply Exists.intro); (refine ⟨?rel, ?fr_⟩); (case fr_ => (simp only [add_plain]; rfl))))
        case measure => have := HJ3.out; have := HK2.out; have := HJ13.out; omega
        case rel => exact ⟨(y473), (y477), (wrap64 (x10_2 + (rd l1 x34_2))), (wrap64 (x34_2 + 1)), (by first | rfl | (simp; done) | (simp [*]; done)), (by first | rfl | (simp; done) | (simp [*]; done)), H', ⟨by have := HJ3.out; have := HK2.out; have := HJ13.out; omega⟩, ⟨by (with_reducible repeat (first | apply Kd.R_alloc | apply Kd.R_drewN | apply Kd.R_drew)); exact HO_8.out⟩, ⟨by (with_reducible repeat (first | apply Kd.R_alloc | apply Kd.R_drewN | apply Kd.R_drew)); exact HO479.out⟩, ⟨by repeat (first | (with_reducible first | exact HB.out | apply below_alloc | apply pw_below_drewN | apply below_drew1) | exact HB.out)⟩⟩
     rw [if_neg c11] at H
     have c11b0 : decide (x34_2 < (l0.length : Int)) = false := decide_eq_false c11
     clear c11
     have H' := Aside0.mk H
     clear H
     go_wp2
     go_loopg [9, 91] k2 (fun kq v9 v91 w' => ∃ (x9_3 : List (S40)) (x91_3 : Int), v91 = .int .i64 x91_3 ∧ Aside0 (orrerylaw19_MatchWhole.l1 kq (l0.length : Int) x9_3 x10_2 l2 (l2.length : Int) x91_3 = some r) ∧ Aside0 (kq ≤ k2) ∧ Aside0 (Kd.R k40 40 w' w.heap.size (fun _ => True) v9 x9_3) ∧ Aside0 (Below w.heap.size w w'))
     case atStart => exact ⟨(x9_2), (0), (by first | rfl | (simp; done) | (simp [*]; done)), H', ⟨Nat.le_refl _⟩, ⟨by (with_reducible repeat (first | apply Kd.R_alloc | apply Kd.R_drewN | apply Kd.R_drew)); exact HO_9.out⟩, ⟨by repeat (first | (with_reducible first | exact HB.out | apply below_alloc | apply pw_below_drewN | apply below_drew1) | exact HB.out)⟩⟩
     case round =>
      clear H'
      try clear c1
      try clear c2
      try clear p2
      try clear q2
      try clear hx2
      try clear c3
      try clear c4
      try clear p4
      try clear q4
      try clear hx4
      try clear c5
      try clear c5b0
      try clear c5b1
      try clear c6
      try clear p6
      try clear c7
      try clear c7b0
      try clear c7b1
      try clear c8
      try clear c8b0
      try clear c8b1
      try clear c11
      try clear c11b0
      try clear c12
      try clear c12b0
      try clear c13
      try clear c13b0
      try clear c15
      try clear c15b0
      try clear c16
      try clear c16b0
      try clear c17
      try clear c17b0
      try clear c18
      try clear c18b0
      try clear c20
      try clear c21
      try clear c21b0
      try clear c22
      try clear c22b0
      try clear p23
      try clear q23
      try clear hx23
      try clear hf23
      try clear c24
      try clear c24b0
      try clear c25
      try clear c25b0
      try clear c26
      try clear c26b0
      try clear c27
      try clear c27b0
      try clear c28
      try clear c32
      try clear c36
      try clear c40
      try clear hx23_0
      try clear hx471_0
      try clear hx472_0
      try clear hx474_0
      try clear hx475_0
      try clear hx476_0
      try clear p2
      try clear p23
      try clear p4
      try clear p471
      try clear p472
      try clear p474
      try clear p475
      try clear p476
      try clear q23
      try clear q4
      try clear q471
      try clear q472
      try clear q474
      try clear q475
      try clear q476
      obtain ⟨x9_3, x91_3, rfl, HA, HK3, HO_9, HB⟩ := hrel
      cases gk with
      | zero => exact absurd HA.out (by simp [orrerylaw19_MatchWhole.l1])
      | succ k3 =>
       have H := HA.out
       clear HA
       simp only [orrerylaw19_MatchWhole.l1] at H
       by_cases c44 : x91_3 < (l2.length : Int)
       case pos =>
        rw [if_pos c44] at H
        have c44b0 : decide (x91_3 < (l2.length : Int)) = true := decide_eq_true c44
        clear c44
        by_cases c45 : 0 ≤ x91_3
        case neg => rw [if_neg c45] at H; exact absurd H (by simp)
        rw [if_pos c45] at H
        have c45b0 : decide (0 ≤ x91_3) = true := decide_eq_true c45
        clear c45
        by_cases c46 : x91_3 < (l2.length : Int)
        case neg => rw [if_neg c46] at H; exact absurd H (by simp)
        rw [if_pos c46] at H
        have c46b0 : decide (x91_3 < (l2.length : Int)) = true := decide_eq_true c46
        clear c46
        by_cases c47 : ((rd_T40 l2 x91_3).f0) ≥ 0
        case neg =>
         rw [if_neg c47] at H
         have c47b0 : decide (0 ≤ ((rd_T40 l2 x91_3).f0)) = false := decide_eq_false c47
         clear c47
         have H' := Aside0.mk H
         clear H
         have p489 : 0 ≤ (x91_3 : Int) := of_decide_eq_true (by first | (with_reducible assumption) | assumption)
         have q489 : x91_3 < (l2.length : Int) := of_decide_eq_true (by first | (with_reducible assumption) | assumption)
         obtain ⟨ad489, e489, hx489_0, hx489_1, hx489_2⟩ := at_T40 HR2.out x91_3 p489 q489
         cases e489
         replace hx489_0 := (HB.out.cell (World.block_lt_of_cell? w _ hx489_0)).trans hx489_0
         replace hx489_1 := (HB.out.cell (World.block_lt_of_cell? w _ hx489_1)).trans hx489_1
         replace hx489_2 := (HB.out.cell (World.block_lt_of_cell? w _ hx489_2)).trans hx489_2
         replace p489 := eq_true p489
         replace q489 := eq_true q489
         go_wp2_with (first | ((with_reducible refine gate_dst (N := 15) rfl ?_); (try (refine gate_guard (by rfl) ?_; dsimp only)); refine box_event ?hg (N := 15) ?hd (cs := #[.int .i64 0, .int .i64 0, .int .i64 0]) (t := 40) ?hr ?_; (case hd => rfl); (case hg => rfl); (case hr => first | (go_simp; done) | (go_simp; rfl)); intro gb490 hg w67 hbox hb; have n0_ := Aside0.mk (Kd.R_below (Kd.R_elderB (by (with_reducible repeat (first | apply Kd.R_alloc | apply Kd.R_drewN | apply Kd.R_drew)); exact HO_9.out) gb490 (Nat.le_of_eq hg.symm)) hb); have n1_ := Aside0.mk (below_step (by repeat (first | (with_reducible first | exact HB.out | apply below_alloc | apply pw_below_drewN | apply below_drew1) | exact HB.out)) hb); have n2_ := Aside0.mk (hbox); have n3_ := Aside0.mk ((by rw [hg]; exact (below_size (by repeat (first | (with_reducible first | exact HB.out | apply below_alloc | apply pw_below_drewN | apply below_drew1) | exact HB.out))) : w.heap.size ≤ gb490)); have n4_ := Aside0.mk ((by rw [hg]; exact (below_size (by repeat (first | (with_reducible first | exact HB.out | apply below_alloc | apply pw_below_drewN | apply below_drew1) | exact HB.out))) : w.heap.size ≤ gb490)); clear HO_9; clear HB; have HO_9 := n0_; have HB := n1_; have BK490 := n2_; have GW490 := n3_; have GE490 := n4_; clear n0_ n1_ n2_ n3_ n4_; clear hb hbox hg; have hcz68_0 : w67.cell? ⟨gb490, 0, none⟩ = some (.int .i64 0) := (blk_cell BK490.out 0).trans rfl; have hcz68_1 : w67.cell? ⟨gb490, 1, none⟩ = some (.int .i64 0) := (blk_cell BK490.out 1).trans rfl; have hcz68_2 : w67.cell? ⟨gb490, 2, none⟩ = some (.int .i64 0) := (blk_cell BK490.out 2).trans rfl; have hfz68_0 := blk_frozen BK490.out 0; have hfz68_1 := blk_frozen BK490.out 1; have hfz68_2 := blk_frozen BK490.out 2))
         (first | go_roundg k3 | (refine Handed.intro k3 ?measure ?_; rotate_left; go_step; (repeat apply Exists.intro); (refine ⟨?rel, ?fr_⟩); (case fr_ => (simp only [add_plain]; rfl))))
         case measure => have := HJ3.out; have := HK2.out; have := HK3.out; omega
         case rel => exact ⟨(x9_3), (wrap64 (x91_3 + 1)), (by first | rfl | (simp; done) | (simp [*]; done)), H', ⟨by have := HJ3.out; have := HK2.out; have := HK3.out; omega⟩, ⟨by (with_reducible repeat (first | apply Kd.R_alloc | apply Kd.R_drewN | apply Kd.R_drew)); exact Kd.R_mono (Kd.R_far (p := ⟨gb490, 2, none⟩) (Kd.R_far (p := ⟨gb490, 1, none⟩) (Kd.R_far (p := ⟨gb490, 0, none⟩) (Kd.R_mono HO_9.out (fun k_ hk => (⟨hk, hk.2⟩ : _ ∧ k_ ≠ gb490))) (fun _ hk => hk.2) (.int .i64 ((rd_T40 l2 x91_3).f0))) (fun _ hk => hk.2) (.int .i64 ((rd_T40 l2 x91_3).f1))) (fun _ hk => hk.2) (.int .i64 ((rd_T40 l2 x91_3).f2))) (fun _ hk => trivial)⟩, ⟨by repeat (first | (with_reducible first | exact HB.out | apply below_alloc | apply pw_below_drewN | apply below_drew1 | refine below_set ?_ GE490.out) | exact HB.out)⟩⟩
        rw [if_pos c47] at H
        have c47b0 : decide (0 ≤ ((rd_T40 l2 x91_3).f0)) = true := decide_eq_true c47
        clear c47
        by_cases c48 : ((rd_T40 l2 x91_3).f0) < (l0.length : Int)
        case neg =>
         rw [if_neg c48] at H
         have c48b0 : decide (((rd_T40 l2 x91_3).f0) < (l0.length : Int)) = false := decide_eq_false c48
         clear c48
         have H' := Aside0.mk H
         clear H
         have p489 : 0 ≤ (x91_3 : Int) := of_decide_eq_true (by first | (with_reducible assumption) | assumption)
         have q489 : x91_3 < (l2.length : Int) := of_decide_eq_true (by first | (with_reducible assumption) | assumption)
         obtain ⟨ad489, e489, hx489_0, hx489_1, hx489_2⟩ := at_T40 HR2.out x91_3 p489 q489
         cases e489
         replace hx489_0 := (HB.out.cell (World.block_lt_of_cell? w _ hx489_0)).trans hx489_0
         replace hx489_1 := (HB.out.cell (World.block_lt_of_cell? w _ hx489_1)).trans hx489_1
         replace hx489_2 := (HB.out.cell (World.block_lt_of_cell? w _ hx489_2)).trans hx489_2
         replace p489 := eq_true p489
         replace q489 := eq_true q489
         go_wp2_with (first | ((with_reducible refine gate_dst (N := 15) rfl ?_); (try (refine gate_guard (by rfl) ?_; dsimp only)); refine box_event ?hg (N := 15) ?hd (cs := #[.int .i64 0, .int .i64 0, .int .i64 0]) (t := 40) ?hr ?_; (case hd => rfl); (case hg => rfl); (case hr => first | (go_simp; done) | (go_simp; rfl)); intro gb490 hg w65 hbox hb; have n0_ := Aside0.mk (Kd.R_below (Kd.R_elderB (by (with_reducible repeat (first | apply Kd.R_alloc | apply Kd.R_drewN | apply Kd.R_drew)); exact HO_9.out) gb490 (Nat.le_of_eq hg.symm)) hb); have n1_ := Aside0.mk (below_step (by repeat (first | (with_reducible first | exact HB.out | apply below_alloc | apply pw_below_drewN | apply below_drew1) | exact HB.out)) hb); have n2_ := Aside0.mk (hbox); have n3_ := Aside0.mk ((by rw [hg]; exact (below_size (by repeat (first | (with_reducible first | exact HB.out | apply below_alloc | apply pw_below_drewN | apply below_drew1) | exact HB.out))) : w.heap.size ≤ gb490)); have n4_ := Aside0.mk ((by rw [hg]; exact (below_size (by repeat (first | (with_reducible first | exact HB.out | apply below_alloc | apply pw_below_drewN | apply below_drew1) | exact HB.out))) : w.heap.size ≤ gb490)); clear HO_9; clear HB; have HO_9 := n0_; have HB := n1_; have BK490 := n2_; have GW490 := n3_; have GE490 := n4_; clear n0_ n1_ n2_ n3_ n4_; clear hb hbox hg; have hcz66_0 : w65.cell? ⟨gb490, 0, none⟩ = some (.int .i64 0) := (blk_cell BK490.out 0).trans rfl; have hcz66_1 : w65.cell? ⟨gb490, 1, none⟩ = some (.int .i64 0) := (blk_cell BK490.out 1).trans rfl; have hcz66_2 : w65.cell? ⟨gb490, 2, none⟩ = some (.int .i64 0) := (blk_cell BK490.out 2).trans rfl; have hfz66_0 := blk_frozen BK490.out 0; have hfz66_1 := blk_frozen BK490.out 1; have hfz66_2 := blk_frozen BK490.out 2))
         (first | go_roundg k3 | (refine Handed.intro k3 ?measure ?_; rotate_left; go_step; (repeat apply Exists.intro); (refine ⟨?rel, ?fr_⟩); (case fr_ => (simp only [add_plain]; rfl))))
         case measure => have := HJ3.out; have := HK2.out; have := HK3.out; omega
         case rel => exact ⟨(x9_3), (wrap64 (x91_3 + 1)), (by first | rfl | (simp; done) | (simp [*]; done)), H', ⟨by have := HJ3.out; have := HK2.out; have := HK3.out; omega⟩, ⟨by (with_reducible repeat (first | apply Kd.R_alloc | apply Kd.R_drewN | apply Kd.R_drew)); exact Kd.R_mono (Kd.R_far (p := ⟨gb490, 2, none⟩) (Kd.R_far (p := ⟨gb490, 1, none⟩) (Kd.R_far (p := ⟨gb490, 0, none⟩) (Kd.R_mono HO_9.out (fun k_ hk => (⟨hk, hk.2⟩ : _ ∧ k_ ≠ gb490))) (fun _ hk => hk.2) (.int .i64 ((rd_T40 l2 x91_3).f0))) (fun _ hk => hk.2) (.int .i64 ((rd_T40 l2 x91_3).f1))) (fun _ hk => hk.2) (.int .i64 ((rd_T40 l2 x91_3).f2))) (fun _ hk => trivial)⟩, ⟨by repeat (first | (with_reducible first | exact HB.out | apply below_alloc | apply pw_below_drewN | apply below_drew1 | refine below_set ?_ GE490.out) | exact HB.out)⟩⟩
        rw [if_pos c48] at H
        have c48b0 : decide (((rd_T40 l2 x91_3).f0) < (l0.length : Int)) = true := decide_eq_true c48
        clear c48
        by_cases c49 : ((rd_T40 l2 x91_3).f1) ≥ 0
        case neg =>
         rw [if_neg c49] at H
         have c49b0 : decide (0 ≤ ((rd_T40 l2 x91_3).f1)) = false := decide_eq_false c49
         clear c49
         have H' := Aside0.mk H
         clear H
         have p489 : 0 ≤ (x91_3 : Int) := of_decide_eq_true (by first | (with_reducible assumption) | assumption)
         have q489 : x91_3 < (l2.length : Int) := of_decide_eq_true (by first | (with_reducible assumption) | assumption)
         obtain ⟨ad489, e489, hx489_0, hx489_1, hx489_2⟩ := at_T40 HR2.out x91_3 p489 q489
         cases e489
         replace hx489_0 := (HB.out.cell (World.block_lt_of_cell? w _ hx489_0)).trans hx489_0
         replace hx489_1 := (HB.out.cell (World.block_lt_of_cell? w _ hx489_1)).trans hx489_1
         replace hx489_2 := (HB.out.cell (World.block_lt_of_cell? w _ hx489_2)).trans hx489_2
         replace p489 := eq_true p489
         replace q489 := eq_true q489
         go_wp2_with (first | ((with_reducible refine gate_dst (N := 15) rfl ?_); (try (refine gate_guard (by rfl) ?_; dsimp only)); refine box_event ?hg (N := 15) ?hd (cs := #[.int .i64 0, .int .i64 0, .int .i64 0]) (t := 40) ?hr ?_; (case hd => rfl); (case hg => rfl); (case hr => first | (go_simp; done) | (go_simp; rfl)); intro gb490 hg w63 hbox hb; have n0_ := Aside0.mk (Kd.R_below (Kd.R_elderB (by (with_reducible repeat (first | apply Kd.R_alloc | apply Kd.R_drewN | apply Kd.R_drew)); exact HO_9.out) gb490 (Nat.le_of_eq hg.symm)) hb); have n1_ := Aside0.mk (below_step (by repeat (first | (with_reducible first | exact HB.out | apply below_alloc | apply pw_below_drewN | apply below_drew1) | exact HB.out)) hb); have n2_ := Aside0.mk (hbox); have n3_ := Aside0.mk ((by rw [hg]; exact (below_size (by repeat (first | (with_reducible first | exact HB.out | apply below_alloc | apply pw_below_drewN | apply below_drew1) | exact HB.out))) : w.heap.size ≤ gb490)); have n4_ := Aside0.mk ((by rw [hg]; exact (below_size (by repeat (first | (with_reducible first | exact HB.out | apply below_alloc | apply pw_below_drewN | apply below_drew1) | exact HB.out))) : w.heap.size ≤ gb490)); clear HO_9; clear HB; have HO_9 := n0_; have HB := n1_; have BK490 := n2_; have GW490 := n3_; have GE490 := n4_; clear n0_ n1_ n2_ n3_ n4_; clear hb hbox hg; have hcz64_0 : w63.cell? ⟨gb490, 0, none⟩ = some (.int .i64 0) := (blk_cell BK490.out 0).trans rfl; have hcz64_1 : w63.cell? ⟨gb490, 1, none⟩ = some (.int .i64 0) := (blk_cell BK490.out 1).trans rfl; have hcz64_2 : w63.cell? ⟨gb490, 2, none⟩ = some (.int .i64 0) := (blk_cell BK490.out 2).trans rfl; have hfz64_0 := blk_frozen BK490.out 0; have hfz64_1 := blk_frozen BK490.out 1; have hfz64_2 := blk_frozen BK490.out 2))
         (first | go_roundg k3 | (refine Handed.intro k3 ?measure ?_; rotate_left; go_step; (repeat apply Exists.intro); (refine ⟨?rel, ?fr_⟩); (case fr_ => (simp only [add_plain]; rfl))))
         case measure => have := HJ3.out; have := HK2.out; have := HK3.out; omega
         case rel => exact ⟨(x9_3), (wrap64 (x91_3 + 1)), (by first | rfl | (simp; done) | (simp [*]; done)), H', ⟨by have := HJ3.out; have := HK2.out; have := HK3.out; omega⟩, ⟨by (with_reducible repeat (first | apply Kd.R_alloc | apply Kd.R_drewN | apply Kd.R_drew)); exact Kd.R_mono (Kd.R_far (p := ⟨gb490, 2, none⟩) (Kd.R_far (p := ⟨gb490, 1, none⟩) (Kd.R_far (p := ⟨gb490, 0, none⟩) (Kd.R_mono HO_9.out (fun k_ hk => (⟨hk, hk.2⟩ : _ ∧ k_ ≠ gb490))) (fun _ hk => hk.2) (.int .i64 ((rd_T40 l2 x91_3).f0))) (fun _ hk => hk.2) (.int .i64 ((rd_T40 l2 x91_3).f1))) (fun _ hk => hk.2) (.int .i64 ((rd_T40 l2 x91_3).f2))) (fun _ hk => trivial)⟩, ⟨by repeat (first | (with_reducible first | exact HB.out | apply below_alloc | apply pw_below_drewN | apply below_drew1 | refine below_set ?_ GE490.out) | exact HB.out)⟩⟩
        rw [if_pos c49] at H
        have c49b0 : decide (0 ≤ ((rd_T40 l2 x91_3).f1)) = true := decide_eq_true c49
        clear c49
        by_cases c50 : ((rd_T40 l2 x91_3).f1) < (l0.length : Int)
        case neg =>
         rw [if_neg c50] at H
         have c50b0 : decide (((rd_T40 l2 x91_3).f1) < (l0.length : Int)) = false := decide_eq_false c50
         clear c50
         have H' := Aside0.mk H
         clear H
         have p489 : 0 ≤ (x91_3 : Int) := of_decide_eq_true (by first | (with_reducible assumption) | assumption)
         have q489 : x91_3 < (l2.length : Int) := of_decide_eq_true (by first | (with_reducible assumption) | assumption)
         obtain ⟨ad489, e489, hx489_0, hx489_1, hx489_2⟩ := at_T40 HR2.out x91_3 p489 q489
         cases e489
         replace hx489_0 := (HB.out.cell (World.block_lt_of_cell? w _ hx489_0)).trans hx489_0
         replace hx489_1 := (HB.out.cell (World.block_lt_of_cell? w _ hx489_1)).trans hx489_1
         replace hx489_2 := (HB.out.cell (World.block_lt_of_cell? w _ hx489_2)).trans hx489_2
         replace p489 := eq_true p489
         replace q489 := eq_true q489
         go_wp2_with (first | ((with_reducible refine gate_dst (N := 15) rfl ?_); (try (refine gate_guard (by rfl) ?_; dsimp only)); refine box_event ?hg (N := 15) ?hd (cs := #[.int .i64 0, .int .i64 0, .int .i64 0]) (t := 40) ?hr ?_; (case hd => rfl); (case hg => rfl); (case hr => first | (go_simp; done) | (go_simp; rfl)); intro gb490 hg w61 hbox hb; have n0_ := Aside0.mk (Kd.R_below (Kd.R_elderB (by (with_reducible repeat (first | apply Kd.R_alloc | apply Kd.R_drewN | apply Kd.R_drew)); exact HO_9.out) gb490 (Nat.le_of_eq hg.symm)) hb); have n1_ := Aside0.mk (below_step (by repeat (first | (with_reducible first | exact HB.out | apply below_alloc | apply pw_below_drewN | apply below_drew1) | exact HB.out)) hb); have n2_ := Aside0.mk (hbox); have n3_ := Aside0.mk ((by rw [hg]; exact (below_size (by repeat (first | (with_reducible first | exact HB.out | apply below_alloc | apply pw_below_drewN | apply below_drew1) | exact HB.out))) : w.heap.size ≤ gb490)); have n4_ := Aside0.mk ((by rw [hg]; exact (below_size (by repeat (first | (with_reducible first | exact HB.out | apply below_alloc | apply pw_below_drewN | apply below_drew1) | exact HB.out))) : w.heap.size ≤ gb490)); clear HO_9; clear HB; have HO_9 := n0_; have HB := n1_; have BK490 := n2_; have GW490 := n3_; have GE490 := n4_; clear n0_ n1_ n2_ n3_ n4_; clear hb hbox hg; have hcz62_0 : w61.cell? ⟨gb490, 0, none⟩ = some (.int .i64 0) := (blk_cell BK490.out 0).trans rfl; have hcz62_1 : w61.cell? ⟨gb490, 1, none⟩ = some (.int .i64 0) := (blk_cell BK490.out 1).trans rfl; have hcz62_2 : w61.cell? ⟨gb490, 2, none⟩ = some (.int .i64 0) := (blk_cell BK490.out 2).trans rfl; have hfz62_0 := blk_frozen BK490.out 0; have hfz62_1 := blk_frozen BK490.out 1; have hfz62_2 := blk_frozen BK490.out 2))
         (first | go_roundg k3 | (refine Handed.intro k3 ?measure ?_; rotate_left; go_step; (repeat apply Exists.intro); (refine ⟨?rel, ?fr_⟩); (case fr_ => (simp only [add_plain]; rfl))))
         case measure => have := HJ3.out; have := HK2.out; have := HK3.out; omega
         case rel => exact ⟨(x9_3), (wrap64 (x91_3 + 1)), (by first | rfl | (simp; done) | (simp [*]; done)), H', ⟨by have := HJ3.out; have := HK2.out; have := HK3.out; omega⟩, ⟨by (with_reducible repeat (first | apply Kd.R_alloc | apply Kd.R_drewN | apply Kd.R_drew)); exact Kd.R_mono (Kd.R_far (p := ⟨gb490, 2, none⟩) (Kd.R_far (p := ⟨gb490, 1, none⟩) (Kd.R_far (p := ⟨gb490, 0, none⟩) (Kd.R_mono HO_9.out (fun k_ hk => (⟨hk, hk.2⟩ : _ ∧ k_ ≠ gb490))) (fun _ hk => hk.2) (.int .i64 ((rd_T40 l2 x91_3).f0))) (fun _ hk => hk.2) (.int .i64 ((rd_T40 l2 x91_3).f1))) (fun _ hk => hk.2) (.int .i64 ((rd_T40 l2 x91_3).f2))) (fun _ hk => trivial)⟩, ⟨by repeat (first | (with_reducible first | exact HB.out | apply below_alloc | apply pw_below_drewN | apply below_drew1 | refine below_set ?_ GE490.out) | exact HB.out)⟩⟩
        rw [if_pos c50] at H
        have c50b0 : decide (((rd_T40 l2 x91_3).f1) < (l0.length : Int)) = true := decide_eq_true c50
        clear c50
        by_cases c51 : ((rd_T40 l2 x91_3).f2) ≥ 0
        case neg =>
         rw [if_neg c51] at H
         have c51b0 : decide (0 ≤ ((rd_T40 l2 x91_3).f2)) = false := decide_eq_false c51
         clear c51
         have H' := Aside0.mk H
         clear H
         have p489 : 0 ≤ (x91_3 : Int) := of_decide_eq_true (by first | (with_reducible assumption) | assumption)
         have q489 : x91_3 < (l2.length : Int) := of_decide_eq_true (by first | (with_reducible assumption) | assumption)
         obtain ⟨ad489, e489, hx489_0, hx489_1, hx489_2⟩ := at_T40 HR2.out x91_3 p489 q489
         cases e489
         replace hx489_0 := (HB.out.cell (World.block_lt_of_cell? w _ hx489_0)).trans hx489_0
         replace hx489_1 := (HB.out.cell (World.block_lt_of_cell? w _ hx489_1)).trans hx489_1
         replace hx489_2 := (HB.out.cell (World.block_lt_of_cell? w _ hx489_2)).trans hx489_2
         replace p489 := eq_true p489
         replace q489 := eq_true q489
         go_wp2_with (first | ((with_reducible refine gate_dst (N := 15) rfl ?_); (try (refine gate_guard (by rfl) ?_; dsimp only)); refine box_event ?hg (N := 15) ?hd (cs := #[.int .i64 0, .int .i64 0, .int .i64 0]) (t := 40) ?hr ?_; (case hd => rfl); (case hg => rfl); (case hr => first | (go_simp; done) | (go_simp; rfl)); intro gb490 hg w59 hbox hb; have n0_ := Aside0.mk (Kd.R_below (Kd.R_elderB (by (with_reducible repeat (first | apply Kd.R_alloc | apply Kd.R_drewN | apply Kd.R_drew)); exact HO_9.out) gb490 (Nat.le_of_eq hg.symm)) hb); have n1_ := Aside0.mk (below_step (by repeat (first | (with_reducible first | exact HB.out | apply below_alloc | apply pw_below_drewN | apply below_drew1) | exact HB.out)) hb); have n2_ := Aside0.mk (hbox); have n3_ := Aside0.mk ((by rw [hg]; exact (below_size (by repeat (first | (with_reducible first | exact HB.out | apply below_alloc | apply pw_below_drewN | apply below_drew1) | exact HB.out))) : w.heap.size ≤ gb490)); have n4_ := Aside0.mk ((by rw [hg]; exact (below_size (by repeat (first | (with_reducible first | exact HB.out | apply below_alloc | apply pw_below_drewN | apply below_drew1) | exact HB.out))) : w.heap.size ≤ gb490)); clear HO_9; clear HB; have HO_9 := n0_; have HB := n1_; have BK490 := n2_; have GW490 := n3_; have GE490 := n4_; clear n0_ n1_ n2_ n3_ n4_; clear hb hbox hg; have hcz60_0 : w59.cell? ⟨gb490, 0, none⟩ = some (.int .i64 0) := (blk_cell BK490.out 0).trans rfl; have hcz60_1 : w59.cell? ⟨gb490, 1, none⟩ = some (.int .i64 0) := (blk_cell BK490.out 1).trans rfl; have hcz60_2 : w59.cell? ⟨gb490, 2, none⟩ = some (.int .i64 0) := (blk_cell BK490.out 2).trans rfl; have hfz60_0 := blk_frozen BK490.out 0; have hfz60_1 := blk_frozen BK490.out 1; have hfz60_2 := blk_frozen BK490.out 2))
         (first | go_roundg k3 | (refine Handed.intro k3 ?measure ?_; rotate_left; go_step; (repeat apply Exists.intro); (refine ⟨?rel, ?fr_⟩); (case fr_ => (simp only [add_plain]; rfl))))
         case measure => have := HJ3.out; have := HK2.out; have := HK3.out; omega
         case rel => exact ⟨(x9_3), (wrap64 (x91_3 + 1)), (by first | rfl | (simp; done) | (simp [*]; done)), H', ⟨by have := HJ3.out; have := HK2.out; have := HK3.out; omega⟩, ⟨by (with_reducible repeat (first | apply Kd.R_alloc | apply Kd.R_drewN | apply Kd.R_drew)); exact Kd.R_mono (Kd.R_far (p := ⟨gb490, 2, none⟩) (Kd.R_far (p := ⟨gb490, 1, none⟩) (Kd.R_far (p := ⟨gb490, 0, none⟩) (Kd.R_mono HO_9.out (fun k_ hk => (⟨hk, hk.2⟩ : _ ∧ k_ ≠ gb490))) (fun _ hk => hk.2) (.int .i64 ((rd_T40 l2 x91_3).f0))) (fun _ hk => hk.2) (.int .i64 ((rd_T40 l2 x91_3).f1))) (fun _ hk => hk.2) (.int .i64 ((rd_T40 l2 x91_3).f2))) (fun _ hk => trivial)⟩, ⟨by repeat (first | (with_reducible first | exact HB.out | apply below_alloc | apply pw_below_drewN | apply below_drew1 | refine below_set ?_ GE490.out) | exact HB.out)⟩⟩
        rw [if_pos c51] at H
        have c51b0 : decide (0 ≤ ((rd_T40 l2 x91_3).f2)) = true := decide_eq_true c51
        clear c51
        by_cases c52 : ((rd_T40 l2 x91_3).f2) ≤ 100
        case neg =>
         rw [if_neg c52] at H
         have c52b0 : decide (((rd_T40 l2 x91_3).f2) ≤ 100) = false := decide_eq_false c52
         clear c52
         have H' := Aside0.mk H
         clear H
         have p489 : 0 ≤ (x91_3 : Int) := of_decide_eq_true (by first | (with_reducible assumption) | assumption)
         have q489 : x91_3 < (l2.length : Int) := of_decide_eq_true (by first | (with_reducible assumption) | assumption)
         obtain ⟨ad489, e489, hx489_0, hx489_1, hx489_2⟩ := at_T40 HR2.out x91_3 p489 q489
         cases e489
         replace hx489_0 := (HB.out.cell (World.block_lt_of_cell? w _ hx489_0)).trans hx489_0
         replace hx489_1 := (HB.out.cell (World.block_lt_of_cell? w _ hx489_1)).trans hx489_1
         replace hx489_2 := (HB.out.cell (World.block_lt_of_cell? w _ hx489_2)).trans hx489_2
         replace p489 := eq_true p489
         replace q489 := eq_true q489
         go_wp2_with (first | ((with_reducible refine gate_dst (N := 15) rfl ?_); (try (refine gate_guard (by rfl) ?_; dsimp only)); refine box_event ?hg (N := 15) ?hd (cs := #[.int .i64 0, .int .i64 0, .int .i64 0]) (t := 40) ?hr ?_; (case hd => rfl); (case hg => rfl); (case hr => first | (go_simp; done) | (go_simp; rfl)); intro gb490 hg w57 hbox hb; have n0_ := Aside0.mk (Kd.R_below (Kd.R_elderB (by (with_reducible repeat (first | apply Kd.R_alloc | apply Kd.R_drewN | apply Kd.R_drew)); exact HO_9.out) gb490 (Nat.le_of_eq hg.symm)) hb); have n1_ := Aside0.mk (below_step (by repeat (first | (with_reducible first | exact HB.out | apply below_alloc | apply pw_below_drewN | apply below_drew1) | exact HB.out)) hb); have n2_ := Aside0.mk (hbox); have n3_ := Aside0.mk ((by rw [hg]; exact (below_size (by repeat (first | (with_reducible first | exact HB.out | apply below_alloc | apply pw_below_drewN | apply below_drew1) | exact HB.out))) : w.heap.size ≤ gb490)); have n4_ := Aside0.mk ((by rw [hg]; exact (below_size (by repeat (first | (with_reducible first | exact HB.out | apply below_alloc | apply pw_below_drewN | apply below_drew1) | exact HB.out))) : w.heap.size ≤ gb490)); clear HO_9; clear HB; have HO_9 := n0_; have HB := n1_; have BK490 := n2_; have GW490 := n3_; have GE490 := n4_; clear n0_ n1_ n2_ n3_ n4_; clear hb hbox hg; have hcz58_0 : w57.cell? ⟨gb490, 0, none⟩ = some (.int .i64 0) := (blk_cell BK490.out 0).trans rfl; have hcz58_1 : w57.cell? ⟨gb490, 1, none⟩ = some (.int .i64 0) := (blk_cell BK490.out 1).trans rfl; have hcz58_2 : w57.cell? ⟨gb490, 2, none⟩ = some (.int .i64 0) := (blk_cell BK490.out 2).trans rfl; have hfz58_0 := blk_frozen BK490.out 0; have hfz58_1 := blk_frozen BK490.out 1; have hfz58_2 := blk_frozen BK490.out 2))
         (first | go_roundg k3 | (refine Handed.intro k3 ?measure ?_; rotate_left; go_step; (repeat apply Exists.intro); (refine ⟨?rel, ?fr_⟩); (case fr_ => (simp only [add_plain]; rfl))))
         case measure => have := HJ3.out; have := HK2.out; have := HK3.out; omega
         case rel => exact ⟨(x9_3), (wrap64 (x91_3 + 1)), (by first | rfl | (simp; done) | (simp [*]; done)), H', ⟨by have := HJ3.out; have := HK2.out; have := HK3.out; omega⟩, ⟨by (with_reducible repeat (first | apply Kd.R_alloc | apply Kd.R_drewN | apply Kd.R_drew)); exact Kd.R_mono (Kd.R_far (p := ⟨gb490, 2, none⟩) (Kd.R_far (p := ⟨gb490, 1, none⟩) (Kd.R_far (p := ⟨gb490, 0, none⟩) (Kd.R_mono HO_9.out (fun k_ hk => (⟨hk, hk.2⟩ : _ ∧ k_ ≠ gb490))) (fun _ hk => hk.2) (.int .i64 ((rd_T40 l2 x91_3).f0))) (fun _ hk => hk.2) (.int .i64 ((rd_T40 l2 x91_3).f1))) (fun _ hk => hk.2) (.int .i64 ((rd_T40 l2 x91_3).f2))) (fun _ hk => trivial)⟩, ⟨by repeat (first | (with_reducible first | exact HB.out | apply below_alloc | apply pw_below_drewN | apply below_drew1 | refine below_set ?_ GE490.out) | exact HB.out)⟩⟩
        rw [if_pos c52] at H
        have c52b0 : decide (((rd_T40 l2 x91_3).f2) ≤ 100) = true := decide_eq_true c52
        clear c52
        by_cases c53 : x9_3.length < 5864062014805
        case neg => rw [if_neg c53] at H; exact absurd H (by simp)
        rw [if_pos c53] at H
        have LMc53 := Aside0.mk c53
        clear c53
        obtain ⟨y491, hy491⟩ : ∃ y_ : List (S40), y_ = (x9_3 ++ [(⟨(rd_T40 l2 x91_3).f0, (rd_T40 l2 x91_3).f1, (rd_T40 l2 x91_3).f2⟩ : S40)]) := ⟨_, rfl⟩
        replace H : (orrerylaw19_MatchWhole.l1 k3 (l0.length : Int) y491 x10_2 l2 (l2.length : Int) (wrap64 (x91_3 + 1))) = some r := by first | (rw [hy491]; with_reducible exact H) | (have H2_ := (Option.bind_some _ _).symm.trans H; rw [hy491]; with_reducible exact H2_) | (have H2_ := (Option.bind_some _ _).symm.trans H; with_reducible exact H2_) | with_reducible exact H | (rw [hy491]; exact H) | exact H
        have Ny491 := Aside0.mk hy491
        clear hy491
        have H' := Aside0.mk H
        clear H
        have p489 : 0 ≤ (x91_3 : Int) := of_decide_eq_true (by first | (with_reducible assumption) | assumption)
        have q489 : x91_3 < (l2.length : Int) := of_decide_eq_true (by first | (with_reducible assumption) | assumption)
        obtain ⟨ad489, e489, hx489_0, hx489_1, hx489_2⟩ := at_T40 HR2.out x91_3 p489 q489
        cases e489
        replace hx489_0 := (HB.out.cell (World.block_lt_of_cell? w _ hx489_0)).trans hx489_0
        replace hx489_1 := (HB.out.cell (World.block_lt_of_cell? w _ hx489_1)).trans hx489_1
        replace hx489_2 := (HB.out.cell (World.block_lt_of_cell? w _ hx489_2)).trans hx489_2
        replace p489 := eq_true p489
        replace q489 := eq_true q489
        go_wp2_with (first | ((with_reducible refine gate_dst (N := 15) rfl ?_); (try (refine gate_guard (by rfl) ?_; dsimp only)); refine box_event ?hg (N := 15) ?hd (cs := #[.int .i64 0, .int .i64 0, .int .i64 0]) (t := 40) ?hr ?_; (case hd => rfl); (case hg => rfl); (case hr => first | (go_simp; done) | (go_simp; rfl)); intro gb490 hg w54 hbox hb; have n0_ := Aside0.mk (Kd.R_below (Kd.R_elderB (by (with_reducible repeat (first | apply Kd.R_alloc | apply Kd.R_drewN | apply Kd.R_drew)); exact HO_9.out) gb490 (Nat.le_of_eq hg.symm)) hb); have n1_ := Aside0.mk (below_step (by repeat (first | (with_reducible first | exact HB.out | apply below_alloc | apply pw_below_drewN | apply below_drew1) | exact HB.out)) hb); have n2_ := Aside0.mk (hbox); have n3_ := Aside0.mk ((by rw [hg]; exact (below_size (by repeat (first | (with_reducible first | exact HB.out | apply below_alloc | apply pw_below_drewN | apply below_drew1) | exact HB.out))) : w.heap.size ≤ gb490)); have n4_ := Aside0.mk ((by rw [hg]; exact (below_size (by repeat (first | (with_reducible first | exact HB.out | apply below_alloc | apply pw_below_drewN | apply below_drew1) | exact HB.out))) : w.heap.size ≤ gb490)); clear HO_9; clear HB; have HO_9 := n0_; have HB := n1_; have BK490 := n2_; have GW490 := n3_; have GE490 := n4_; clear n0_ n1_ n2_ n3_ n4_; clear hb hbox hg; have hcz55_0 : w54.cell? ⟨gb490, 0, none⟩ = some (.int .i64 0) := (blk_cell BK490.out 0).trans rfl; have hcz55_1 : w54.cell? ⟨gb490, 1, none⟩ = some (.int .i64 0) := (blk_cell BK490.out 1).trans rfl; have hcz55_2 : w54.cell? ⟨gb490, 2, none⟩ = some (.int .i64 0) := (blk_cell BK490.out 2).trans rfl; have hfz55_0 := blk_frozen BK490.out 0; have hfz55_1 := blk_frozen BK490.out 1; have hfz55_2 := blk_frozen BK490.out 2) | ((with_reducible refine gate_builtin (b := .append) (xs := #[.tmp 125, .tmp 127]) rfl ?_); (try (refine gate_guard (by rfl) ?_; dsimp only)); at_builtin; refine Kd.R_append k40 (w0 := w) w.heap.size rfl (.tmp 125) (.tmp 127) 22 40 (.agg #[(.int .i64 0), (.int .i64 0), (.int .i64 0)]) 24 rfl Try.underlying22 info40 rfl (by decide) (by omega) u9 x9_3 (⟨(rd_T40 l2 x91_3).f0, (rd_T40 l2 x91_3).f1, (rd_T40 l2 x91_3).f2⟩ : S40) [.int .i64 ((rd_T40 l2 x91_3).f0), .int .i64 ((rd_T40 l2 x91_3).f1), .int .i64 ((rd_T40 l2 x91_3).f2)] (fun k_ => k_ ≠ gb490) (fun _ => False) rfl (by first | (go_simp; done) | (go_simp; rfl)) ?aP (fun _ hk => hk.elim) ?aF ?aO ?aB ?aS ?aL ?_; (case aP => exact k40_mkM _ _ _ (⟨(rd_T40 l2 x91_3).f0, (rd_T40 l2 x91_3).f1, (rd_T40 l2 x91_3).f2⟩ : S40)); (case aB => exact (by repeat (first | (with_reducible first | exact HB.out | apply below_alloc | apply pw_below_drewN | apply below_drew1 | refine below_set ?_ GE490.out) | exact HB.out))); (case aF => exact (fun k_ hk => Kd.freshB (g := gb490) (o := .cells #[.int .i64 ((rd_T40 l2 x91_3).f0), .int .i64 ((rd_T40 l2 x91_3).f1), .int .i64 ((rd_T40 l2 x91_3).f2)] 40 (0, 0)) (by (with_reducible repeat (first | refine blk_drewN ?_ _ | refine blk_drew ?_ | refine blk_alloc ?_ _)); refine blk_put (cs := #[.int .i64 ((rd_T40 l2 x91_3).f0), .int .i64 ((rd_T40 l2 x91_3).f1), .int .i64 0]) ?_ 2 _ rfl; (with_reducible repeat (first | refine blk_drewN ?_ _ | refine blk_drew ?_ | refine blk_alloc ?_ _)); refine blk_put (cs := #[.int .i64 ((rd_T40 l2 x91_3).f0), .int .i64 0, .int .i64 0]) ?_ 1 _ rfl; (with_reducible repeat (first | refine blk_drewN ?_ _ | refine blk_drew ?_ | refine blk_alloc ?_ _)); refine blk_put (cs := #[.int .i64 0, .int .i64 0, .int .i64 0]) ?_ 0 _ rfl; (with_reducible repeat (first | refine blk_drewN ?_ _ | refine blk_drew ?_ | refine blk_alloc ?_ _)); exact BK490.out) k_ hk)); (case aO => exact (by (with_reducible repeat (first | apply Kd.R_alloc | apply Kd.R_drewN | apply Kd.R_drew)); exact Kd.R_mono (Kd.R_far (p := ⟨gb490, 2, none⟩) (Kd.R_far (p := ⟨gb490, 1, none⟩) (Kd.R_far (p := ⟨gb490, 0, none⟩) (Kd.R_mono HO_9.out (fun k_ hk => (⟨hk, hk.2⟩ : _ ∧ k_ ≠ gb490))) (fun _ hk => hk.2) (.int .i64 ((rd_T40 l2 x91_3).f0))) (fun _ hk => hk.2) (.int .i64 ((rd_T40 l2 x91_3).f1))) (fun _ hk => hk.2) (.int .i64 ((rd_T40 l2 x91_3).f2))) (fun _ hk => hk.1.2))); (case aS => exact (below_size (by repeat (first | (with_reducible first | exact HB.out | apply below_alloc | apply pw_below_drewN | apply below_drew1 | refine below_set ?_ GE490.out) | exact HB.out)))); (case aL => have := LMc53.out; omega); intro v492 w56 ho hb hg hat; rw [← Ny491.out] at ho; have n0_ := Aside0.mk (blk_grown (g := gb490) (o := .cells #[.int .i64 ((rd_T40 l2 x91_3).f0), .int .i64 ((rd_T40 l2 x91_3).f1), .int .i64 ((rd_T40 l2 x91_3).f2)] 40 (0, 0)) (by (with_reducible repeat (first | refine blk_drewN ?_ _ | refine blk_drew ?_ | refine blk_alloc ?_ _)); refine blk_put (cs := #[.int .i64 ((rd_T40 l2 x91_3).f0), .int .i64 ((rd_T40 l2 x91_3).f1), .int .i64 0]) ?_ 2 _ rfl; (with_reducible repeat (first | refine blk_drewN ?_ _ | refine blk_drew ?_ | refine blk_alloc ?_ _)); refine blk_put (cs := #[.int .i64 ((rd_T40 l2 x91_3).f0), .int .i64 0, .int .i64 0]) ?_ 1 _ rfl; (with_reducible repeat (first | refine blk_drewN ?_ _ | refine blk_drew ?_ | refine blk_alloc ?_ _)); refine blk_put (cs := #[.int .i64 0, .int .i64 0, .int .i64 0]) ?_ 0 _ rfl; (with_reducible repeat (first | refine blk_drewN ?_ _ | refine blk_drew ?_ | refine blk_alloc ?_ _)); exact BK490.out) hg (Kd.R_away HO_9.out (fun _ hk => hk.2))); have n1_ := Aside0.mk (hb); have n2_ := Aside0.mk (ho); clear BK490; clear HB; clear HO_9; have BK490 := n0_; have HB := n1_; have HO493 := n2_; clear n0_ n1_ n2_; clear ho hb hg hat))
        (first | go_roundg k3 | (refine Handed.intro k3 ?measure ?_; rotate_left; go_step; (repeat apply Exists.intro); (refine ⟨?rel, ?fr_⟩); (case fr_ => (simp only [add_plain]; rfl))))
        case measure => have := HJ3.out; have := HK2.out; have := HK3.out; omega
        case rel => exact ⟨(y491), (wrap64 (x91_3 + 1)), (by first | rfl | (simp; done) | (simp [*]; done)), H', ⟨by have := HJ3.out; have := HK2.out; have := HK3.out; omega⟩, ⟨by (with_reducible repeat (first | apply Kd.R_alloc | apply Kd.R_drewN | apply Kd.R_drew)); exact Kd.R_mono HO493.out (fun _ hk => trivial)⟩, ⟨by repeat (first | (with_reducible first | exact HB.out | apply below_alloc | apply pw_below_drewN | apply below_drew1 | refine below_set ?_ GE490.out) | exact HB.out)⟩⟩
       rw [if_neg c44] at H
       have c44b0 : decide (x91_3 < (l2.length : Int)) = false := decide_eq_false c44
       clear c44
       replace H := Option.bind_eq_some_iff.mp H
       obtain ⟨t494, A690, H⟩ := H
       replace H : ((match_Assign.f k3 (l0.length : Int) x9_3).bind fun bt497 => ((match_Most.f (l0.length : Int) (l0.length : Int) x9_3).bind fun bt501 => (if bt497.2 = 0 then (if bt501.2 = 0 then ((orreryref19_Matching.f k3 t494 (l0.length : Int) bt497.1).bind fun t505 => (if t505 = true then ((orreryref19_Size.f k3 bt497.1).bind fun t506 => (if t506 = (l0.length : Int) then ((orreryref19_Sum.f k3 t494 bt497.1).bind fun t507 => (if t507 ≥ x10_2 then ((orreryref19_Matching.f k3 t494 (l0.length : Int) bt501.1).bind fun t508 => (if t508 = true then ((orreryref19_Size.f k3 bt501.1).bind fun t509 => (some (t509 == (l0.length : Int)))) else (some false))) else (some false))) else (some false))) else (some false))) else (some false)) else (some false)))) = some r := H
       have A69 := Aside0.mk A690
       clear A690
       replace H := Option.bind_eq_some_iff.mp H
       obtain ⟨⟨t497, t498⟩, A700, H⟩ := H
       replace H : ((match_Most.f (l0.length : Int) (l0.length : Int) x9_3).bind fun bt501 => (if t498 = 0 then (if bt501.2 = 0 then ((orreryref19_Matching.f k3 t494 (l0.length : Int) t497).bind fun t505 => (if t505 = true then ((orreryref19_Size.f k3 t497).bind fun t506 => (if t506 = (l0.length : Int) then ((orreryref19_Sum.f k3 t494 t497).bind fun t507 => (if t507 ≥ x10_2 then ((orreryref19_Matching.f k3 t494 (l0.length : Int) bt501.1).bind fun t508 => (if t508 = true then ((orreryref19_Size.f k3 bt501.1).bind fun t509 => (some (t509 == (l0.length : Int)))) else (some false))) else (some false))) else (some false))) else (some false))) else (some false)) else (some false))) = some r := H
       have A70 := Aside0.mk A700
       clear A700
       replace H := Option.bind_eq_some_iff.mp H
       obtain ⟨⟨t501, t502⟩, A710, H⟩ := H
       replace H : (if t498 = 0 then (if t502 = 0 then ((orreryref19_Matching.f k3 t494 (l0.length : Int) t497).bind fun t505 => (if t505 = true then ((orreryref19_Size.f k3 t497).bind fun t506 => (if t506 = (l0.length : Int) then ((orreryref19_Sum.f k3 t494 t497).bind fun t507 => (if t507 ≥ x10_2 then ((orreryref19_Matching.f k3 t494 (l0.length : Int) t501).bind fun t508 => (if t508 = true then ((orreryref19_Size.f k3 t501).bind fun t509 => (some (t509 == (l0.length : Int)))) else (some false))) else (some false))) else (some false))) else (some false))) else (some false)) else (some false)) = some r := H
       have A71 := Aside0.mk A710
       clear A710
       by_cases c72 : t498 = 0
       case neg =>
        rw [if_neg c72] at H
        have c72b0 : (t498 == 0) = false := beq_eq_false_iff_ne.mpr c72
        have c72b1 : (t498 != 0) = true := bne_iff_ne.mpr c72
        obtain rfl := Option.some.inj H
        obtain ⟨Ao126, co126, eo126⟩ := Kd.R_slice HO_9.out
        subst eo126
        go_wp2_with (first | ((with_reducible refine gate_callee (f := 15) rfl ?_); refine goesL_ (some 133) rfl rfl Try.func15 (by kernel_rfl) rfl #[.int .i64 (l0.length : Int), .int .i64 (l0.length : Int), .slice Ao126 x9_3.length co126] rfl (by (try simp only [List.map_toArray, List.map_cons, List.map_nil]); first | done | rfl | (simp only [List.length_drop, List.length_take]; rfl)) ?_; (with_reducible refine (orreryref19_Table.calls k3 (l0.length : Int) (l0.length : Int) _ _ x9_3 t494 _ ?side1 ?side2 A69.out).mono ?_); (case side1 => repeat (first | exact (Kd.R_reads' HO_9.out).2.2 | (with_reducible refine Kd.C_alloc ?_ _) | (with_reducible refine Kd.C_drewN ?_ _) | (with_reducible refine Kd.C_drew ?_))); (case side2 => exact (Kd.R_reads' HO_9.out).2.1); rintro e w127 ⟨v495, rfl, ho0, hb⟩; refine ⟨_, rfl, ?_⟩; have n0_ := Aside0.mk (Kd.R_below (by (with_reducible repeat (first | apply Kd.R_alloc | apply Kd.R_drewN | apply Kd.R_drew)); exact HO_9.out) hb); have n1_ := Aside0.mk (Kd.S_lower ho0 (below_size (by repeat (first | (with_reducible first | exact HB.out | apply below_alloc | apply pw_below_drewN | apply below_drew1) | exact HB.out)))); have n2_ := Aside0.mk (below_step (by repeat (first | (with_reducible first | exact HB.out | apply below_alloc | apply pw_below_drewN | apply below_drew1) | exact HB.out)) hb); clear HO_9; clear HB; have HO_9 := n0_; have HO496 := n1_; have HB := n2_; clear n0_ n1_ n2_; (try clear hb); (try clear hb2); (try clear hk); (try clear hi); (try clear ho0)) | ((with_reducible refine gate_callee (f := 23) rfl ?_); refine goesL_ (some 137) rfl rfl Try.func23 (by kernel_rfl) rfl #[.int .i64 (l0.length : Int), .slice Ao126 x9_3.length co126] rfl (by (try simp only [List.map_toArray, List.map_cons, List.map_nil]); first | done | rfl | (simp only [List.length_drop, List.length_take]; rfl)) ?_; (with_reducible refine (match_Assign.calls k3 (l0.length : Int) _ _ x9_3 t497 t498 _ ?side1 ?side2 A70.out).mono ?_); (case side1 => repeat (first | exact (Kd.R_reads' HO_9.out).2.2 | (with_reducible refine Kd.C_alloc ?_ _) | (with_reducible refine Kd.C_drewN ?_ _) | (with_reducible refine Kd.C_drew ?_))); (case side2 => exact (Kd.R_reads' HO_9.out).2.1); rintro e w128 ⟨v499, rfl, ho0, hb⟩; refine ⟨_, rfl, ?_⟩; have n0_ := Aside0.mk (Kd.R_below (by (with_reducible repeat (first | apply Kd.R_alloc | apply Kd.R_drewN | apply Kd.R_drew)); exact HO_9.out) hb); have n1_ := Aside0.mk (Kd.S_elder' (by (with_reducible repeat (first | apply Kd.S_alloc | apply Kd.S_drewN | apply Kd.S_drew)); exact HO496.out) (Kd.R_base ho0) hb); have n2_ := Aside0.mk (Kd.R_lower ho0 (below_size (by repeat (first | (with_reducible first | exact HB.out | apply below_alloc | apply pw_below_drewN | apply below_drew1) | exact HB.out)))); have n3_ := Aside0.mk (below_step (by repeat (first | (with_reducible first | exact HB.out | apply below_alloc | apply pw_below_drewN | apply below_drew1) | exact HB.out)) hb); clear HO_9; clear HO496; clear HB; have HO_9 := n0_; have HO496 := n1_; have HO500 := n2_; have HB := n3_; clear n0_ n1_ n2_ n3_; (try clear hb); (try clear hb2); (try clear hk); (try clear hi); (try clear ho0)) | ((with_reducible refine gate_callee (f := 13) rfl ?_); refine goesL_ (some 144) rfl rfl Try.func13 (by kernel_rfl) rfl #[.int .i64 (l0.length : Int), .int .i64 (l0.length : Int), .slice Ao126 x9_3.length co126] rfl (by (try simp only [List.map_toArray, List.map_cons, List.map_nil]); first | done | rfl | (simp only [List.length_drop, List.length_take]; rfl)) ?_; (with_reducible refine (match_Most.calls (l0.length : Int) (l0.length : Int) _ _ x9_3 t501 t502 _ ?side1 ?side2 A71.out).mono ?_); (case side1 => repeat (first | exact (Kd.R_reads' HO_9.out).2.2 | (with_reducible refine Kd.C_alloc ?_ _) | (with_reducible refine Kd.C_drewN ?_ _) | (with_reducible refine Kd.C_drew ?_))); (case side2 => exact (Kd.R_reads' HO_9.out).2.1); rintro e w129 ⟨v503, rfl, ho0, hb⟩; refine ⟨_, rfl, ?_⟩; have n0_ := Aside0.mk (Kd.R_below (by (with_reducible repeat (first | apply Kd.R_alloc | apply Kd.R_drewN | apply Kd.R_drew)); exact HO_9.out) hb); have n1_ := Aside0.mk (Kd.S_elder' (by (with_reducible repeat (first | apply Kd.S_alloc | apply Kd.S_drewN | apply Kd.S_drew)); exact HO496.out) (Kd.R_base ho0) hb); have n2_ := Aside0.mk (Kd.R_elder' (by (with_reducible repeat (first | apply Kd.R_alloc | apply Kd.R_drewN | apply Kd.R_drew)); exact HO500.out) (Kd.R_base ho0) hb); have n3_ := Aside0.mk (Kd.R_lower (Kd.R_new' ho0 (Kd.R_lt (by (with_reducible repeat (first | apply Kd.R_alloc | apply Kd.R_drewN | apply Kd.R_drew)); exact HO500.out))) (below_size (by repeat (first | (with_reducible first | exact HB.out | apply below_alloc | apply pw_below_drewN | apply below_drew1) | exact HB.out)))); have n4_ := Aside0.mk (below_step (by repeat (first | (with_reducible first | exact HB.out | apply below_alloc | apply pw_below_drewN | apply below_drew1) | exact HB.out)) hb); clear HO_9; clear HO496; clear HO500; clear HB; have HO_9 := n0_; have HO496 := n1_; have HO500 := n2_; have HO504 := n3_; have HB := n4_; clear n0_ n1_ n2_ n3_ n4_; (try clear hb); (try clear hb2); (try clear hk); (try clear hi); (try clear ho0)))
        go_ret
        exact ⟨by first | rfl | (simp [errW_none, errW_some] <;> rfl) | (simp [*, errW_none, errW_some] <;> rfl), by repeat (first | (with_reducible first | exact HB.out | apply below_alloc | apply pw_below_drewN | apply below_drew1) | exact HB.out)⟩
       rw [if_pos c72] at H
       have c72b0 : (t498 == 0) = true := beq_iff_eq.mpr c72
       have c72b1 : (t498 != 0) = false := bne_eq_false_iff_eq.mpr c72
       clear c72
       by_cases c73 : t502 = 0
       case neg =>
        rw [if_neg c73] at H
        have c73b0 : (t502 == 0) = false := beq_eq_false_iff_ne.mpr c73
        have c73b1 : (t502 != 0) = true := bne_iff_ne.mpr c73
        obtain rfl := Option.some.inj H
        obtain ⟨Ao122, co122, eo122⟩ := Kd.R_slice HO_9.out
        subst eo122
        go_wp2_with (first | ((with_reducible refine gate_callee (f := 15) rfl ?_); refine goesL_ (some 133) rfl rfl Try.func15 (by kernel_rfl) rfl #[.int .i64 (l0.length : Int), .int .i64 (l0.length : Int), .slice Ao122 x9_3.length co122] rfl (by (try simp only [List.map_toArray, List.map_cons, List.map_nil]); first | done | rfl | (simp only [List.length_drop, List.length_take]; rfl)) ?_; (with_reducible refine (orreryref19_Table.calls k3 (l0.length : Int) (l0.length : Int) _ _ x9_3 t494 _ ?side1 ?side2 A69.out).mono ?_); (case side1 => repeat (first | exact (Kd.R_reads' HO_9.out).2.2 | (with_reducible refine Kd.C_alloc ?_ _) | (with_reducible refine Kd.C_drewN ?_ _) | (with_reducible refine Kd.C_drew ?_))); (case side2 => exact (Kd.R_reads' HO_9.out).2.1); rintro e w123 ⟨v495, rfl, ho0, hb⟩; refine ⟨_, rfl, ?_⟩; have n0_ := Aside0.mk (Kd.R_below (by (with_reducible repeat (first | apply Kd.R_alloc | apply Kd.R_drewN | apply Kd.R_drew)); exact HO_9.out) hb); have n1_ := Aside0.mk (Kd.S_lower ho0 (below_size (by repeat (first | (with_reducible first | exact HB.out | apply below_alloc | apply pw_below_drewN | apply below_drew1) | exact HB.out)))); have n2_ := Aside0.mk (below_step (by repeat (first | (with_reducible first | exact HB.out | apply below_alloc | apply pw_below_drewN | apply below_drew1) | exact HB.out)) hb); clear HO_9; clear HB; have HO_9 := n0_; have HO496 := n1_; have HB := n2_; clear n0_ n1_ n2_; (try clear hb); (try clear hb2); (try clear hk); (try clear hi); (try clear ho0)) | ((with_reducible refine gate_callee (f := 23) rfl ?_); refine goesL_ (some 137) rfl rfl Try.func23 (by kernel_rfl) rfl #[.int .i64 (l0.length : Int), .slice Ao122 x9_3.length co122] rfl (by (try simp only [List.map_toArray, List.map_cons, List.map_nil]); first | done | rfl | (simp only [List.length_drop, List.length_take]; rfl)) ?_; (with_reducible refine (match_Assign.calls k3 (l0.length : Int) _ _ x9_3 t497 t498 _ ?side1 ?side2 A70.out).mono ?_); (case side1 => repeat (first | exact (Kd.R_reads' HO_9.out).2.2 | (with_reducible refine Kd.C_alloc ?_ _) | (with_reducible refine Kd.C_drewN ?_ _) | (with_reducible refine Kd.C_drew ?_))); (case side2 => exact (Kd.R_reads' HO_9.out).2.1); rintro e w124 ⟨v499, rfl, ho0, hb⟩; refine ⟨_, rfl, ?_⟩; have n0_ := Aside0.mk (Kd.R_below (by (with_reducible repeat (first | apply Kd.R_alloc | apply Kd.R_drewN | apply Kd.R_drew)); exact HO_9.out) hb); have n1_ := Aside0.mk (Kd.S_elder' (by (with_reducible repeat (first | apply Kd.S_alloc | apply Kd.S_drewN | apply Kd.S_drew)); exact HO496.out) (Kd.R_base ho0) hb); have n2_ := Aside0.mk (Kd.R_lower ho0 (below_size (by repeat (first | (with_reducible first | exact HB.out | apply below_alloc | apply pw_below_drewN | apply below_drew1) | exact HB.out)))); have n3_ := Aside0.mk (below_step (by repeat (first | (with_reducible first | exact HB.out | apply below_alloc | apply pw_below_drewN | apply below_drew1) | exact HB.out)) hb); clear HO_9; clear HO496; clear HB; have HO_9 := n0_; have HO496 := n1_; have HO500 := n2_; have HB := n3_; clear n0_ n1_ n2_ n3_; (try clear hb); (try clear hb2); (try clear hk); (try clear hi); (try clear ho0)) | ((with_reducible refine gate_callee (f := 13) rfl ?_); refine goesL_ (some 144) rfl rfl Try.func13 (by kernel_rfl) rfl #[.int .i64 (l0.length : Int), .int .i64 (l0.length : Int), .slice Ao122 x9_3.length co122] rfl (by (try simp only [List.map_toArray, List.map_cons, List.map_nil]); first | done | rfl | (simp only [List.length_drop, List.length_take]; rfl)) ?_; (with_reducible refine (match_Most.calls (l0.length : Int) (l0.length : Int) _ _ x9_3 t501 t502 _ ?side1 ?side2 A71.out).mono ?_); (case side1 => repeat (first | exact (Kd.R_reads' HO_9.out).2.2 | (with_reducible refine Kd.C_alloc ?_ _) | (with_reducible refine Kd.C_drewN ?_ _) | (with_reducible refine Kd.C_drew ?_))); (case side2 => exact (Kd.R_reads' HO_9.out).2.1); rintro e w125 ⟨v503, rfl, ho0, hb⟩; refine ⟨_, rfl, ?_⟩; have n0_ := Aside0.mk (Kd.R_below (by (with_reducible repeat (first | apply Kd.R_alloc | apply Kd.R_drewN | apply Kd.R_drew)); exact HO_9.out) hb); have n1_ := Aside0.mk (Kd.S_elder' (by (with_reducible repeat (first | apply Kd.S_alloc | apply Kd.S_drewN | apply Kd.S_drew)); exact HO496.out) (Kd.R_base ho0) hb); have n2_ := Aside0.mk (Kd.R_elder' (by (with_reducible repeat (first | apply Kd.R_alloc | apply Kd.R_drewN | apply Kd.R_drew)); exact HO500.out) (Kd.R_base ho0) hb); have n3_ := Aside0.mk (Kd.R_lower (Kd.R_new' ho0 (Kd.R_lt (by (with_reducible repeat (first | apply Kd.R_alloc | apply Kd.R_drewN | apply Kd.R_drew)); exact HO500.out))) (below_size (by repeat (first | (with_reducible first | exact HB.out | apply below_alloc | apply pw_below_drewN | apply below_drew1) | exact HB.out)))); have n4_ := Aside0.mk (below_step (by repeat (first | (with_reducible first | exact HB.out | apply below_alloc | apply pw_below_drewN | apply below_drew1) | exact HB.out)) hb); clear HO_9; clear HO496; clear HO500; clear HB; have HO_9 := n0_; have HO496 := n1_; have HO500 := n2_; have HO504 := n3_; have HB := n4_; clear n0_ n1_ n2_ n3_ n4_; (try clear hb); (try clear hb2); (try clear hk); (try clear hi); (try clear ho0)))
        go_ret
        exact ⟨by first | rfl | (simp [errW_none, errW_some] <;> rfl) | (simp [*, errW_none, errW_some] <;> rfl), by repeat (first | (with_reducible first | exact HB.out | apply below_alloc | apply pw_below_drewN | apply below_drew1) | exact HB.out)⟩
       rw [if_pos c73] at H
       have c73b0 : (t502 == 0) = true := beq_iff_eq.mpr c73
       have c73b1 : (t502 != 0) = false := bne_eq_false_iff_eq.mpr c73
       clear c73
       replace H := Option.bind_eq_some_iff.mp H
       obtain ⟨t505, A740, H⟩ := H
       replace H : (if t505 = true then ((orreryref19_Size.f k3 t497).bind fun t506 => (if t506 = (l0.length : Int) then ((orreryref19_Sum.f k3 t494 t497).bind fun t507 => (if t507 ≥ x10_2 then ((orreryref19_Matching.f k3 t494 (l0.length : Int) t501).bind fun t508 => (if t508 = true then ((orreryref19_Size.f k3 t501).bind fun t509 => (some (t509 == (l0.length : Int)))) else (some false))) else (some false))) else (some false))) else (some false)) = some r := H
       have A74 := Aside0.mk A740
       clear A740
       by_cases c75 : t505 = true
       case neg =>
        replace c75 := Bool.eq_false_iff.mpr c75
        subst c75
        have H1 : (some false) = some r := by rw [if_neg (show ¬ (false = true) by decide)] at H; exact H
        clear H
        have H := H1
        clear H1
        obtain rfl := Option.some.inj H
        obtain ⟨Ao115, co115, eo115⟩ := Kd.R_slice HO_9.out
        subst eo115
        go_wp2_with (first | ((with_reducible refine gate_callee (f := 15) rfl ?_); refine goesL_ (some 133) rfl rfl Try.func15 (by kernel_rfl) rfl #[.int .i64 (l0.length : Int), .int .i64 (l0.length : Int), .slice Ao115 x9_3.length co115] rfl (by (try simp only [List.map_toArray, List.map_cons, List.map_nil]); first | done | rfl | (simp only [List.length_drop, List.length_take]; rfl)) ?_; (with_reducible refine (orreryref19_Table.calls k3 (l0.length : Int) (l0.length : Int) _ _ x9_3 t494 _ ?side1 ?side2 A69.out).mono ?_); (case side1 => repeat (first | exact (Kd.R_reads' HO_9.out).2.2 | (with_reducible refine Kd.C_alloc ?_ _) | (with_reducible refine Kd.C_drewN ?_ _) | (with_reducible refine Kd.C_drew ?_))); (case side2 => exact (Kd.R_reads' HO_9.out).2.1); rintro e w116 ⟨v495, rfl, ho0, hb⟩; refine ⟨_, rfl, ?_⟩; have n0_ := Aside0.mk (Kd.R_below (by (with_reducible repeat (first | apply Kd.R_alloc | apply Kd.R_drewN | apply Kd.R_drew)); exact HO_9.out) hb); have n1_ := Aside0.mk (Kd.S_lower ho0 (below_size (by repeat (first | (with_reducible first | exact HB.out | apply below_alloc | apply pw_below_drewN | apply below_drew1) | exact HB.out)))); have n2_ := Aside0.mk (below_step (by repeat (first | (with_reducible first | exact HB.out | apply below_alloc | apply pw_below_drewN | apply below_drew1) | exact HB.out)) hb); clear HO_9; clear HB; have HO_9 := n0_; have HO496 := n1_; have HB := n2_; clear n0_ n1_ n2_; (try clear hb); (try clear hb2); (try clear hk); (try clear hi); (try clear ho0)) | ((with_reducible refine gate_callee (f := 23) rfl ?_); refine goesL_ (some 137) rfl rfl Try.func23 (by kernel_rfl) rfl #[.int .i64 (l0.length : Int), .slice Ao115 x9_3.length co115] rfl (by (try simp only [List.map_toArray, List.map_cons, List.map_nil]); first | done | rfl | (simp only [List.length_drop, List.length_take]; rfl)) ?_; (with_reducible refine (match_Assign.calls k3 (l0.length : Int) _ _ x9_3 t497 t498 _ ?side1 ?side2 A70.out).mono ?_); (case side1 => repeat (first | exact (Kd.R_reads' HO_9.out).2.2 | (with_reducible refine Kd.C_alloc ?_ _) | (with_reducible refine Kd.C_drewN ?_ _) | (with_reducible refine Kd.C_drew ?_))); (case side2 => exact (Kd.R_reads' HO_9.out).2.1); rintro e w117 ⟨v499, rfl, ho0, hb⟩; refine ⟨_, rfl, ?_⟩; have n0_ := Aside0.mk (Kd.R_below (by (with_reducible repeat (first | apply Kd.R_alloc | apply Kd.R_drewN | apply Kd.R_drew)); exact HO_9.out) hb); have n1_ := Aside0.mk (Kd.S_elder' (by (with_reducible repeat (first | apply Kd.S_alloc | apply Kd.S_drewN | apply Kd.S_drew)); exact HO496.out) (Kd.R_base ho0) hb); have n2_ := Aside0.mk (Kd.R_lower ho0 (below_size (by repeat (first | (with_reducible first | exact HB.out | apply below_alloc | apply pw_below_drewN | apply below_drew1) | exact HB.out)))); have n3_ := Aside0.mk (below_step (by repeat (first | (with_reducible first | exact HB.out | apply below_alloc | apply pw_below_drewN | apply below_drew1) | exact HB.out)) hb); clear HO_9; clear HO496; clear HB; have HO_9 := n0_; have HO496 := n1_; have HO500 := n2_; have HB := n3_; clear n0_ n1_ n2_ n3_; (try clear hb); (try clear hb2); (try clear hk); (try clear hi); (try clear ho0)) | ((with_reducible refine gate_callee (f := 13) rfl ?_); refine goesL_ (some 144) rfl rfl Try.func13 (by kernel_rfl) rfl #[.int .i64 (l0.length : Int), .int .i64 (l0.length : Int), .slice Ao115 x9_3.length co115] rfl (by (try simp only [List.map_toArray, List.map_cons, List.map_nil]); first | done | rfl | (simp only [List.length_drop, List.length_take]; rfl)) ?_; (with_reducible refine (match_Most.calls (l0.length : Int) (l0.length : Int) _ _ x9_3 t501 t502 _ ?side1 ?side2 A71.out).mono ?_); (case side1 => repeat (first | exact (Kd.R_reads' HO_9.out).2.2 | (with_reducible refine Kd.C_alloc ?_ _) | (with_reducible refine Kd.C_drewN ?_ _) | (with_reducible refine Kd.C_drew ?_))); (case side2 => exact (Kd.R_reads' HO_9.out).2.1); rintro e w118 ⟨v503, rfl, ho0, hb⟩; refine ⟨_, rfl, ?_⟩; have n0_ := Aside0.mk (Kd.R_below (by (with_reducible repeat (first | apply Kd.R_alloc | apply Kd.R_drewN | apply Kd.R_drew)); exact HO_9.out) hb); have n1_ := Aside0.mk (Kd.S_elder' (by (with_reducible repeat (first | apply Kd.S_alloc | apply Kd.S_drewN | apply Kd.S_drew)); exact HO496.out) (Kd.R_base ho0) hb); have n2_ := Aside0.mk (Kd.R_elder' (by (with_reducible repeat (first | apply Kd.R_alloc | apply Kd.R_drewN | apply Kd.R_drew)); exact HO500.out) (Kd.R_base ho0) hb); have n3_ := Aside0.mk (Kd.R_lower (Kd.R_new' ho0 (Kd.R_lt (by (with_reducible repeat (first | apply Kd.R_alloc | apply Kd.R_drewN | apply Kd.R_drew)); exact HO500.out))) (below_size (by repeat (first | (with_reducible first | exact HB.out | apply below_alloc | apply pw_below_drewN | apply below_drew1) | exact HB.out)))); have n4_ := Aside0.mk (below_step (by repeat (first | (with_reducible first | exact HB.out | apply below_alloc | apply pw_below_drewN | apply below_drew1) | exact HB.out)) hb); clear HO_9; clear HO496; clear HO500; clear HB; have HO_9 := n0_; have HO496 := n1_; have HO500 := n2_; have HO504 := n3_; have HB := n4_; clear n0_ n1_ n2_ n3_ n4_; (try clear hb); (try clear hb2); (try clear hk); (try clear hi); (try clear ho0); obtain ⟨Ao119, co119, eo119⟩ := Kd.S_slice HO496.out; subst eo119; obtain ⟨Ao120, co120, eo120⟩ := Kd.R_slice HO500.out; subst eo120) | (go_at_call 16; (with_reducible refine (orreryref19_Matching.calls k3 _ _ t494 (l0.length : Int) _ _ t497 false _ ?side1 ?side2 ?side3 ?side4 A74.out).mono ?_); (case side1 => repeat (first | exact (Kd.S_reads' HO496.out).2.2 | (with_reducible refine Kd.C_alloc ?_ _) | (with_reducible refine Kd.C_drewN ?_ _) | (with_reducible refine Kd.C_drew ?_))); (case side2 => exact (Kd.S_reads' HO496.out).2.1); (case side3 => repeat (first | exact (Kd.R_reads' HO500.out).2.2 | (with_reducible refine Kd.C_alloc ?_ _) | (with_reducible refine Kd.C_drewN ?_ _) | (with_reducible refine Kd.C_drew ?_))); (case side4 => exact (Kd.R_reads' HO500.out).2.1); rintro e w121 ⟨rfl, hb⟩; have n0_ := Aside0.mk (Kd.R_below (by (with_reducible repeat (first | apply Kd.R_alloc | apply Kd.R_drewN | apply Kd.R_drew)); exact HO_9.out) hb); have n1_ := Aside0.mk (Kd.S_below (by (with_reducible repeat (first | apply Kd.S_alloc | apply Kd.S_drewN | apply Kd.S_drew)); exact HO496.out) hb); have n2_ := Aside0.mk (Kd.R_below (by (with_reducible repeat (first | apply Kd.R_alloc | apply Kd.R_drewN | apply Kd.R_drew)); exact HO500.out) hb); have n3_ := Aside0.mk (Kd.R_below (by (with_reducible repeat (first | apply Kd.R_alloc | apply Kd.R_drewN | apply Kd.R_drew)); exact HO504.out) hb); have n4_ := Aside0.mk (below_step (by repeat (first | (with_reducible first | exact HB.out | apply below_alloc | apply pw_below_drewN | apply below_drew1) | exact HB.out)) hb); clear HO_9; clear HO496; clear HO500; clear HO504; clear HB; have HO_9 := n0_; have HO496 := n1_; have HO500 := n2_; have HO504 := n3_; have HB := n4_; clear n0_ n1_ n2_ n3_ n4_; (try clear hb); (try clear hb2); (try clear hk); (try clear hi)))
        go_ret
        exact ⟨by first | rfl | (simp [errW_none, errW_some] <;> rfl) | (simp [*, errW_none, errW_some] <;> rfl), by repeat (first | (with_reducible first | exact HB.out | apply below_alloc | apply pw_below_drewN | apply below_drew1) | exact HB.out)⟩
       subst c75
       have H1 : ((orreryref19_Size.f k3 t497).bind fun t506 => (if t506 = (l0.length : Int) then ((orreryref19_Sum.f k3 t494 t497).bind fun t507 => (if t507 ≥ x10_2 then ((orreryref19_Matching.f k3 t494 (l0.length : Int) t501).bind fun t508 => (if t508 = true then ((orreryref19_Size.f k3 t501).bind fun t509 => (some (t509 == (l0.length : Int)))) else (some false))) else (some false))) else (some false))) = some r := by rw [if_pos rfl] at H; exact H
       clear H
       have H := H1
       clear H1
       replace H := Option.bind_eq_some_iff.mp H
       obtain ⟨t506, A760, H⟩ := H
       replace H : (if t506 = (l0.length : Int) then ((orreryref19_Sum.f k3 t494 t497).bind fun t507 => (if t507 ≥ x10_2 then ((orreryref19_Matching.f k3 t494 (l0.length : Int) t501).bind fun t508 => (if t508 = true then ((orreryref19_Size.f k3 t501).bind fun t509 => (some (t509 == (l0.length : Int)))) else (some false))) else (some false))) else (some false)) = some r := H
       have A76 := Aside0.mk A760
       clear A760
       by_cases c77 : t506 = (l0.length : Int)
       case neg =>
        rw [if_neg c77] at H
        have c77b0 : (t506 == (l0.length : Int)) = false := beq_eq_false_iff_ne.mpr c77
        have c77b1 : (t506 != (l0.length : Int)) = true := bne_iff_ne.mpr c77
        obtain rfl := Option.some.inj H
        obtain ⟨Ao108, co108, eo108⟩ := Kd.R_slice HO_9.out
        subst eo108
        go_wp2_with (first | ((with_reducible refine gate_callee (f := 15) rfl ?_); refine goesL_ (some 133) rfl rfl Try.func15 (by kernel_rfl) rfl #[.int .i64 (l0.length : Int), .int .i64 (l0.length : Int), .slice Ao108 x9_3.length co108] rfl (by (try simp only [List.map_toArray, List.map_cons, List.map_nil]); first | done | rfl | (simp only [List.length_drop, List.length_take]; rfl)) ?_; (with_reducible refine (orreryref19_Table.calls k3 (l0.length : Int) (l0.length : Int) _ _ x9_3 t494 _ ?side1 ?side2 A69.out).mono ?_); (case side1 => repeat (first | exact (Kd.R_reads' HO_9.out).2.2 | (with_reducible refine Kd.C_alloc ?_ _) | (with_reducible refine Kd.C_drewN ?_ _) | (with_reducible refine Kd.C_drew ?_))); (case side2 => exact (Kd.R_reads' HO_9.out).2.1); rintro e w109 ⟨v495, rfl, ho0, hb⟩; refine ⟨_, rfl, ?_⟩; have n0_ := Aside0.mk (Kd.R_below (by (with_reducible repeat (first | apply Kd.R_alloc | apply Kd.R_drewN | apply Kd.R_drew)); exact HO_9.out) hb); have n1_ := Aside0.mk (Kd.S_lower ho0 (below_size (by repeat (first | (with_reducible first | exact HB.out | apply below_alloc | apply pw_below_drewN | apply below_drew1) | exact HB.out)))); have n2_ := Aside0.mk (below_step (by repeat (first | (with_reducible first | exact HB.out | apply below_alloc | apply pw_below_drewN | apply below_drew1) | exact HB.out)) hb); clear HO_9; clear HB; have HO_9 := n0_; have HO496 := n1_; have HB := n2_; clear n0_ n1_ n2_; (try clear hb); (try clear hb2); (try clear hk); (try clear hi); (try clear ho0)) | ((with_reducible refine gate_callee (f := 23) rfl ?_); refine goesL_ (some 137) rfl rfl Try.func23 (by kernel_rfl) rfl #[.int .i64 (l0.length : Int), .slice Ao108 x9_3.length co108] rfl (by (try simp only [List.map_toArray, List.map_cons, List.map_nil]); first | done | rfl | (simp only [List.length_drop, List.length_take]; rfl)) ?_; (with_reducible refine (match_Assign.calls k3 (l0.length : Int) _ _ x9_3 t497 t498 _ ?side1 ?side2 A70.out).mono ?_); (case side1 => repeat (first | exact (Kd.R_reads' HO_9.out).2.2 | (with_reducible refine Kd.C_alloc ?_ _) | (with_reducible refine Kd.C_drewN ?_ _) | (with_reducible refine Kd.C_drew ?_))); (case side2 => exact (Kd.R_reads' HO_9.out).2.1); rintro e w110 ⟨v499, rfl, ho0, hb⟩; refine ⟨_, rfl, ?_⟩; have n0_ := Aside0.mk (Kd.R_below (by (with_reducible repeat (first | apply Kd.R_alloc | apply Kd.R_drewN | apply Kd.R_drew)); exact HO_9.out) hb); have n1_ := Aside0.mk (Kd.S_elder' (by (with_reducible repeat (first | apply Kd.S_alloc | apply Kd.S_drewN | apply Kd.S_drew)); exact HO496.out) (Kd.R_base ho0) hb); have n2_ := Aside0.mk (Kd.R_lower ho0 (below_size (by repeat (first | (with_reducible first | exact HB.out | apply below_alloc | apply pw_below_drewN | apply below_drew1) | exact HB.out)))); have n3_ := Aside0.mk (below_step (by repeat (first | (with_reducible first | exact HB.out | apply below_alloc | apply pw_below_drewN | apply below_drew1) | exact HB.out)) hb); clear HO_9; clear HO496; clear HB; have HO_9 := n0_; have HO496 := n1_; have HO500 := n2_; have HB := n3_; clear n0_ n1_ n2_ n3_; (try clear hb); (try clear hb2); (try clear hk); (try clear hi); (try clear ho0)) | ((with_reducible refine gate_callee (f := 13) rfl ?_); refine goesL_ (some 144) rfl rfl Try.func13 (by kernel_rfl) rfl #[.int .i64 (l0.length : Int), .int .i64 (l0.length : Int), .slice Ao108 x9_3.length co108] rfl (by (try simp only [List.map_toArray, List.map_cons, List.map_nil]); first | done | rfl | (simp only [List.length_drop, List.length_take]; rfl)) ?_; (with_reducible refine (match_Most.calls (l0.length : Int) (l0.length : Int) _ _ x9_3 t501 t502 _ ?side1 ?side2 A71.out).mono ?_); (case side1 => repeat (first | exact (Kd.R_reads' HO_9.out).2.2 | (with_reducible refine Kd.C_alloc ?_ _) | (with_reducible refine Kd.C_drewN ?_ _) | (with_reducible refine Kd.C_drew ?_))); (case side2 => exact (Kd.R_reads' HO_9.out).2.1); rintro e w111 ⟨v503, rfl, ho0, hb⟩; refine ⟨_, rfl, ?_⟩; have n0_ := Aside0.mk (Kd.R_below (by (with_reducible repeat (first | apply Kd.R_alloc | apply Kd.R_drewN | apply Kd.R_drew)); exact HO_9.out) hb); have n1_ := Aside0.mk (Kd.S_elder' (by (with_reducible repeat (first | apply Kd.S_alloc | apply Kd.S_drewN | apply Kd.S_drew)); exact HO496.out) (Kd.R_base ho0) hb); have n2_ := Aside0.mk (Kd.R_elder' (by (with_reducible repeat (first | apply Kd.R_alloc | apply Kd.R_drewN | apply Kd.R_drew)); exact HO500.out) (Kd.R_base ho0) hb); have n3_ := Aside0.mk (Kd.R_lower (Kd.R_new' ho0 (Kd.R_lt (by (with_reducible repeat (first | apply Kd.R_alloc | apply Kd.R_drewN | apply Kd.R_drew)); exact HO500.out))) (below_size (by repeat (first | (with_reducible first | exact HB.out | apply below_alloc | apply pw_below_drewN | apply below_drew1) | exact HB.out)))); have n4_ := Aside0.mk (below_step (by repeat (first | (with_reducible first | exact HB.out | apply below_alloc | apply pw_below_drewN | apply below_drew1) | exact HB.out)) hb); clear HO_9; clear HO496; clear HO500; clear HB; have HO_9 := n0_; have HO496 := n1_; have HO500 := n2_; have HO504 := n3_; have HB := n4_; clear n0_ n1_ n2_ n3_ n4_; (try clear hb); (try clear hb2); (try clear hk); (try clear hi); (try clear ho0); obtain ⟨Ao112, co112, eo112⟩ := Kd.S_slice HO496.out; subst eo112; obtain ⟨Ao113, co113, eo113⟩ := Kd.R_slice HO500.out; subst eo113) | (go_at_call 16; (with_reducible refine (orreryref19_Matching.calls k3 _ _ t494 (l0.length : Int) _ _ t497 true _ ?side1 ?side2 ?side3 ?side4 A74.out).mono ?_); (case side1 => repeat (first | exact (Kd.S_reads' HO496.out).2.2 | (with_reducible refine Kd.C_alloc ?_ _) | (with_reducible refine Kd.C_drewN ?_ _) | (with_reducible refine Kd.C_drew ?_))); (case side2 => exact (Kd.S_reads' HO496.out).2.1); (case side3 => repeat (first | exact (Kd.R_reads' HO500.out).2.2 | (with_reducible refine Kd.C_alloc ?_ _) | (with_reducible refine Kd.C_drewN ?_ _) | (with_reducible refine Kd.C_drew ?_))); (case side4 => exact (Kd.R_reads' HO500.out).2.1); rintro e w114 ⟨rfl, hb⟩; have n0_ := Aside0.mk (Kd.R_below (by (with_reducible repeat (first | apply Kd.R_alloc | apply Kd.R_drewN | apply Kd.R_drew)); exact HO_9.out) hb); have n1_ := Aside0.mk (Kd.S_below (by (with_reducible repeat (first | apply Kd.S_alloc | apply Kd.S_drewN | apply Kd.S_drew)); exact HO496.out) hb); have n2_ := Aside0.mk (Kd.R_below (by (with_reducible repeat (first | apply Kd.R_alloc | apply Kd.R_drewN | apply Kd.R_drew)); exact HO500.out) hb); have n3_ := Aside0.mk (Kd.R_below (by (with_reducible repeat (first | apply Kd.R_alloc | apply Kd.R_drewN | apply Kd.R_drew)); exact HO504.out) hb); have n4_ := Aside0.mk (below_step (by repeat (first | (with_reducible first | exact HB.out | apply below_alloc | apply pw_below_drewN | apply below_drew1) | exact HB.out)) hb); clear HO_9; clear HO496; clear HO500; clear HO504; clear HB; have HO_9 := n0_; have HO496 := n1_; have HO500 := n2_; have HO504 := n3_; have HB := n4_; clear n0_ n1_ n2_ n3_ n4_; (try clear hb); (try clear hb2); (try clear hk); (try clear hi)) | (go_at_call 24; (with_reducible refine (orreryref19_Size.calls k3 _ _ t497 t506 _ ?side1 ?side2 A76.out).mono ?_); (case side1 => repeat (first | exact (Kd.R_reads' HO500.out).2.2 | (with_reducible refine Kd.C_alloc ?_ _) | (with_reducible refine Kd.C_drewN ?_ _) | (with_reducible refine Kd.C_drew ?_))); (case side2 => exact (Kd.R_reads' HO500.out).2.1); rintro e w' ⟨rfl, ⟨nd, rfl⟩⟩))
        go_ret
        exact ⟨by first | rfl | (simp [errW_none, errW_some] <;> rfl) | (simp [*, errW_none, errW_some] <;> rfl), by repeat (first | (with_reducible first | exact HB.out | apply below_alloc | apply pw_below_drewN | apply below_drew1) | exact HB.out)⟩
       rw [if_pos c77] at H
       have c77b0 : (t506 == (l0.length : Int)) = true := beq_iff_eq.mpr c77
       have c77b1 : (t506 != (l0.length : Int)) = false := bne_eq_false_iff_eq.mpr c77
       clear c77
       replace H := Option.bind_eq_some_iff.mp H
       obtain ⟨t507, A780, H⟩ := H
       replace H : (if t507 ≥ x10_2 then ((orreryref19_Matching.f k3 t494 (l0.length : Int) t501).bind fun t508 => (if t508 = true then ((orreryref19_Size.f k3 t501).bind fun t509 => (some (t509 == (l0.length : Int)))) else (some false))) else (some false)) = some r := H
       have A78 := Aside0.mk A780
       clear A780
       by_cases c79 : t507 ≥ x10_2
       case neg =>
        rw [if_neg c79] at H
        have c79b0 : decide (x10_2 ≤ t507) = false := decide_eq_false c79
        clear c79
        obtain rfl := Option.some.inj H
        obtain ⟨Ao101, co101, eo101⟩ := Kd.R_slice HO_9.out
        subst eo101
        go_wp2_with (first | ((with_reducible refine gate_callee (f := 15) rfl ?_); refine goesL_ (some 133) rfl rfl Try.func15 (by kernel_rfl) rfl #[.int .i64 (l0.length : Int), .int .i64 (l0.length : Int), .slice Ao101 x9_3.length co101] rfl (by (try simp only [List.map_toArray, List.map_cons, List.map_nil]); first | done | rfl | (simp only [List.length_drop, List.length_take]; rfl)) ?_; (with_reducible refine (orreryref19_Table.calls k3 (l0.length : Int) (l0.length : Int) _ _ x9_3 t494 _ ?side1 ?side2 A69.out).mono ?_); (case side1 => repeat (first | exact (Kd.R_reads' HO_9.out).2.2 | (with_reducible refine Kd.C_alloc ?_ _) | (with_reducible refine Kd.C_drewN ?_ _) | (with_reducible refine Kd.C_drew ?_))); (case side2 => exact (Kd.R_reads' HO_9.out).2.1); rintro e w102 ⟨v495, rfl, ho0, hb⟩; refine ⟨_, rfl, ?_⟩; have n0_ := Aside0.mk (Kd.R_below (by (with_reducible repeat (first | apply Kd.R_alloc | apply Kd.R_drewN | apply Kd.R_drew)); exact HO_9.out) hb); have n1_ := Aside0.mk (Kd.S_lower ho0 (below_size (by repeat (first | (with_reducible first | exact HB.out | apply below_alloc | apply pw_below_drewN | apply below_drew1) | exact HB.out)))); have n2_ := Aside0.mk (below_step (by repeat (first | (with_reducible first | exact HB.out | apply below_alloc | apply pw_below_drewN | apply below_drew1) | exact HB.out)) hb); clear HO_9; clear HB; have HO_9 := n0_; have HO496 := n1_; have HB := n2_; clear n0_ n1_ n2_; (try clear hb); (try clear hb2); (try clear hk); (try clear hi); (try clear ho0)) | ((with_reducible refine gate_callee (f := 23) rfl ?_); refine goesL_ (some 137) rfl rfl Try.func23 (by kernel_rfl) rfl #[.int .i64 (l0.length : Int), .slice Ao101 x9_3.length co101] rfl (by (try simp only [List.map_toArray, List.map_cons, List.map_nil]); first | done | rfl | (simp only [List.length_drop, List.length_take]; rfl)) ?_; (with_reducible refine (match_Assign.calls k3 (l0.length : Int) _ _ x9_3 t497 t498 _ ?side1 ?side2 A70.out).mono ?_); (case side1 => repeat (first | exact (Kd.R_reads' HO_9.out).2.2 | (with_reducible refine Kd.C_alloc ?_ _) | (with_reducible refine Kd.C_drewN ?_ _) | (with_reducible refine Kd.C_drew ?_))); (case side2 => exact (Kd.R_reads' HO_9.out).2.1); rintro e w103 ⟨v499, rfl, ho0, hb⟩; refine ⟨_, rfl, ?_⟩; have n0_ := Aside0.mk (Kd.R_below (by (with_reducible repeat (first | apply Kd.R_alloc | apply Kd.R_drewN | apply Kd.R_drew)); exact HO_9.out) hb); have n1_ := Aside0.mk (Kd.S_elder' (by (with_reducible repeat (first | apply Kd.S_alloc | apply Kd.S_drewN | apply Kd.S_drew)); exact HO496.out) (Kd.R_base ho0) hb); have n2_ := Aside0.mk (Kd.R_lower ho0 (below_size (by repeat (first | (with_reducible first | exact HB.out | apply below_alloc | apply pw_below_drewN | apply below_drew1) | exact HB.out)))); have n3_ := Aside0.mk (below_step (by repeat (first | (with_reducible first | exact HB.out | apply below_alloc | apply pw_below_drewN | apply below_drew1) | exact HB.out)) hb); clear HO_9; clear HO496; clear HB; have HO_9 := n0_; have HO496 := n1_; have HO500 := n2_; have HB := n3_; clear n0_ n1_ n2_ n3_; (try clear hb); (try clear hb2); (try clear hk); (try clear hi); (try clear ho0)) | ((with_reducible refine gate_callee (f := 13) rfl ?_); refine goesL_ (some 144) rfl rfl Try.func13 (by kernel_rfl) rfl #[.int .i64 (l0.length : Int), .int .i64 (l0.length : Int), .slice Ao101 x9_3.length co101] rfl (by (try simp only [List.map_toArray, List.map_cons, List.map_nil]); first | done | rfl | (simp only [List.length_drop, List.length_take]; rfl)) ?_; (with_reducible refine (match_Most.calls (l0.length : Int) (l0.length : Int) _ _ x9_3 t501 t502 _ ?side1 ?side2 A71.out).mono ?_); (case side1 => repeat (first | exact (Kd.R_reads' HO_9.out).2.2 | (with_reducible refine Kd.C_alloc ?_ _) | (with_reducible refine Kd.C_drewN ?_ _) | (with_reducible refine Kd.C_drew ?_))); (case side2 => exact (Kd.R_reads' HO_9.out).2.1); rintro e w104 ⟨v503, rfl, ho0, hb⟩; refine ⟨_, rfl, ?_⟩; have n0_ := Aside0.mk (Kd.R_below (by (with_reducible repeat (first | apply Kd.R_alloc | apply Kd.R_drewN | apply Kd.R_drew)); exact HO_9.out) hb); have n1_ := Aside0.mk (Kd.S_elder' (by (with_reducible repeat (first | apply Kd.S_alloc | apply Kd.S_drewN | apply Kd.S_drew)); exact HO496.out) (Kd.R_base ho0) hb); have n2_ := Aside0.mk (Kd.R_elder' (by (with_reducible repeat (first | apply Kd.R_alloc | apply Kd.R_drewN | apply Kd.R_drew)); exact HO500.out) (Kd.R_base ho0) hb); have n3_ := Aside0.mk (Kd.R_lower (Kd.R_new' ho0 (Kd.R_lt (by (with_reducible repeat (first | apply Kd.R_alloc | apply Kd.R_drewN | apply Kd.R_drew)); exact HO500.out))) (below_size (by repeat (first | (with_reducible first | exact HB.out | apply below_alloc | apply pw_below_drewN | apply below_drew1) | exact HB.out)))); have n4_ := Aside0.mk (below_step (by repeat (first | (with_reducible first | exact HB.out | apply below_alloc | apply pw_below_drewN | apply below_drew1) | exact HB.out)) hb); clear HO_9; clear HO496; clear HO500; clear HB; have HO_9 := n0_; have HO496 := n1_; have HO500 := n2_; have HO504 := n3_; have HB := n4_; clear n0_ n1_ n2_ n3_ n4_; (try clear hb); (try clear hb2); (try clear hk); (try clear hi); (try clear ho0); obtain ⟨Ao105, co105, eo105⟩ := Kd.S_slice HO496.out; subst eo105; obtain ⟨Ao106, co106, eo106⟩ := Kd.R_slice HO500.out; subst eo106) | (go_at_call 16; (with_reducible refine (orreryref19_Matching.calls k3 _ _ t494 (l0.length : Int) _ _ t497 true _ ?side1 ?side2 ?side3 ?side4 A74.out).mono ?_); (case side1 => repeat (first | exact (Kd.S_reads' HO496.out).2.2 | (with_reducible refine Kd.C_alloc ?_ _) | (with_reducible refine Kd.C_drewN ?_ _) | (with_reducible refine Kd.C_drew ?_))); (case side2 => exact (Kd.S_reads' HO496.out).2.1); (case side3 => repeat (first | exact (Kd.R_reads' HO500.out).2.2 | (with_reducible refine Kd.C_alloc ?_ _) | (with_reducible refine Kd.C_drewN ?_ _) | (with_reducible refine Kd.C_drew ?_))); (case side4 => exact (Kd.R_reads' HO500.out).2.1); rintro e w107 ⟨rfl, hb⟩; have n0_ := Aside0.mk (Kd.R_below (by (with_reducible repeat (first | apply Kd.R_alloc | apply Kd.R_drewN | apply Kd.R_drew)); exact HO_9.out) hb); have n1_ := Aside0.mk (Kd.S_below (by (with_reducible repeat (first | apply Kd.S_alloc | apply Kd.S_drewN | apply Kd.S_drew)); exact HO496.out) hb); have n2_ := Aside0.mk (Kd.R_below (by (with_reducible repeat (first | apply Kd.R_alloc | apply Kd.R_drewN | apply Kd.R_drew)); exact HO500.out) hb); have n3_ := Aside0.mk (Kd.R_below (by (with_reducible repeat (first | apply Kd.R_alloc | apply Kd.R_drewN | apply Kd.R_drew)); exact HO504.out) hb); have n4_ := Aside0.mk (below_step (by repeat (first | (with_reducible first | exact HB.out | apply below_alloc | apply pw_below_drewN | apply below_drew1) | exact HB.out)) hb); clear HO_9; clear HO496; clear HO500; clear HO504; clear HB; have HO_9 := n0_; have HO496 := n1_; have HO500 := n2_; have HO504 := n3_; have HB := n4_; clear n0_ n1_ n2_ n3_ n4_; (try clear hb); (try clear hb2); (try clear hk); (try clear hi)) | (go_at_call 24; (with_reducible refine (orreryref19_Size.calls k3 _ _ t497 t506 _ ?side1 ?side2 A76.out).mono ?_); (case side1 => repeat (first | exact (Kd.R_reads' HO500.out).2.2 | (with_reducible refine Kd.C_alloc ?_ _) | (with_reducible refine Kd.C_drewN ?_ _) | (with_reducible refine Kd.C_drew ?_))); (case side2 => exact (Kd.R_reads' HO500.out).2.1); rintro e w' ⟨rfl, ⟨nd, rfl⟩⟩) | (go_at_call 26; (with_reducible refine (orreryref19_Sum.calls k3 _ _ t494 _ _ t497 t507 _ ?side1 ?side2 ?side3 ?side4 A78.out).mono ?_); (case side1 => repeat (first | exact (Kd.S_reads' HO496.out).2.2 | (with_reducible refine Kd.C_alloc ?_ _) | (with_reducible refine Kd.C_drewN ?_ _) | (with_reducible refine Kd.C_drew ?_))); (case side2 => exact (Kd.S_reads' HO496.out).2.1); (case side3 => repeat (first | exact (Kd.R_reads' HO500.out).2.2 | (with_reducible refine Kd.C_alloc ?_ _) | (with_reducible refine Kd.C_drewN ?_ _) | (with_reducible refine Kd.C_drew ?_))); (case side4 => exact (Kd.R_reads' HO500.out).2.1); rintro e w' ⟨rfl, ⟨nd, rfl⟩⟩))
        go_ret
        exact ⟨by first | rfl | (simp [errW_none, errW_some] <;> rfl) | (simp [*, errW_none, errW_some] <;> rfl), by repeat (first | (with_reducible first | exact HB.out | apply below_alloc | apply pw_below_drewN | apply below_drew1) | exact HB.out)⟩
       rw [if_pos c79] at H
       have c79b0 : decide (x10_2 ≤ t507) = true := decide_eq_true c79
       clear c79
       replace H := Option.bind_eq_some_iff.mp H
       obtain ⟨t508, A800, H⟩ := H
       replace H : (if t508 = true then ((orreryref19_Size.f k3 t501).bind fun t509 => (some (t509 == (l0.length : Int)))) else (some false)) = some r := H
       have A80 := Aside0.mk A800
       clear A800
       by_cases c81 : t508 = true
       case neg =>
        replace c81 := Bool.eq_false_iff.mpr c81
        subst c81
        have H1 : (some false) = some r := by rw [if_neg (show ¬ (false = true) by decide)] at H; exact H
        clear H
        have H := H1
        clear H1
        obtain rfl := Option.some.inj H
        obtain ⟨Ao92, co92, eo92⟩ := Kd.R_slice HO_9.out
        subst eo92
        go_wp2_with (first | ((with_reducible refine gate_callee (f := 15) rfl ?_); refine goesL_ (some 133) rfl rfl Try.func15 (by kernel_rfl) rfl #[.int .i64 (l0.length : Int), .int .i64 (l0.length : Int), .slice Ao92 x9_3.length co92] rfl (by (try simp only [List.map_toArray, List.map_cons, List.map_nil]); first | done | rfl | (simp only [List.length_drop, List.length_take]; rfl)) ?_; (with_reducible refine (orreryref19_Table.calls k3 (l0.length : Int) (l0.length : Int) _ _ x9_3 t494 _ ?side1 ?side2 A69.out).mono ?_); (case side1 => repeat (first | exact (Kd.R_reads' HO_9.out).2.2 | (with_reducible refine Kd.C_alloc ?_ _) | (with_reducible refine Kd.C_drewN ?_ _) | (with_reducible refine Kd.C_drew ?_))); (case side2 => exact (Kd.R_reads' HO_9.out).2.1); rintro e w93 ⟨v495, rfl, ho0, hb⟩; refine ⟨_, rfl, ?_⟩; have n0_ := Aside0.mk (Kd.R_below (by (with_reducible repeat (first | apply Kd.R_alloc | apply Kd.R_drewN | apply Kd.R_drew)); exact HO_9.out) hb); have n1_ := Aside0.mk (Kd.S_lower ho0 (below_size (by repeat (first | (with_reducible first | exact HB.out | apply below_alloc | apply pw_below_drewN | apply below_drew1) | exact HB.out)))); have n2_ := Aside0.mk (below_step (by repeat (first | (with_reducible first | exact HB.out | apply below_alloc | apply pw_below_drewN | apply below_drew1) | exact HB.out)) hb); clear HO_9; clear HB; have HO_9 := n0_; have HO496 := n1_; have HB := n2_; clear n0_ n1_ n2_; (try clear hb); (try clear hb2); (try clear hk); (try clear hi); (try clear ho0)) | ((with_reducible refine gate_callee (f := 23) rfl ?_); refine goesL_ (some 137) rfl rfl Try.func23 (by kernel_rfl) rfl #[.int .i64 (l0.length : Int), .slice Ao92 x9_3.length co92] rfl (by (try simp only [List.map_toArray, List.map_cons, List.map_nil]); first | done | rfl | (simp only [List.length_drop, List.length_take]; rfl)) ?_; (with_reducible refine (match_Assign.calls k3 (l0.length : Int) _ _ x9_3 t497 t498 _ ?side1 ?side2 A70.out).mono ?_); (case side1 => repeat (first | exact (Kd.R_reads' HO_9.out).2.2 | (with_reducible refine Kd.C_alloc ?_ _) | (with_reducible refine Kd.C_drewN ?_ _) | (with_reducible refine Kd.C_drew ?_))); (case side2 => exact (Kd.R_reads' HO_9.out).2.1); rintro e w94 ⟨v499, rfl, ho0, hb⟩; refine ⟨_, rfl, ?_⟩; have n0_ := Aside0.mk (Kd.R_below (by (with_reducible repeat (first | apply Kd.R_alloc | apply Kd.R_drewN | apply Kd.R_drew)); exact HO_9.out) hb); have n1_ := Aside0.mk (Kd.S_elder' (by (with_reducible repeat (first | apply Kd.S_alloc | apply Kd.S_drewN | apply Kd.S_drew)); exact HO496.out) (Kd.R_base ho0) hb); have n2_ := Aside0.mk (Kd.R_lower ho0 (below_size (by repeat (first | (with_reducible first | exact HB.out | apply below_alloc | apply pw_below_drewN | apply below_drew1) | exact HB.out)))); have n3_ := Aside0.mk (below_step (by repeat (first | (with_reducible first | exact HB.out | apply below_alloc | apply pw_below_drewN | apply below_drew1) | exact HB.out)) hb); clear HO_9; clear HO496; clear HB; have HO_9 := n0_; have HO496 := n1_; have HO500 := n2_; have HB := n3_; clear n0_ n1_ n2_ n3_; (try clear hb); (try clear hb2); (try clear hk); (try clear hi); (try clear ho0)) | ((with_reducible refine gate_callee (f := 13) rfl ?_); refine goesL_ (some 144) rfl rfl Try.func13 (by kernel_rfl) rfl #[.int .i64 (l0.length : Int), .int .i64 (l0.length : Int), .slice Ao92 x9_3.length co92] rfl (by (try simp only [List.map_toArray, List.map_cons, List.map_nil]); first | done | rfl | (simp only [List.length_drop, List.length_take]; rfl)) ?_; (with_reducible refine (match_Most.calls (l0.length : Int) (l0.length : Int) _ _ x9_3 t501 t502 _ ?side1 ?side2 A71.out).mono ?_); (case side1 => repeat (first | exact (Kd.R_reads' HO_9.out).2.2 | (with_reducible refine Kd.C_alloc ?_ _) | (with_reducible refine Kd.C_drewN ?_ _) | (with_reducible refine Kd.C_drew ?_))); (case side2 => exact (Kd.R_reads' HO_9.out).2.1); rintro e w95 ⟨v503, rfl, ho0, hb⟩; refine ⟨_, rfl, ?_⟩; have n0_ := Aside0.mk (Kd.R_below (by (with_reducible repeat (first | apply Kd.R_alloc | apply Kd.R_drewN | apply Kd.R_drew)); exact HO_9.out) hb); have n1_ := Aside0.mk (Kd.S_elder' (by (with_reducible repeat (first | apply Kd.S_alloc | apply Kd.S_drewN | apply Kd.S_drew)); exact HO496.out) (Kd.R_base ho0) hb); have n2_ := Aside0.mk (Kd.R_elder' (by (with_reducible repeat (first | apply Kd.R_alloc | apply Kd.R_drewN | apply Kd.R_drew)); exact HO500.out) (Kd.R_base ho0) hb); have n3_ := Aside0.mk (Kd.R_lower (Kd.R_new' ho0 (Kd.R_lt (by (with_reducible repeat (first | apply Kd.R_alloc | apply Kd.R_drewN | apply Kd.R_drew)); exact HO500.out))) (below_size (by repeat (first | (with_reducible first | exact HB.out | apply below_alloc | apply pw_below_drewN | apply below_drew1) | exact HB.out)))); have n4_ := Aside0.mk (below_step (by repeat (first | (with_reducible first | exact HB.out | apply below_alloc | apply pw_below_drewN | apply below_drew1) | exact HB.out)) hb); clear HO_9; clear HO496; clear HO500; clear HB; have HO_9 := n0_; have HO496 := n1_; have HO500 := n2_; have HO504 := n3_; have HB := n4_; clear n0_ n1_ n2_ n3_ n4_; (try clear hb); (try clear hb2); (try clear hk); (try clear hi); (try clear ho0); obtain ⟨Ao96, co96, eo96⟩ := Kd.S_slice HO496.out; subst eo96; obtain ⟨Ao97, co97, eo97⟩ := Kd.R_slice HO500.out; subst eo97) | (go_at_call 16; (with_reducible refine (orreryref19_Matching.calls k3 _ _ t494 (l0.length : Int) _ _ t497 true _ ?side1 ?side2 ?side3 ?side4 A74.out).mono ?_); (case side1 => repeat (first | exact (Kd.S_reads' HO496.out).2.2 | (with_reducible refine Kd.C_alloc ?_ _) | (with_reducible refine Kd.C_drewN ?_ _) | (with_reducible refine Kd.C_drew ?_))); (case side2 => exact (Kd.S_reads' HO496.out).2.1); (case side3 => repeat (first | exact (Kd.R_reads' HO500.out).2.2 | (with_reducible refine Kd.C_alloc ?_ _) | (with_reducible refine Kd.C_drewN ?_ _) | (with_reducible refine Kd.C_drew ?_))); (case side4 => exact (Kd.R_reads' HO500.out).2.1); rintro e w98 ⟨rfl, hb⟩; have n0_ := Aside0.mk (Kd.R_below (by (with_reducible repeat (first | apply Kd.R_alloc | apply Kd.R_drewN | apply Kd.R_drew)); exact HO_9.out) hb); have n1_ := Aside0.mk (Kd.S_below (by (with_reducible repeat (first | apply Kd.S_alloc | apply Kd.S_drewN | apply Kd.S_drew)); exact HO496.out) hb); have n2_ := Aside0.mk (Kd.R_below (by (with_reducible repeat (first | apply Kd.R_alloc | apply Kd.R_drewN | apply Kd.R_drew)); exact HO500.out) hb); have n3_ := Aside0.mk (Kd.R_below (by (with_reducible repeat (first | apply Kd.R_alloc | apply Kd.R_drewN | apply Kd.R_drew)); exact HO504.out) hb); have n4_ := Aside0.mk (below_step (by repeat (first | (with_reducible first | exact HB.out | apply below_alloc | apply pw_below_drewN | apply below_drew1) | exact HB.out)) hb); clear HO_9; clear HO496; clear HO500; clear HO504; clear HB; have HO_9 := n0_; have HO496 := n1_; have HO500 := n2_; have HO504 := n3_; have HB := n4_; clear n0_ n1_ n2_ n3_ n4_; (try clear hb); (try clear hb2); (try clear hk); (try clear hi)) | (go_at_call 24; (with_reducible refine (orreryref19_Size.calls k3 _ _ t497 t506 _ ?side1 ?side2 A76.out).mono ?_); (case side1 => repeat (first | exact (Kd.R_reads' HO500.out).2.2 | (with_reducible refine Kd.C_alloc ?_ _) | (with_reducible refine Kd.C_drewN ?_ _) | (with_reducible refine Kd.C_drew ?_))); (case side2 => exact (Kd.R_reads' HO500.out).2.1); rintro e w' ⟨rfl, ⟨nd, rfl⟩⟩) | (go_at_call 26; (with_reducible refine (orreryref19_Sum.calls k3 _ _ t494 _ _ t497 t507 _ ?side1 ?side2 ?side3 ?side4 A78.out).mono ?_); (case side1 => repeat (first | exact (Kd.S_reads' HO496.out).2.2 | (with_reducible refine Kd.C_alloc ?_ _) | (with_reducible refine Kd.C_drewN ?_ _) | (with_reducible refine Kd.C_drew ?_))); (case side2 => exact (Kd.S_reads' HO496.out).2.1); (case side3 => repeat (first | exact (Kd.R_reads' HO500.out).2.2 | (with_reducible refine Kd.C_alloc ?_ _) | (with_reducible refine Kd.C_drewN ?_ _) | (with_reducible refine Kd.C_drew ?_))); (case side4 => exact (Kd.R_reads' HO500.out).2.1); rintro e w' ⟨rfl, ⟨nd, rfl⟩⟩; obtain ⟨Ao99, co99, eo99⟩ := Kd.R_slice HO504.out; subst eo99) | (go_at_call 16; (with_reducible refine (orreryref19_Matching.calls k3 _ _ t494 (l0.length : Int) _ _ t501 false _ ?side1 ?side2 ?side3 ?side4 A80.out).mono ?_); (case side1 => repeat (first | exact (Kd.S_reads' HO496.out).2.2 | (with_reducible refine Kd.C_alloc ?_ _) | (with_reducible refine Kd.C_drewN ?_ _) | (with_reducible refine Kd.C_drew ?_))); (case side2 => exact (Kd.S_reads' HO496.out).2.1); (case side3 => repeat (first | exact (Kd.R_reads' HO504.out).2.2 | (with_reducible refine Kd.C_alloc ?_ _) | (with_reducible refine Kd.C_drewN ?_ _) | (with_reducible refine Kd.C_drew ?_))); (case side4 => exact (Kd.R_reads' HO504.out).2.1); rintro e w100 ⟨rfl, hb⟩; have n0_ := Aside0.mk (Kd.R_below (by (with_reducible repeat (first | apply Kd.R_alloc | apply Kd.R_drewN | apply Kd.R_drew)); exact HO_9.out) hb); have n1_ := Aside0.mk (Kd.S_below (by (with_reducible repeat (first | apply Kd.S_alloc | apply Kd.S_drewN | apply Kd.S_drew)); exact HO496.out) hb); have n2_ := Aside0.mk (Kd.R_below (by (with_reducible repeat (first | apply Kd.R_alloc | apply Kd.R_drewN | apply Kd.R_drew)); exact HO500.out) hb); have n3_ := Aside0.mk (Kd.R_below (by (with_reducible repeat (first | apply Kd.R_alloc | apply Kd.R_drewN | apply Kd.R_drew)); exact HO504.out) hb); have n4_ := Aside0.mk (below_step (by repeat (first | (with_reducible first | exact HB.out | apply below_alloc | apply pw_below_drewN | apply below_drew1) | exact HB.out)) hb); clear HO_9; clear HO496; clear HO500; clear HO504; clear HB; have HO_9 := n0_; have HO496 := n1_; have HO500 := n2_; have HO504 := n3_; have HB := n4_; clear n0_ n1_ n2_ n3_ n4_; (try clear hb); (try clear hb2); (try clear hk); (try clear hi)))
        go_ret
        exact ⟨by first | rfl | (simp [errW_none, errW_some] <;> rfl) | (simp [*, errW_none, errW_some] <;> rfl), by repeat (first | (with_reducible first | exact HB.out | apply below_alloc | apply pw_below_drewN | apply below_drew1) | exact HB.out)⟩
       subst c81
       have H1 : ((orreryref19_Size.f k3 t501).bind fun t509 => (some (t509 == (l0.length : Int)))) = some r := by rw [if_pos rfl] at H; exact H
       clear H
       have H := H1
       clear H1
       replace H := Option.bind_eq_some_iff.mp H
       obtain ⟨t509, A820, H⟩ := H
       replace H : (some (t509 == (l0.length : Int))) = some r := H
       have A82 := Aside0.mk A820
       clear A820
       obtain rfl := Option.some.inj H
       obtain ⟨Ao83, co83, eo83⟩ := Kd.R_slice HO_9.out
       subst eo83
       go_wp2_with (first | ((with_reducible refine gate_callee (f := 15) rfl ?_); refine goesL_ (some 133) rfl rfl Try.func15 (by kernel_rfl) rfl #[.int .i64 (l0.length : Int), .int .i64 (l0.length : Int), .slice Ao83 x9_3.length co83] rfl (by (try simp only [List.map_toArray, List.map_cons, List.map_nil]); first | done | rfl | (simp only [List.length_drop, List.length_take]; rfl)) ?_; (with_reducible refine (orreryref19_Table.calls k3 (l0.length : Int) (l0.length : Int) _ _ x9_3 t494 _ ?side1 ?side2 A69.out).mono ?_); (case side1 => repeat (first | exact (Kd.R_reads' HO_9.out).2.2 | (with_reducible refine Kd.C_alloc ?_ _) | (with_reducible refine Kd.C_drewN ?_ _) | (with_reducible refine Kd.C_drew ?_))); (case side2 => exact (Kd.R_reads' HO_9.out).2.1); rintro e w84 ⟨v495, rfl, ho0, hb⟩; refine ⟨_, rfl, ?_⟩; have n0_ := Aside0.mk (Kd.R_below (by (with_reducible repeat (first | apply Kd.R_alloc | apply Kd.R_drewN | apply Kd.R_drew)); exact HO_9.out) hb); have n1_ := Aside0.mk (Kd.S_lower ho0 (below_size (by repeat (first | (with_reducible first | exact HB.out | apply below_alloc | apply pw_below_drewN | apply below_drew1) | exact HB.out)))); have n2_ := Aside0.mk (below_step (by repeat (first | (with_reducible first | exact HB.out | apply below_alloc | apply pw_below_drewN | apply below_drew1) | exact HB.out)) hb); clear HO_9; clear HB; have HO_9 := n0_; have HO496 := n1_; have HB := n2_; clear n0_ n1_ n2_; (try clear hb); (try clear hb2); (try clear hk); (try clear hi); (try clear ho0)) | ((with_reducible refine gate_callee (f := 23) rfl ?_); refine goesL_ (some 137) rfl rfl Try.func23 (by kernel_rfl) rfl #[.int .i64 (l0.length : Int), .slice Ao83 x9_3.length co83] rfl (by (try simp only [List.map_toArray, List.map_cons, List.map_nil]); first | done | rfl | (simp only [List.length_drop, List.length_take]; rfl)) ?_; (with_reducible refine (match_Assign.calls k3 (l0.length : Int) _ _ x9_3 t497 t498 _ ?side1 ?side2 A70.out).mono ?_); (case side1 => repeat (first | exact (Kd.R_reads' HO_9.out).2.2 | (with_reducible refine Kd.C_alloc ?_ _) | (with_reducible refine Kd.C_drewN ?_ _) | (with_reducible refine Kd.C_drew ?_))); (case side2 => exact (Kd.R_reads' HO_9.out).2.1); rintro e w85 ⟨v499, rfl, ho0, hb⟩; refine ⟨_, rfl, ?_⟩; have n0_ := Aside0.mk (Kd.R_below (by (with_reducible repeat (first | apply Kd.R_alloc | apply Kd.R_drewN | apply Kd.R_drew)); exact HO_9.out) hb); have n1_ := Aside0.mk (Kd.S_elder' (by (with_reducible repeat (first | apply Kd.S_alloc | apply Kd.S_drewN | apply Kd.S_drew)); exact HO496.out) (Kd.R_base ho0) hb); have n2_ := Aside0.mk (Kd.R_lower ho0 (below_size (by repeat (first | (with_reducible first | exact HB.out | apply below_alloc | apply pw_below_drewN | apply below_drew1) | exact HB.out)))); have n3_ := Aside0.mk (below_step (by repeat (first | (with_reducible first | exact HB.out | apply below_alloc | apply pw_below_drewN | apply below_drew1) | exact HB.out)) hb); clear HO_9; clear HO496; clear HB; have HO_9 := n0_; have HO496 := n1_; have HO500 := n2_; have HB := n3_; clear n0_ n1_ n2_ n3_; (try clear hb); (try clear hb2); (try clear hk); (try clear hi); (try clear ho0)) | ((with_reducible refine gate_callee (f := 13) rfl ?_); refine goesL_ (some 144) rfl rfl Try.func13 (by kernel_rfl) rfl #[.int .i64 (l0.length : Int), .int .i64 (l0.length : Int), .slice Ao83 x9_3.length co83] rfl (by (try simp only [List.map_toArray, List.map_cons, List.map_nil]); first | done | rfl | (simp only [List.length_drop, List.length_take]; rfl)) ?_; (with_reducible refine (match_Most.calls (l0.length : Int) (l0.length : Int) _ _ x9_3 t501 t502 _ ?side1 ?side2 A71.out).mono ?_); (case side1 => repeat (first | exact (Kd.R_reads' HO_9.out).2.2 | (with_reducible refine Kd.C_alloc ?_ _) | (with_reducible refine Kd.C_drewN ?_ _) | (with_reducible refine Kd.C_drew ?_))); (case side2 => exact (Kd.R_reads' HO_9.out).2.1); rintro e w86 ⟨v503, rfl, ho0, hb⟩; refine ⟨_, rfl, ?_⟩; have n0_ := Aside0.mk (Kd.R_below (by (with_reducible repeat (first | apply Kd.R_alloc | apply Kd.R_drewN | apply Kd.R_drew)); exact HO_9.out) hb); have n1_ := Aside0.mk (Kd.S_elder' (by (with_reducible repeat (first | apply Kd.S_alloc | apply Kd.S_drewN | apply Kd.S_drew)); exact HO496.out) (Kd.R_base ho0) hb); have n2_ := Aside0.mk (Kd.R_elder' (by (with_reducible repeat (first | apply Kd.R_alloc | apply Kd.R_drewN | apply Kd.R_drew)); exact HO500.out) (Kd.R_base ho0) hb); have n3_ := Aside0.mk (Kd.R_lower (Kd.R_new' ho0 (Kd.R_lt (by (with_reducible repeat (first | apply Kd.R_alloc | apply Kd.R_drewN | apply Kd.R_drew)); exact HO500.out))) (below_size (by repeat (first | (with_reducible first | exact HB.out | apply below_alloc | apply pw_below_drewN | apply below_drew1) | exact HB.out)))); have n4_ := Aside0.mk (below_step (by repeat (first | (with_reducible first | exact HB.out | apply below_alloc | apply pw_below_drewN | apply below_drew1) | exact HB.out)) hb); clear HO_9; clear HO496; clear HO500; clear HB; have HO_9 := n0_; have HO496 := n1_; have HO500 := n2_; have HO504 := n3_; have HB := n4_; clear n0_ n1_ n2_ n3_ n4_; (try clear hb); (try clear hb2); (try clear hk); (try clear hi); (try clear ho0); obtain ⟨Ao87, co87, eo87⟩ := Kd.S_slice HO496.out; subst eo87; obtain ⟨Ao88, co88, eo88⟩ := Kd.R_slice HO500.out; subst eo88) | (go_at_call 16; (with_reducible refine (orreryref19_Matching.calls k3 _ _ t494 (l0.length : Int) _ _ t497 true _ ?side1 ?side2 ?side3 ?side4 A74.out).mono ?_); (case side1 => repeat (first | exact (Kd.S_reads' HO496.out).2.2 | (with_reducible refine Kd.C_alloc ?_ _) | (with_reducible refine Kd.C_drewN ?_ _) | (with_reducible refine Kd.C_drew ?_))); (case side2 => exact (Kd.S_reads' HO496.out).2.1); (case side3 => repeat (first | exact (Kd.R_reads' HO500.out).2.2 | (with_reducible refine Kd.C_alloc ?_ _) | (with_reducible refine Kd.C_drewN ?_ _) | (with_reducible refine Kd.C_drew ?_))); (case side4 => exact (Kd.R_reads' HO500.out).2.1); rintro e w89 ⟨rfl, hb⟩; have n0_ := Aside0.mk (Kd.R_below (by (with_reducible repeat (first | apply Kd.R_alloc | apply Kd.R_drewN | apply Kd.R_drew)); exact HO_9.out) hb); have n1_ := Aside0.mk (Kd.S_below (by (with_reducible repeat (first | apply Kd.S_alloc | apply Kd.S_drewN | apply Kd.S_drew)); exact HO496.out) hb); have n2_ := Aside0.mk (Kd.R_below (by (with_reducible repeat (first | apply Kd.R_alloc | apply Kd.R_drewN | apply Kd.R_drew)); exact HO500.out) hb); have n3_ := Aside0.mk (Kd.R_below (by (with_reducible repeat (first | apply Kd.R_alloc | apply Kd.R_drewN | apply Kd.R_drew)); exact HO504.out) hb); have n4_ := Aside0.mk (below_step (by repeat (first | (with_reducible first | exact HB.out | apply below_alloc | apply pw_below_drewN | apply below_drew1) | exact HB.out)) hb); clear HO_9; clear HO496; clear HO500; clear HO504; clear HB; have HO_9 := n0_; have HO496 := n1_; have HO500 := n2_; have HO504 := n3_; have HB := n4_; clear n0_ n1_ n2_ n3_ n4_; (try clear hb); (try clear hb2); (try clear hk); (try clear hi)) | (go_at_call 24; (with_reducible refine (orreryref19_Size.calls k3 _ _ t497 t506 _ ?side1 ?side2 A76.out).mono ?_); (case side1 => repeat (first | exact (Kd.R_reads' HO500.out).2.2 | (with_reducible refine Kd.C_alloc ?_ _) | (with_reducible refine Kd.C_drewN ?_ _) | (with_reducible refine Kd.C_drew ?_))); (case side2 => exact (Kd.R_reads' HO500.out).2.1); rintro e w' ⟨rfl, ⟨nd, rfl⟩⟩) | (go_at_call 26; (with_reducible refine (orreryref19_Sum.calls k3 _ _ t494 _ _ t497 t507 _ ?side1 ?side2 ?side3 ?side4 A78.out).mono ?_); (case side1 => repeat (first | exact (Kd.S_reads' HO496.out).2.2 | (with_reducible refine Kd.C_alloc ?_ _) | (with_reducible refine Kd.C_drewN ?_ _) | (with_reducible refine Kd.C_drew ?_))); (case side2 => exact (Kd.S_reads' HO496.out).2.1); (case side3 => repeat (first | exact (Kd.R_reads' HO500.out).2.2 | (with_reducible refine Kd.C_alloc ?_ _) | (with_reducible refine Kd.C_drewN ?_ _) | (with_reducible refine Kd.C_drew ?_))); (case side4 => exact (Kd.R_reads' HO500.out).2.1); rintro e w' ⟨rfl, ⟨nd, rfl⟩⟩; obtain ⟨Ao90, co90, eo90⟩ := Kd.R_slice HO504.out; subst eo90) | (go_at_call 16; (with_reducible refine (orreryref19_Matching.calls k3 _ _ t494 (l0.length : Int) _ _ t501 true _ ?side1 ?side2 ?side3 ?side4 A80.out).mono ?_); (case side1 => repeat (first | exact (Kd.S_reads' HO496.out).2.2 | (with_reducible refine Kd.C_alloc ?_ _) | (with_reducible refine Kd.C_drewN ?_ _) | (with_reducible refine Kd.C_drew ?_))); (case side2 => exact (Kd.S_reads' HO496.out).2.1); (case side3 => repeat (first | exact (Kd.R_reads' HO504.out).2.2 | (with_reducible refine Kd.C_alloc ?_ _) | (with_reducible refine Kd.C_drewN ?_ _) | (with_reducible refine Kd.C_drew ?_))); (case side4 => exact (Kd.R_reads' HO504.out).2.1); rintro e w91 ⟨rfl, hb⟩; have n0_ := Aside0.mk (Kd.R_below (by (with_reducible repeat (first | apply Kd.R_alloc | apply Kd.R_drewN | apply Kd.R_drew)); exact HO_9.out) hb); have n1_ := Aside0.mk (Kd.S_below (by (with_reducible repeat (first | apply Kd.S_alloc | apply Kd.S_drewN | apply Kd.S_drew)); exact HO496.out) hb); have n2_ := Aside0.mk (Kd.R_below (by (with_reducible repeat (first | apply Kd.R_alloc | apply Kd.R_drewN | apply Kd.R_drew)); exact HO500.out) hb); have n3_ := Aside0.mk (Kd.R_below (by (with_reducible repeat (first | apply Kd.R_alloc | apply Kd.R_drewN | apply Kd.R_drew)); exact HO504.out) hb); have n4_ := Aside0.mk (below_step (by repeat (first | (with_reducible first | exact HB.out | apply below_alloc | apply pw_below_drewN | apply below_drew1) | exact HB.out)) hb); clear HO_9; clear HO496; clear HO500; clear HO504; clear HB; have HO_9 := n0_; have HO496 := n1_; have HO500 := n2_; have HO504 := n3_; have HB := n4_; clear n0_ n1_ n2_ n3_ n4_; (try clear hb); (try clear hb2); (try clear hk); (try clear hi)) | (go_at_call 24; (with_reducible refine (orreryref19_Size.calls k3 _ _ t501 t509 _ ?side1 ?side2 A82.out).mono ?_); (case side1 => repeat (first | exact (Kd.R_reads' HO504.out).2.2 | (with_reducible refine Kd.C_alloc ?_ _) | (with_reducible refine Kd.C_drewN ?_ _) | (with_reducible refine Kd.C_drew ?_))); (case side2 => exact (Kd.R_reads' HO504.out).2.1); rintro e w' ⟨rfl, ⟨nd, rfl⟩⟩))
       go_ret
       exact ⟨by first | rfl | (simp [errW_none, errW_some] <;> rfl) | (simp [*, errW_none, errW_some] <;> rfl), by repeat (first | (with_reducible first | exact HB.out | apply below_alloc | apply pw_below_drewN | apply below_drew1) | exact HB.out)⟩

end Go.Proofs.Ytamloclgignfgaa.PA
