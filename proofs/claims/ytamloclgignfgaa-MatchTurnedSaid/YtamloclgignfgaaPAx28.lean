/- What the Go functions of this part compute, as Lean functions, and that the machine's calls come to just that; written for this claim by a program of the session (gen.sh, after the kit's printer). -/
import Derived.Test.YtamloclgignfgaaPAx0
import Derived.Test.YtamloclgignfgaaSq
import Derived.Test.YtamloclgignfgaaPAx5
import Derived.Test.YtamloclgignfgaaPAx6
import Derived.Test.YtamloclgignfgaaPAx7
import Derived.Test.YtamloclgignfgaaPAx21
import Derived.Test.YtamloclgignfgaaPAx22
import Derived.Test.YtamloclgignfgaaPAx25
import Derived.Test.YtamloclgignfgaaGiven
namespace Go.Proofs.Ytamloclgignfgaa.PA
open Go.RowKit Go.Proofs.YtamloclgignfgaaW.PrintWords Go.Proofs.YtamloclgignfgaaW.PrintLast Go.Proofs.YtamloclgignfgaaW.PrintMore
attribute [local go_sem] max2_int min2_int max_two min_two max_three min_three max_four min_four   -- for this text's walks alone
set_option linter.unusedVariables false
set_option linter.unusedSimpArgs false

/-! ### orrerylaw19_MatchTurned: function 10 -/
mutual
def orrerylaw19_MatchTurned.j0 : Nat → Int → List (S40) → Int → Bool → Option (Bool)
  | 0, _, _, _, _ => none
  | k + 1, x0, x1, x2, x28 => if x28 = true then (some true) else (if x0 = 0 then (none) else (orrerylaw19_MatchTurned.l0 k x0 x1 (Int.tmod (wrap64 ((Int.tmod x2 x0) + x0)) x0) ([] : List (S40)) x1 (x1.length : Int) 0))
def orrerylaw19_MatchTurned.l0 : Nat → Int → List (S40) → Int → List (S40) → List (S40) → Int → Int → Option (Bool)
  | 0, _, _, _, _, _, _, _ => none
  | k + 1, x0, x1, x2, x7, x36, x37, x38 => if x38 < x37 then (if 0 ≤ x38 then (if x38 < (x36.length : Int) then (if x0 = 0 then (none) else (if x7.length < 5864062014805 then (orrerylaw19_MatchTurned.l0 k x0 x1 x2 (x7 ++ [(⟨(rd_T40 x36 x38).f1, Int.tmod (wrap64 (((rd_T40 x36 x38).f0) + x2)) x0, (rd_T40 x36 x38).f2⟩ : S40)]) x36 x37 (wrap64 (x38 + 1))) else (none))) else (none)) else (none)) else ((match_Most.f x0 x0 x1).bind fun bt568 => ((match_Most.f x0 x0 x7).bind fun bt572 => ((match_Assign.f k x0 x1).bind fun bt576 => ((match_Assign.f k x0 x7).bind fun bt580 => (if bt568.2 = 0 then (if bt572.2 = 0 then (if bt576.2 = bt580.2 then (if (bt568.1.length : Int) = x0 then (if (bt572.1.length : Int) = x0 then ((orreryref19_Size.f k bt568.1).bind fun t584 => ((orreryref19_Size.f k bt572.1).bind fun t585 => (orrerylaw19_MatchTurned.j2 k x0 x1 x7 bt568.1 bt576.1 bt576.2 bt580.1 (t584 != t585)))) else (orrerylaw19_MatchTurned.j2 k x0 x1 x7 bt568.1 bt576.1 bt576.2 bt580.1 true)) else (orrerylaw19_MatchTurned.j2 k x0 x1 x7 bt568.1 bt576.1 bt576.2 bt580.1 true)) else (orrerylaw19_MatchTurned.j2 k x0 x1 x7 bt568.1 bt576.1 bt576.2 bt580.1 true)) else (orrerylaw19_MatchTurned.j2 k x0 x1 x7 bt568.1 bt576.1 bt576.2 bt580.1 true)) else (orrerylaw19_MatchTurned.j2 k x0 x1 x7 bt568.1 bt576.1 bt576.2 bt580.1 true))))))
def orrerylaw19_MatchTurned.j2 : Nat → Int → List (S40) → List (S40) → List Int → List Int → Int → List Int → Bool → Option (Bool)
  | 0, _, _, _, _, _, _, _, _ => none
  | k + 1, x0, x1, x7, x10, x14, x15, x16, x112 => if x112 = true then (some false) else (if x15 = 0 then ((orreryref19_Table.f k x0 x0 x1).bind fun t587 => ((orreryref19_Table.f k x0 x0 x7).bind fun t590 => ((orreryref19_Size.f k x10).bind fun t593 => (if t593 = x0 then ((orreryref19_Matching.f k t587 x0 x14).bind fun t594 => (if t594 = true then ((orreryref19_Matching.f k t590 x0 x16).bind fun t595 => (if t595 = true then ((orreryref19_Size.f k x14).bind fun t596 => (if t596 = x0 then ((orreryref19_Size.f k x16).bind fun t597 => (if t597 = x0 then ((orreryref19_Sum.f k t587 x14).bind fun t598 => ((orreryref19_Sum.f k t590 x16).bind fun t599 => (some (t598 == t599)))) else (some false))) else (some false))) else (some false))) else (some false))) else (some false))))) else (if x15 = 190 then ((orreryref19_Size.f k x10).bind fun t586 => (some (decide (t586 < x0)))) else (some false)))
end
def orrerylaw19_MatchTurned.f (k : Nat) (a0 : Int) (l1 : List (S40)) (a2 : Int) : Option (Bool) := (orreryref19_Right.f k a0 a0 l1).bind fun t562 => (if t562 = true then (orrerylaw19_MatchTurned.j0 k a0 l1 a2 (a0 == 0)) else (orrerylaw19_MatchTurned.j0 k a0 l1 a2 true))
theorem orrerylaw19_MatchTurned.mono_l : ∀ k, (∀ y0 y1 y2 y3, LeO (orrerylaw19_MatchTurned.j0 k y0 y1 y2 y3) (orrerylaw19_MatchTurned.j0 (k + 1) y0 y1 y2 y3)) ∧ (∀ y0 y1 y2 y3 y4 y5 y6, LeO (orrerylaw19_MatchTurned.l0 k y0 y1 y2 y3 y4 y5 y6) (orrerylaw19_MatchTurned.l0 (k + 1) y0 y1 y2 y3 y4 y5 y6)) ∧ (∀ y0 y1 y2 y3 y4 y5 y6 y7, LeO (orrerylaw19_MatchTurned.j2 k y0 y1 y2 y3 y4 y5 y6 y7) (orrerylaw19_MatchTurned.j2 (k + 1) y0 y1 y2 y3 y4 y5 y6 y7))
  | 0 => ⟨fun _ _ _ _ r h => by simp [orrerylaw19_MatchTurned.j0] at h, fun _ _ _ _ _ _ _ r h => by simp [orrerylaw19_MatchTurned.l0] at h, fun _ _ _ _ _ _ _ _ r h => by simp [orrerylaw19_MatchTurned.j2] at h⟩
  | k + 1 => by
    obtain ⟨ih0, ih1, ih2⟩ := orrerylaw19_MatchTurned.mono_l k
    refine ⟨?_, ?_, ?_⟩
    · intro y0 y1 y2 y3
      unfold orrerylaw19_MatchTurned.j0
      repeat' first
      | (with_reducible exact ih0 _ _ _ _)
      | (with_reducible exact ih1 _ _ _ _ _ _ _)
      | (with_reducible exact ih2 _ _ _ _ _ _ _ _)
      | (with_reducible exact match_Assign.mono _ _ _)
      | (with_reducible exact orreryref19_Matching.mono _ _ _ _)
      | (with_reducible exact orreryref19_Right.mono _ _ _ _)
      | (with_reducible exact orreryref19_Size.mono _ _)
      | (with_reducible exact orreryref19_Sum.mono _ _ _)
      | (with_reducible exact orreryref19_Table.mono _ _ _ _)
      | (with_reducible exact LeO.refl _)
      | (with_reducible exact LeO.none _)
      | (with_reducible refine LeO.ite ?_ ?_)
      | (with_reducible refine LeO.bind ?_ (fun _ => ?_))
      | exact ih0 _ _ _ _
      | exact ih1 _ _ _ _ _ _ _
      | exact ih2 _ _ _ _ _ _ _ _
      | exact match_Assign.mono _ _ _
      | exact orreryref19_Matching.mono _ _ _ _
      | exact orreryref19_Right.mono _ _ _ _
      | exact orreryref19_Size.mono _ _
      | exact orreryref19_Sum.mono _ _ _
      | exact orreryref19_Table.mono _ _ _ _
      | exact LeO.none _
      | refine LeO.ite ?_ ?_
      | refine LeO.bind ?_ (fun _ => ?_)
    · intro y0 y1 y2 y3 y4 y5 y6
      unfold orrerylaw19_MatchTurned.l0
      repeat' first
      | (with_reducible exact ih0 _ _ _ _)
      | (with_reducible exact ih1 _ _ _ _ _ _ _)
      | (with_reducible exact ih2 _ _ _ _ _ _ _ _)
      | (with_reducible exact match_Assign.mono _ _ _)
      | (with_reducible exact orreryref19_Matching.mono _ _ _ _)
      | (with_reducible exact orreryref19_Right.mono _ _ _ _)
      | (with_reducible exact orreryref19_Size.mono _ _)
      | (with_reducible exact orreryref19_Sum.mono _ _ _)
      | (with_reducible exact orreryref19_Table.mono _ _ _ _)
      | (with_reducible exact LeO.refl _)
      | (with_reducible exact LeO.none _)
      | (with_reducible refine LeO.ite ?_ ?_)
      | (with_reducible refine LeO.bind ?_ (fun _ => ?_))
      | exact ih0 _ _ _ _
      | exact ih1 _ _ _ _ _ _ _
      | exact ih2 _ _ _ _ _ _ _ _
      | exact match_Assign.mono _ _ _
      | exact orreryref19_Matching.mono _ _ _ _
      | exact orreryref19_Right.mono _ _ _ _
      | exact orreryref19_Size.mono _ _
      | exact orreryref19_Sum.mono _ _ _
      | exact orreryref19_Table.mono _ _ _ _
      | exact LeO.none _
      | refine LeO.ite ?_ ?_
      | refine LeO.bind ?_ (fun _ => ?_)
    · intro y0 y1 y2 y3 y4 y5 y6 y7
      unfold orrerylaw19_MatchTurned.j2
      repeat' first
      | (with_reducible exact ih0 _ _ _ _)
      | (with_reducible exact ih1 _ _ _ _ _ _ _)
      | (with_reducible exact ih2 _ _ _ _ _ _ _ _)
      | (with_reducible exact match_Assign.mono _ _ _)
      | (with_reducible exact orreryref19_Matching.mono _ _ _ _)
      | (with_reducible exact orreryref19_Right.mono _ _ _ _)
      | (with_reducible exact orreryref19_Size.mono _ _)
      | (with_reducible exact orreryref19_Sum.mono _ _ _)
      | (with_reducible exact orreryref19_Table.mono _ _ _ _)
      | (with_reducible exact LeO.refl _)
      | (with_reducible exact LeO.none _)
      | (with_reducible refine LeO.ite ?_ ?_)
      | (with_reducible refine LeO.bind ?_ (fun _ => ?_))
      | exact ih0 _ _ _ _
      | exact ih1 _ _ _ _ _ _ _
      | exact ih2 _ _ _ _ _ _ _ _
      | exact match_Assign.mono _ _ _
      | exact orreryref19_Matching.mono _ _ _ _
      | exact orreryref19_Right.mono _ _ _ _
      | exact orreryref19_Size.mono _ _
      | exact orreryref19_Sum.mono _ _ _
      | exact orreryref19_Table.mono _ _ _ _
      | exact LeO.none _
      | refine LeO.ite ?_ ?_
      | refine LeO.bind ?_ (fun _ => ?_)
theorem orrerylaw19_MatchTurned.mono : ∀ a0 a1 a2 k, LeO (orrerylaw19_MatchTurned.f k a0 a1 a2) (orrerylaw19_MatchTurned.f (k + 1) a0 a1 a2) := by
 intro a0 a1 a2 k
 obtain ⟨ih0, ih1, ih2⟩ := orrerylaw19_MatchTurned.mono_l k
 unfold orrerylaw19_MatchTurned.f
 repeat' first
     | (with_reducible exact ih0 _ _ _ _)
     | (with_reducible exact ih1 _ _ _ _ _ _ _)
     | (with_reducible exact ih2 _ _ _ _ _ _ _ _)
     | (with_reducible exact match_Assign.mono _ _ _)
     | (with_reducible exact orreryref19_Matching.mono _ _ _ _)
     | (with_reducible exact orreryref19_Right.mono _ _ _ _)
     | (with_reducible exact orreryref19_Size.mono _ _)
     | (with_reducible exact orreryref19_Sum.mono _ _ _)
     | (with_reducible exact orreryref19_Table.mono _ _ _ _)
     | (with_reducible exact LeO.refl _)
     | (with_reducible exact LeO.none _)
     | (with_reducible refine LeO.ite ?_ ?_)
     | (with_reducible refine LeO.bind ?_ (fun _ => ?_))
     | exact ih0 _ _ _ _
     | exact ih1 _ _ _ _ _ _ _
     | exact ih2 _ _ _ _ _ _ _ _
     | exact match_Assign.mono _ _ _
     | exact orreryref19_Matching.mono _ _ _ _
     | exact orreryref19_Right.mono _ _ _ _
     | exact orreryref19_Size.mono _ _
     | exact orreryref19_Sum.mono _ _ _
     | exact orreryref19_Table.mono _ _ _ _
     | exact LeO.none _
     | refine LeO.ite ?_ ?_
     | refine LeO.bind ?_ (fun _ => ?_)
def orrerylaw19_MatchTurned.T8 : Bool × List (List Nat × List Nat) := (true, [([], []), ([], []), ([1], [1]), ([], []), ([3], [3]), ([], []), ([4, 5], [4, 5]), ([], []), ([6, 7], [6, 7]), ([], []), ([9], [9]), ([2, 8, 10], [2, 8, 10]), ([11], [11]), ([0, 12], [0, 12]), ([13, 13, 0, 1, 2, 3, 4, 5, 6, 7, 8, 9, 10, 11, 12, 13], [0, 13])])
def orrerylaw19_MatchTurned.B8 : List Nat := [0, 0, 2, 0, 8, 0, 56, 0, 248, 0, 512, 2046, 4094, 8191, 16383]
theorem orrerylaw19_MatchTurned.tab8 : rtab .any (opsOf Try.f10 8) = orrerylaw19_MatchTurned.T8 := by kernel_rfl
theorem orrerylaw19_MatchTurned.bits8 : waitsOk orrerylaw19_MatchTurned.T8.2 orrerylaw19_MatchTurned.B8 = true := by kernel_rfl
set_option maxHeartbeats 8000000 in
set_option maxRecDepth 100000 in
theorem orrerylaw19_MatchTurned.calls (k : Nat) (a0 : Int) (A1 : Option Addr) (c1 : Nat) (l1 : List (S40)) (a2 : Int) (r : Bool) (w : World) (hr1 : Kd.C k40 w A1 l1.length l1) (hc1 : l1.length ≤ c1) (h : orrerylaw19_MatchTurned.f k a0 l1 a2 = some r) :
    Calls Try.prog 10 #[.int .i64 a0, .slice A1 l1.length c1, .int .i64 a2] w fun e w' => e = .returned (.bool r) ∧ Below w.heap.size w w' := by
 have hu40 := Try.underlying40
 have HR1 := Aside0.mk hr1
 have HC1 := Aside0.mk hc1
 clear hr1 hc1
 have HB := Aside0.mk (Below.refl w.heap.size w)
 have H : ((orreryref19_Right.f k a0 a0 l1).bind fun t562 => (if t562 = true then (orrerylaw19_MatchTurned.j0 k a0 l1 a2 (a0 == 0)) else (orrerylaw19_MatchTurned.j0 k a0 l1 a2 true))) = some r := h
 clear h
 have HC4 := Aside0.mk H
 clear H
 go_enter Try.func10, Try.ntmps10
 go_upto_region 1 with (fail)
 go_cut [28] (fun v28 wc => ∃ (kq : Nat) (x28_3 : Bool), v28 = .bool x28_3 ∧ Aside0 (orrerylaw19_MatchTurned.j0 kq a0 l1 a2 x28_3 = some r) ∧ Aside0 (kq ≤ k) ∧ Aside0 (Below w.heap.size w wc))
 case first =>
  have H := HC4.out
  clear HC4
  replace H := Option.bind_eq_some_iff.mp H
  obtain ⟨t562, A50, H⟩ := H
  replace H : (if t562 = true then (orrerylaw19_MatchTurned.j0 k a0 l1 a2 (a0 == 0)) else (orrerylaw19_MatchTurned.j0 k a0 l1 a2 true)) = some r := H
  have A5 := Aside0.mk A50
  clear A50
  by_cases c6 : t562 = true
  case pos =>
   subst c6
   have H1 : (orrerylaw19_MatchTurned.j0 k a0 l1 a2 (a0 == 0)) = some r := by rw [if_pos rfl] at H; exact H
   clear H
   have H := H1
   clear H1
   have H' := Aside0.mk H
   clear H
   go_wp2_with (first | ((with_reducible refine gate_callee (f := 14) rfl ?_); refine goesL_ (some 23) rfl rfl Try.func14 (by kernel_rfl) rfl #[.int .i64 a0, .int .i64 a0, .slice A1 l1.length c1] rfl (by (try simp only [List.map_toArray, List.map_cons, List.map_nil]); first | done | rfl | (simp only [List.length_drop, List.length_take]; rfl)) ?_; (with_reducible refine (orreryref19_Right.calls k a0 a0 _ _ l1 true _ ?side1 ?side2 A5.out).mono ?_); (case side1 => repeat (first | exact (Kd.C_below HR1.out HB.out) | (with_reducible refine Kd.C_alloc ?_ _) | (with_reducible refine Kd.C_drewN ?_ _) | (with_reducible refine Kd.C_drew ?_))); (case side2 => exact HC1.out); rintro e w7 ⟨rfl, hb⟩; refine ⟨_, rfl, ?_⟩; have n0_ := Aside0.mk (below_step (by repeat (first | (with_reducible first | exact HB.out | apply below_alloc | apply pw_below_drewN | apply below_drew1) | exact HB.out)) hb); clear HB; have HB := n0_; clear n0_; (try clear hb); (try clear hb2); (try clear hk); (try clear hi)))
   go_meet
   case rel => exact ⟨_, ((a0 == 0)), (by first | rfl | (simp; done) | (simp [*]; done)), H', ⟨by first | omega | exact Nat.le_refl _⟩, ⟨by repeat (first | (with_reducible first | exact HB.out | apply below_alloc | apply pw_below_drewN | apply below_drew1) | exact HB.out)⟩⟩
  replace c6 := Bool.eq_false_iff.mpr c6
  subst c6
  have H1 : (orrerylaw19_MatchTurned.j0 k a0 l1 a2 true) = some r := by rw [if_neg (show ¬ (false = true) by decide)] at H; exact H
  clear H
  have H := H1
  clear H1
  have H' := Aside0.mk H
  clear H
  go_wp2_with (first | ((with_reducible refine gate_callee (f := 14) rfl ?_); refine goesL_ (some 23) rfl rfl Try.func14 (by kernel_rfl) rfl #[.int .i64 a0, .int .i64 a0, .slice A1 l1.length c1] rfl (by (try simp only [List.map_toArray, List.map_cons, List.map_nil]); first | done | rfl | (simp only [List.length_drop, List.length_take]; rfl)) ?_; (with_reducible refine (orreryref19_Right.calls k a0 a0 _ _ l1 false _ ?side1 ?side2 A5.out).mono ?_); (case side1 => repeat (first | exact (Kd.C_below HR1.out HB.out) | (with_reducible refine Kd.C_alloc ?_ _) | (with_reducible refine Kd.C_drewN ?_ _) | (with_reducible refine Kd.C_drew ?_))); (case side2 => exact HC1.out); rintro e w8 ⟨rfl, hb⟩; refine ⟨_, rfl, ?_⟩; have n0_ := Aside0.mk (below_step (by repeat (first | (with_reducible first | exact HB.out | apply below_alloc | apply pw_below_drewN | apply below_drew1) | exact HB.out)) hb); clear HB; have HB := n0_; clear n0_; (try clear hb); (try clear hb2); (try clear hk); (try clear hi)))
  go_meet
  case rel => exact ⟨_, (true), (by first | rfl | (simp; done) | (simp [*]; done)), H', ⟨by first | omega | exact Nat.le_refl _⟩, ⟨by repeat (first | (with_reducible first | exact HB.out | apply below_alloc | apply pw_below_drewN | apply below_drew1) | exact HB.out)⟩⟩
 case rest =>
  clear HC4
  try clear c1
  try clear p2
  try clear c6
  obtain ⟨kq, x28_3, rfl, HA, HJ3, HB⟩ := hcut
  cases kq with
  | zero => exact absurd HA.out (by simp [orrerylaw19_MatchTurned.j0])
  | succ kj3 =>
   have H := HA.out
   clear HA
   simp only [orrerylaw19_MatchTurned.j0] at H
   by_cases c9 : x28_3 = true
   case pos =>
    subst c9
    have H1 : (some true) = some r := by rw [if_pos rfl] at H; exact H
    clear H
    have H := H1
    clear H1
    obtain rfl := Option.some.inj H
    go_wp2
    go_ret
    exact ⟨by first | rfl | (simp [errW_none, errW_some] <;> rfl) | (simp [*, errW_none, errW_some] <;> rfl), by repeat (first | (with_reducible first | exact HB.out | apply below_alloc | apply pw_below_drewN | apply below_drew1) | exact HB.out)⟩
   replace c9 := Bool.eq_false_iff.mpr c9
   subst c9
   have H1 : (if a0 = 0 then (none) else (orrerylaw19_MatchTurned.l0 kj3 a0 l1 (Int.tmod (wrap64 ((Int.tmod a2 a0) + a0)) a0) ([] : List (S40)) l1 (l1.length : Int) 0)) = some r := by rw [if_neg (show ¬ (false = true) by decide)] at H; exact H
   clear H
   have H := H1
   clear H1
   by_cases c10 : a0 = 0
   case pos => rw [if_pos c10] at H; exact absurd H (by simp)
   rw [if_neg c10] at H
   have c10b0 : (a0 == 0) = false := beq_eq_false_iff_ne.mpr c10
   have c10b1 : (a0 != 0) = true := bne_iff_ne.mpr c10
   have H' := Aside0.mk H
   clear H
   go_wp2
   go_loopg [7, 38] kj3 (fun kq v7 v38 w' => ∃ (x7_2 : List (S40)) (x38_2 : Int), v38 = .int .i64 x38_2 ∧ Aside0 (orrerylaw19_MatchTurned.l0 kq a0 l1 (Int.tmod (wrap64 ((Int.tmod a2 a0) + a0)) a0) x7_2 l1 (l1.length : Int) x38_2 = some r) ∧ Aside0 (kq ≤ kj3) ∧ Aside0 (Kd.R k40 40 w' w.heap.size (fun _ => True) v7 x7_2) ∧ Aside0 (Below w.heap.size w w'))
   case atStart => exact ⟨(([] : List (S40))), (0), (by first | rfl | (simp; done) | (simp [*]; done)), H', ⟨Nat.le_refl _⟩, ⟨by first | exact Kd.R_nil _ _ _ _ _ | exact Kd.N_nil _ _ _ _ _ | exact Kd.V_nil _ _ _ _ _ | exact Kd.Q_nil _ _ _ _ _ | exact Kd.S_nil _ _ _ _ _⟩, ⟨by repeat (first | (with_reducible first | exact HB.out | apply below_alloc | apply pw_below_drewN | apply below_drew1) | exact HB.out)⟩⟩
   case round =>
    clear H'
    try clear c1
    try clear p2
    try clear c6
    try clear p6
    try clear c9
    try clear c10
    try clear c10b0
    try clear c10b1
    try clear p2
    obtain ⟨x7_2, x38_2, rfl, HA, HK2, HO_7, HB⟩ := hrel
    cases gk with
    | zero => exact absurd HA.out (by simp [orrerylaw19_MatchTurned.l0])
    | succ k2 =>
     have H := HA.out
     clear HA
     simp only [orrerylaw19_MatchTurned.l0] at H
     by_cases c11 : x38_2 < (l1.length : Int)
     case pos =>
      rw [if_pos c11] at H
      have c11b0 : decide (x38_2 < (l1.length : Int)) = true := decide_eq_true c11
      clear c11
      by_cases c12 : 0 ≤ x38_2
      case neg => rw [if_neg c12] at H; exact absurd H (by simp)
      rw [if_pos c12] at H
      have c12b0 : decide (0 ≤ x38_2) = true := decide_eq_true c12
      clear c12
      by_cases c13 : x38_2 < (l1.length : Int)
      case neg => rw [if_neg c13] at H; exact absurd H (by simp)
      rw [if_pos c13] at H
      have c13b0 : decide (x38_2 < (l1.length : Int)) = true := decide_eq_true c13
      clear c13
      by_cases c14 : a0 = 0
      case pos => rw [if_pos c14] at H; exact absurd H (by simp)
      rw [if_neg c14] at H
      have c14b0 : (a0 == 0) = false := beq_eq_false_iff_ne.mpr c14
      have c14b1 : (a0 != 0) = true := bne_iff_ne.mpr c14
      by_cases c15 : x7_2.length < 5864062014805
      case neg => rw [if_neg c15] at H; exact absurd H (by simp)
      rw [if_pos c15] at H
      have LMc15 := Aside0.mk c15
      clear c15
      obtain ⟨y565, hy565⟩ : ∃ y_ : List (S40), y_ = (x7_2 ++ [(⟨(rd_T40 l1 x38_2).f1, Int.tmod (wrap64 (((rd_T40 l1 x38_2).f0) + (Int.tmod (wrap64 ((Int.tmod a2 a0) + a0)) a0))) a0, (rd_T40 l1 x38_2).f2⟩ : S40)]) := ⟨_, rfl⟩
      replace H : (orrerylaw19_MatchTurned.l0 k2 a0 l1 (Int.tmod (wrap64 ((Int.tmod a2 a0) + a0)) a0) y565 l1 (l1.length : Int) (wrap64 (x38_2 + 1))) = some r := by first | (rw [hy565]; with_reducible exact H) | (have H2_ := (Option.bind_some _ _).symm.trans H; rw [hy565]; with_reducible exact H2_) | (have H2_ := (Option.bind_some _ _).symm.trans H; with_reducible exact H2_) | with_reducible exact H | (rw [hy565]; exact H) | exact H
      have Ny565 := Aside0.mk hy565
      clear hy565
      have H' := Aside0.mk H
      clear H
      have p563 : 0 ≤ (x38_2 : Int) := of_decide_eq_true (by first | (with_reducible assumption) | assumption)
      have q563 : x38_2 < (l1.length : Int) := of_decide_eq_true (by first | (with_reducible assumption) | assumption)
      obtain ⟨ad563, e563, hx563_0, hx563_1, hx563_2⟩ := at_T40 HR1.out x38_2 p563 q563
      cases e563
      replace hx563_0 := (HB.out.cell (World.block_lt_of_cell? w _ hx563_0)).trans hx563_0
      replace hx563_1 := (HB.out.cell (World.block_lt_of_cell? w _ hx563_1)).trans hx563_1
      replace hx563_2 := (HB.out.cell (World.block_lt_of_cell? w _ hx563_2)).trans hx563_2
      replace p563 := eq_true p563
      replace q563 := eq_true q563
      try go_wp2_with (first | ((with_reducible refine gate_dst (N := 9) rfl ?_); (try (refine gate_guard (by rfl) ?_; dsimp only)); refine box_event ?hg (N := 9) ?hd (cs := #[.int .i64 0, .int .i64 0, .int .i64 0]) (t := 40) ?hr ?_; (case hd => rfl); (case hg => rfl); (case hr => first | (go_simp; done) | (go_simp; rfl)); intro gb564 hg w16 hbox hb; have n0_ := Aside0.mk (Kd.R_below (Kd.R_elderB (by (with_reducible repeat (first | apply Kd.R_alloc | apply Kd.R_drewN | apply Kd.R_drew)); exact HO_7.out) gb564 (Nat.le_of_eq hg.symm)) hb); have n1_ := Aside0.mk (below_step (by repeat (first | (with_reducible first | exact HB.out | apply below_alloc | apply pw_below_drewN | apply below_drew1) | exact HB.out)) hb); have n2_ := Aside0.mk (hbox); have n3_ := Aside0.mk ((by rw [hg]; exact (below_size (by repeat (first | (with_reducible first | exact HB.out | apply below_alloc | apply pw_below_drewN | apply below_drew1) | exact HB.out))) : w.heap.size ≤ gb564)); have n4_ := Aside0.mk ((by rw [hg]; exact (below_size (by repeat (first | (with_reducible first | exact HB.out | apply below_alloc | apply pw_below_drewN | apply below_drew1) | exact HB.out))) : w.heap.size ≤ gb564)); clear HO_7; clear HB; have HO_7 := n0_; have HB := n1_; have BK564 := n2_; have GW564 := n3_; have GE564 := n4_; clear n0_ n1_ n2_ n3_ n4_; clear hb hbox hg; have hcz17_0 : w16.cell? ⟨gb564, 0, none⟩ = some (.int .i64 0) := (blk_cell BK564.out 0).trans rfl; have hcz17_1 : w16.cell? ⟨gb564, 1, none⟩ = some (.int .i64 0) := (blk_cell BK564.out 1).trans rfl; have hcz17_2 : w16.cell? ⟨gb564, 2, none⟩ = some (.int .i64 0) := (blk_cell BK564.out 2).trans rfl; have hfz17_0 := blk_frozen BK564.out 0; have hfz17_1 := blk_frozen BK564.out 1; have hfz17_2 := blk_frozen BK564.out 2))
      have n0_ : Aside0 (Kd.R k40 40 (((w16.setCell ⟨gb564, 0, none⟩ (.int .i64 ((rd_T40 l1 x38_2).f0))).setCell ⟨gb564, 1, none⟩ (.int .i64 ((rd_T40 l1 x38_2).f1))).setCell ⟨gb564, 2, none⟩ (.int .i64 ((rd_T40 l1 x38_2).f2))) w.heap.size (fun k_ => k_ ≠ gb564) u7 x7_2) := ⟨by (with_reducible repeat (first | apply Kd.R_alloc | apply Kd.R_drewN | apply Kd.R_drew)); exact Kd.R_mono (Kd.R_far (p := ⟨gb564, 2, none⟩) (Kd.R_far (p := ⟨gb564, 1, none⟩) (Kd.R_far (p := ⟨gb564, 0, none⟩) (Kd.R_mono HO_7.out (fun k_ hk => (⟨hk, hk.2⟩ : _ ∧ k_ ≠ gb564))) (fun _ hk => hk.2) (.int .i64 ((rd_T40 l1 x38_2).f0))) (fun _ hk => hk.2) (.int .i64 ((rd_T40 l1 x38_2).f1))) (fun _ hk => hk.2) (.int .i64 ((rd_T40 l1 x38_2).f2))) (fun _ hk => hk.1.2)⟩
      have n1_ : Aside0 ((((w16.setCell ⟨gb564, 0, none⟩ (.int .i64 ((rd_T40 l1 x38_2).f0))).setCell ⟨gb564, 1, none⟩ (.int .i64 ((rd_T40 l1 x38_2).f1))).setCell ⟨gb564, 2, none⟩ (.int .i64 ((rd_T40 l1 x38_2).f2))).heap[gb564]? = some (.cells #[.int .i64 ((rd_T40 l1 x38_2).f0), .int .i64 ((rd_T40 l1 x38_2).f1), .int .i64 ((rd_T40 l1 x38_2).f2)] 40 (0, 0))) := ⟨by (with_reducible repeat (first | refine blk_drewN ?_ _ | refine blk_drew ?_ | refine blk_alloc ?_ _)); refine blk_put (cs := #[.int .i64 ((rd_T40 l1 x38_2).f0), .int .i64 ((rd_T40 l1 x38_2).f1), .int .i64 0]) ?_ 2 _ rfl; (with_reducible repeat (first | refine blk_drewN ?_ _ | refine blk_drew ?_ | refine blk_alloc ?_ _)); refine blk_put (cs := #[.int .i64 ((rd_T40 l1 x38_2).f0), .int .i64 0, .int .i64 0]) ?_ 1 _ rfl; (with_reducible repeat (first | refine blk_drewN ?_ _ | refine blk_drew ?_ | refine blk_alloc ?_ _)); refine blk_put (cs := #[.int .i64 0, .int .i64 0, .int .i64 0]) ?_ 0 _ rfl; (with_reducible repeat (first | refine blk_drewN ?_ _ | refine blk_drew ?_ | refine blk_alloc ?_ _)); exact BK564.out⟩
      have n2_ : Aside0 (Below w.heap.size w (((w16.setCell ⟨gb564, 0, none⟩ (.int .i64 ((rd_T40 l1 x38_2).f0))).setCell ⟨gb564, 1, none⟩ (.int .i64 ((rd_T40 l1 x38_2).f1))).setCell ⟨gb564, 2, none⟩ (.int .i64 ((rd_T40 l1 x38_2).f2)))) := ⟨by repeat (first | (with_reducible first | exact HB.out | apply below_alloc | apply pw_below_drewN | apply below_drew1 | refine below_set ?_ GE564.out) | exact HB.out)⟩
      (try clear HO_7)
      (try clear BK564)
      (try clear HB)
      generalize (((w16.setCell ⟨gb564, 0, none⟩ (.int .i64 ((rd_T40 l1 x38_2).f0))).setCell ⟨gb564, 1, none⟩ (.int .i64 ((rd_T40 l1 x38_2).f1))).setCell ⟨gb564, 2, none⟩ (.int .i64 ((rd_T40 l1 x38_2).f2))) = w18 at n0_ n1_ n2_ ⊢
      have HO_7 := n0_
      have BK564 := n1_
      have HB := n2_
      clear n0_ n1_ n2_
      have n0_ := Aside0.mk (Kd.R_drew HO_7.out)
      have n1_ := Aside0.mk (blk_drew BK564.out)
      have n2_ := Aside0.mk (below_drew1 HB.out)
      clear HO_7
      clear BK564
      clear HB
      have HO_7 := n0_
      have BK564 := n1_
      have HB := n2_
      clear n0_ n1_ n2_
      refine start_ (n := 15) (S := fun w' => w'.cell? ⟨gb564, 0, none⟩ = some (.int .i64 ((rd_T40 l1 x38_2).f0)) ∧ w'.cell? ⟨gb564, 1, none⟩ = some (.int .i64 ((rd_T40 l1 x38_2).f1)) ∧ w'.cell? ⟨gb564, 2, none⟩ = some (.int .i64 ((rd_T40 l1 x38_2).f2))) (ds := []) (msk 15 0) (by kernel_rfl) rfl rfl ⟨(blk_cell BK564.out 0).trans rfl, (blk_cell BK564.out 1).trans rfl, (blk_cell BK564.out 2).trans rfl⟩ (fun hHeld => ?_); refine with_tabW orrerylaw19_MatchTurned.tab8 orrerylaw19_MatchTurned.bits8 (fun HT_ HW_ => ?_)
      generalize w18.drew = w19 at HO_7 BK564 HB hHeld ⊢
      refine pu_ 0 42 (msk 15 1) HT_.out ?_ ?_ ?_ ?_ ?_
      rotate_left
      · intro w'; go_simp; with_reducible rfl
      rotate_left
      · simp only [Act.put, sq, i64_w, i32_w]; rfl
      refine pu_ 1 43 (msk 15 3) HT_.out ?_ ?_ ?_ ?_ ?_
      rotate_left
      · intro w'; go_simp; with_reducible rfl
      rotate_left
      · simp only [Act.put, sq, i64_w, i32_w]; rfl
      refine pu_ 3 45 (msk 15 11) HT_.out ?_ ?_ ?_ ?_ ?_
      rotate_left
      · intro w'; go_simp; with_reducible rfl
      rotate_left
      · simp only [Act.put, sq, i64_w, i32_w]; rfl
      refine pu_ 5 47 (msk 15 43) HT_.out ?_ ?_ ?_ ?_ ?_
      rotate_left
      · intro w'; go_simp; with_reducible rfl
      rotate_left
      · simp only [Act.put, sq, i64_w, i32_w]; rfl
      refine pu_ 7 49 (msk 15 171) HT_.out ?_ ?_ ?_ ?_ ?_
      rotate_left
      · intro w'; go_simp; with_reducible rfl
      rotate_left
      · simp only [Act.put, sq, i64_w, i32_w]; rfl
      refine pu_ 9 51 (msk 15 683) HT_.out ?_ ?_ ?_ ?_ ?_
      rotate_left
      · intro w'; go_simp; with_reducible rfl
      rotate_left
      · simp only [Act.put, sq, i64_w, i32_w]; rfl
      refine tk_ 2 44 (msk 15 687) HT_.out HW_.out hHeld ?_ ?_ ?_ ?_ ?_
      rotate_left
      · rintro w' ⟨s0, s1, s2⟩; go_simp; with_reducible rfl
      rotate_left
      · simp only [Act.put, sq, i64_w, i32_w]; rfl
      refine tk_ 4 46 (msk 15 703) HT_.out HW_.out hHeld ?_ ?_ ?_ ?_ ?_
      rotate_left
      · rintro w' ⟨s0, s1, s2⟩; go_simp; with_reducible rfl
      rotate_left
      · simp only [Act.put, sq, i64_w, i32_w]; rfl
      refine pu_ 6 48 (msk 15 767) HT_.out ?_ ?_ ?_ ?_ ?_
      rotate_left
      · intro w'; go_simp; with_reducible rfl
      rotate_left
      · simp only [Act.put, sq, i64_w, i32_w]; rfl
      refine pu_ 8 50 (msk 15 1023) HT_.out ?_ ?_ ?_ ?_ ?_
      rotate_left
      · intro w'; go_simp; with_reducible rfl
      rotate_left
      · simp only [Act.put, sq, i64_w, i32_w]; rfl
      refine tk_ 10 52 (msk 15 2047) HT_.out HW_.out hHeld ?_ ?_ ?_ ?_ ?_
      rotate_left
      · rintro w' ⟨s0, s1, s2⟩; go_simp; with_reducible rfl
      rotate_left
      · simp only [Act.put, sq, i64_w, i32_w]; rfl
      refine pu_ 11 53 (msk 15 4095) HT_.out ?_ ?_ ?_ ?_ ?_
      rotate_left
      · intro w'; go_simp; with_reducible rfl
      rotate_left
      · simp only [Act.put, sq, i64_w, i32_w]; rfl
      refine one_ (i := 12) (N := some 54) (msk 15 8191) rfl rfl (one_of HT_.out (by kernel_rfl)) (by decide) (fun K hK => ?_)
      refine value_ (w1 := ?_) (v := ?_) (by rfl) rfl ?_ ?_
      rotate_left 2
      · go_simp
        constructor
        · rfl
        · rfl
      refine hK.out _ _ ⟨(blk_cell (blk_alloc BK564.out _) 0).trans rfl, (blk_cell (blk_alloc BK564.out _) 1).trans rfl, (blk_cell (blk_alloc BK564.out _) 2).trans rfl⟩ (fun hHeld => ?_)
      clear hK K
      refine norm_ (a' := ?_) ?_ ?_
      rotate_left
      · show Act.put _ (some 54) _ = _
        simp only [Act.put, sq, i64_w, i32_w]
        rfl
      refine one_ (i := 13) (N := some 55) (msk 15 16383) rfl rfl (one_of HT_.out (by kernel_rfl)) (by decide) (fun K hK => ?_)
      refine Kd.R_append_step k40 (w0 := w) w.heap.size (by rfl) (.tmp 42) (.tmp 54) 22 40 (.agg #[(.int .i64 0), (.int .i64 0), (.int .i64 0)]) 24 rfl Try.underlying22 info40 rfl (by decide) (by omega) u7 x7_2 (⟨(rd_T40 l1 x38_2).f1, Int.tmod (wrap64 (((rd_T40 l1 x38_2).f0) + (Int.tmod (wrap64 ((Int.tmod a2 a0) + a0)) a0))) a0, (rd_T40 l1 x38_2).f2⟩ : S40) [.int .i64 ((rd_T40 l1 x38_2).f1), .int .i64 (Int.tmod (wrap64 (((rd_T40 l1 x38_2).f0) + (Int.tmod (wrap64 ((Int.tmod a2 a0) + a0)) a0))) a0), .int .i64 ((rd_T40 l1 x38_2).f2)] (fun k_ => k_ ≠ gb564) (fun _ => False) rfl rfl ?aP (fun _ hk => hk.elim) ?aF ?aO ?aB ?aS ?aL ?_
      (case aP => exact k40_mkM _ _ _ (⟨(rd_T40 l1 x38_2).f1, Int.tmod (wrap64 (((rd_T40 l1 x38_2).f0) + (Int.tmod (wrap64 ((Int.tmod a2 a0) + a0)) a0))) a0, (rd_T40 l1 x38_2).f2⟩ : S40))
      (case aB => exact (by repeat (first | (with_reducible first | exact HB.out | apply below_alloc | apply pw_below_drewN | apply below_drew1 | refine below_set ?_ GE564.out) | exact HB.out)))
      (case aF => exact (fun k_ hk => Kd.freshB (g := gb564) (o := .cells #[.int .i64 ((rd_T40 l1 x38_2).f0), .int .i64 ((rd_T40 l1 x38_2).f1), .int .i64 ((rd_T40 l1 x38_2).f2)] 40 (0, 0)) (by (with_reducible repeat (first | refine blk_drewN ?_ _ | refine blk_drew ?_ | refine blk_alloc ?_ _)); exact BK564.out) k_ hk))
      (case aO => exact (by (with_reducible repeat (first | apply Kd.R_alloc | apply Kd.R_drewN | apply Kd.R_drew)); exact HO_7.out))
      (case aS => exact (below_size (by repeat (first | (with_reducible first | exact HB.out | apply below_alloc | apply pw_below_drewN | apply below_drew1 | refine below_set ?_ GE564.out) | exact HB.out))))
      (case aL => have := LMc15.out; omega)
      intro v566 w20 ho hb hg hat
      rw [← Ny565.out] at ho
      have n0_ := Aside0.mk (blk_grown (g := gb564) (o := .cells #[.int .i64 ((rd_T40 l1 x38_2).f0), .int .i64 ((rd_T40 l1 x38_2).f1), .int .i64 ((rd_T40 l1 x38_2).f2)] 40 (0, 0)) (by (with_reducible repeat (first | refine blk_drewN ?_ _ | refine blk_drew ?_ | refine blk_alloc ?_ _)); exact BK564.out) hg (Kd.R_away HO_7.out (fun _ hk => hk)))
      have n1_ := Aside0.mk (hb)
      have n2_ := Aside0.mk (ho)
      clear BK564
      clear HB
      clear HO_7
      have BK564 := n0_
      have HB := n1_
      have HO567 := n2_
      clear n0_ n1_ n2_
      clear ho hb hg hat
      refine hK.out _ _ ⟨(blk_cell BK564.out 0).trans rfl, (blk_cell BK564.out 1).trans rfl, (blk_cell BK564.out 2).trans rfl⟩ (fun hHeld => ?_)
      clear hK K
      refine norm_ (a' := ?_) ?_ ?_
      rotate_left
      · show Act.put _ (some 55) _ = _
        simp only [Act.put, sq, i64_w, i32_w]
        rfl
      refine pu_ 14 7 (msk 15 32767) HT_.out ?_ ?_ ?_ ?_ ?_
      rotate_left
      · intro w'; go_simp; with_reducible rfl
      rotate_left
      · simp only [Act.put, sq, i64_w, i32_w]; rfl
      refine done_ (done_of HT_.out (by kernel_rfl)) ?_
      try go_wp2
      (first | go_roundg k2 | (refine Handed.intro k2 ?measure ?_; rotate_left; go_step; (repeat apply Exists.intro); (refine ⟨?rel, ?fr_⟩); (case fr_ => (simp only [add_plain]; rfl))))
      case measure => have := HJ3.out; have := HK2.out; omega
      case rel => exact ⟨(y565), (wrap64 (x38_2 + 1)), (by first | rfl | (simp; done) | (simp [*]; done)), H', ⟨by have := HJ3.out; have := HK2.out; omega⟩, ⟨by (with_reducible repeat (first | apply Kd.R_alloc | apply Kd.R_drewN | apply Kd.R_drew)); exact Kd.R_mono HO567.out (fun _ hk => trivial)⟩, ⟨by repeat (first | (with_reducible first | exact HB.out | apply below_alloc | apply pw_below_drewN | apply below_drew1 | refine below_set ?_ GE564.out) | exact HB.out)⟩⟩
     rw [if_neg c11] at H
     have c11b0 : decide (x38_2 < (l1.length : Int)) = false := decide_eq_false c11
     clear c11
     replace H := Option.bind_eq_some_iff.mp H
     obtain ⟨⟨t568, t569⟩, A210, H⟩ := H
     replace H : ((match_Most.f a0 a0 x7_2).bind fun bt572 => ((match_Assign.f k2 a0 l1).bind fun bt576 => ((match_Assign.f k2 a0 x7_2).bind fun bt580 => (if t569 = 0 then (if bt572.2 = 0 then (if bt576.2 = bt580.2 then (if (t568.length : Int) = a0 then (if (bt572.1.length : Int) = a0 then ((orreryref19_Size.f k2 t568).bind fun t584 => ((orreryref19_Size.f k2 bt572.1).bind fun t585 => (orrerylaw19_MatchTurned.j2 k2 a0 l1 x7_2 t568 bt576.1 bt576.2 bt580.1 (t584 != t585)))) else (orrerylaw19_MatchTurned.j2 k2 a0 l1 x7_2 t568 bt576.1 bt576.2 bt580.1 true)) else (orrerylaw19_MatchTurned.j2 k2 a0 l1 x7_2 t568 bt576.1 bt576.2 bt580.1 true)) else (orrerylaw19_MatchTurned.j2 k2 a0 l1 x7_2 t568 bt576.1 bt576.2 bt580.1 true)) else (orrerylaw19_MatchTurned.j2 k2 a0 l1 x7_2 t568 bt576.1 bt576.2 bt580.1 true)) else (orrerylaw19_MatchTurned.j2 k2 a0 l1 x7_2 t568 bt576.1 bt576.2 bt580.1 true))))) = some r := H
     have A21 := Aside0.mk A210
     clear A210
     replace H := Option.bind_eq_some_iff.mp H
     obtain ⟨⟨t572, t573⟩, A220, H⟩ := H
     replace H : ((match_Assign.f k2 a0 l1).bind fun bt576 => ((match_Assign.f k2 a0 x7_2).bind fun bt580 => (if t569 = 0 then (if t573 = 0 then (if bt576.2 = bt580.2 then (if (t568.length : Int) = a0 then (if (t572.length : Int) = a0 then ((orreryref19_Size.f k2 t568).bind fun t584 => ((orreryref19_Size.f k2 t572).bind fun t585 => (orrerylaw19_MatchTurned.j2 k2 a0 l1 x7_2 t568 bt576.1 bt576.2 bt580.1 (t584 != t585)))) else (orrerylaw19_MatchTurned.j2 k2 a0 l1 x7_2 t568 bt576.1 bt576.2 bt580.1 true)) else (orrerylaw19_MatchTurned.j2 k2 a0 l1 x7_2 t568 bt576.1 bt576.2 bt580.1 true)) else (orrerylaw19_MatchTurned.j2 k2 a0 l1 x7_2 t568 bt576.1 bt576.2 bt580.1 true)) else (orrerylaw19_MatchTurned.j2 k2 a0 l1 x7_2 t568 bt576.1 bt576.2 bt580.1 true)) else (orrerylaw19_MatchTurned.j2 k2 a0 l1 x7_2 t568 bt576.1 bt576.2 bt580.1 true)))) = some r := H
     have A22 := Aside0.mk A220
     clear A220
     replace H := Option.bind_eq_some_iff.mp H
     obtain ⟨⟨t576, t577⟩, A230, H⟩ := H
     replace H : ((match_Assign.f k2 a0 x7_2).bind fun bt580 => (if t569 = 0 then (if t573 = 0 then (if t577 = bt580.2 then (if (t568.length : Int) = a0 then (if (t572.length : Int) = a0 then ((orreryref19_Size.f k2 t568).bind fun t584 => ((orreryref19_Size.f k2 t572).bind fun t585 => (orrerylaw19_MatchTurned.j2 k2 a0 l1 x7_2 t568 t576 t577 bt580.1 (t584 != t585)))) else (orrerylaw19_MatchTurned.j2 k2 a0 l1 x7_2 t568 t576 t577 bt580.1 true)) else (orrerylaw19_MatchTurned.j2 k2 a0 l1 x7_2 t568 t576 t577 bt580.1 true)) else (orrerylaw19_MatchTurned.j2 k2 a0 l1 x7_2 t568 t576 t577 bt580.1 true)) else (orrerylaw19_MatchTurned.j2 k2 a0 l1 x7_2 t568 t576 t577 bt580.1 true)) else (orrerylaw19_MatchTurned.j2 k2 a0 l1 x7_2 t568 t576 t577 bt580.1 true))) = some r := H
     have A23 := Aside0.mk A230
     clear A230
     replace H := Option.bind_eq_some_iff.mp H
     obtain ⟨⟨t580, t581⟩, A240, H⟩ := H
     replace H : (if t569 = 0 then (if t573 = 0 then (if t577 = t581 then (if (t568.length : Int) = a0 then (if (t572.length : Int) = a0 then ((orreryref19_Size.f k2 t568).bind fun t584 => ((orreryref19_Size.f k2 t572).bind fun t585 => (orrerylaw19_MatchTurned.j2 k2 a0 l1 x7_2 t568 t576 t577 t580 (t584 != t585)))) else (orrerylaw19_MatchTurned.j2 k2 a0 l1 x7_2 t568 t576 t577 t580 true)) else (orrerylaw19_MatchTurned.j2 k2 a0 l1 x7_2 t568 t576 t577 t580 true)) else (orrerylaw19_MatchTurned.j2 k2 a0 l1 x7_2 t568 t576 t577 t580 true)) else (orrerylaw19_MatchTurned.j2 k2 a0 l1 x7_2 t568 t576 t577 t580 true)) else (orrerylaw19_MatchTurned.j2 k2 a0 l1 x7_2 t568 t576 t577 t580 true)) = some r := H
     have A24 := Aside0.mk A240
     clear A240
     have HC25 := Aside0.mk H
     clear H
     go_upto_region 14 with (first | ((with_reducible refine gate_callee (f := 13) rfl ?_); refine goesL_ (some 61) rfl rfl Try.func13 (by kernel_rfl) rfl #[.int .i64 a0, .int .i64 a0, .slice A1 l1.length c1] rfl (by (try simp only [List.map_toArray, List.map_cons, List.map_nil]); first | done | rfl | (simp only [List.length_drop, List.length_take]; rfl)) ?_; (with_reducible refine (match_Most.calls a0 a0 _ _ l1 t568 t569 _ ?side1 ?side2 A21.out).mono ?_); (case side1 => repeat (first | exact (Kd.C_below HR1.out HB.out) | (with_reducible refine Kd.C_alloc ?_ _) | (with_reducible refine Kd.C_drewN ?_ _) | (with_reducible refine Kd.C_drew ?_))); (case side2 => exact HC1.out); rintro e w26 ⟨v570, rfl, ho0, hb⟩; refine ⟨_, rfl, ?_⟩; have n0_ := Aside0.mk (Kd.R_below (by (with_reducible repeat (first | apply Kd.R_alloc | apply Kd.R_drewN | apply Kd.R_drew)); exact HO_7.out) hb); have n1_ := Aside0.mk (Kd.R_lower ho0 (below_size (by repeat (first | (with_reducible first | exact HB.out | apply below_alloc | apply pw_below_drewN | apply below_drew1) | exact HB.out)))); have n2_ := Aside0.mk (below_step (by repeat (first | (with_reducible first | exact HB.out | apply below_alloc | apply pw_below_drewN | apply below_drew1) | exact HB.out)) hb); clear HO_7; clear HB; have HO_7 := n0_; have HO571 := n1_; have HB := n2_; clear n0_ n1_ n2_; (try clear hb); (try clear hb2); (try clear hk); (try clear hi); (try clear ho0); obtain ⟨Ao27, co27, eo27⟩ := Kd.R_slice HO_7.out; subst eo27) | ((with_reducible refine gate_callee (f := 13) rfl ?_); refine goesL_ (some 68) rfl rfl Try.func13 (by kernel_rfl) rfl #[.int .i64 a0, .int .i64 a0, .slice Ao27 x7_2.length co27] rfl (by (try simp only [List.map_toArray, List.map_cons, List.map_nil]); first | done | rfl | (simp only [List.length_drop, List.length_take]; rfl)) ?_; (with_reducible refine (match_Most.calls a0 a0 _ _ x7_2 t572 t573 _ ?side1 ?side2 A22.out).mono ?_); (case side1 => repeat (first | exact (Kd.R_reads' HO_7.out).2.2 | (with_reducible refine Kd.C_alloc ?_ _) | (with_reducible refine Kd.C_drewN ?_ _) | (with_reducible refine Kd.C_drew ?_))); (case side2 => exact (Kd.R_reads' HO_7.out).2.1); rintro e w28 ⟨v574, rfl, ho0, hb⟩; refine ⟨_, rfl, ?_⟩; have n0_ := Aside0.mk (Kd.R_below (by (with_reducible repeat (first | apply Kd.R_alloc | apply Kd.R_drewN | apply Kd.R_drew)); exact HO_7.out) hb); have n1_ := Aside0.mk (Kd.R_elder' (by (with_reducible repeat (first | apply Kd.R_alloc | apply Kd.R_drewN | apply Kd.R_drew)); exact HO571.out) (Kd.R_base ho0) hb); have n2_ := Aside0.mk (Kd.R_lower (Kd.R_new' ho0 (Kd.R_lt (by (with_reducible repeat (first | apply Kd.R_alloc | apply Kd.R_drewN | apply Kd.R_drew)); exact HO571.out))) (below_size (by repeat (first | (with_reducible first | exact HB.out | apply below_alloc | apply pw_below_drewN | apply below_drew1) | exact HB.out)))); have n3_ := Aside0.mk (below_step (by repeat (first | (with_reducible first | exact HB.out | apply below_alloc | apply pw_below_drewN | apply below_drew1) | exact HB.out)) hb); clear HO_7; clear HO571; clear HB; have HO_7 := n0_; have HO571 := n1_; have HO575 := n2_; have HB := n3_; clear n0_ n1_ n2_ n3_; (try clear hb); (try clear hb2); (try clear hk); (try clear hi); (try clear ho0)) | ((with_reducible refine gate_callee (f := 23) rfl ?_); refine goesL_ (some 74) rfl rfl Try.func23 (by kernel_rfl) rfl #[.int .i64 a0, .slice A1 l1.length c1] rfl (by (try simp only [List.map_toArray, List.map_cons, List.map_nil]); first | done | rfl | (simp only [List.length_drop, List.length_take]; rfl)) ?_; (with_reducible refine (match_Assign.calls k2 a0 _ _ l1 t576 t577 _ ?side1 ?side2 A23.out).mono ?_); (case side1 => repeat (first | exact (Kd.C_below HR1.out HB.out) | (with_reducible refine Kd.C_alloc ?_ _) | (with_reducible refine Kd.C_drewN ?_ _) | (with_reducible refine Kd.C_drew ?_))); (case side2 => exact HC1.out); rintro e w29 ⟨v578, rfl, ho0, hb⟩; refine ⟨_, rfl, ?_⟩; have n0_ := Aside0.mk (Kd.R_below (by (with_reducible repeat (first | apply Kd.R_alloc | apply Kd.R_drewN | apply Kd.R_drew)); exact HO_7.out) hb); have n1_ := Aside0.mk (Kd.R_elder' (by (with_reducible repeat (first | apply Kd.R_alloc | apply Kd.R_drewN | apply Kd.R_drew)); exact HO571.out) (Kd.R_base ho0) hb); have n2_ := Aside0.mk (Kd.R_elder' (by (with_reducible repeat (first | apply Kd.R_alloc | apply Kd.R_drewN | apply Kd.R_drew)); exact HO575.out) (Kd.R_base ho0) hb); have n3_ := Aside0.mk (Kd.R_lower (Kd.R_new' (Kd.R_new' ho0 (Kd.R_lt (by (with_reducible repeat (first | apply Kd.R_alloc | apply Kd.R_drewN | apply Kd.R_drew)); exact HO571.out))) (Kd.R_lt (by (with_reducible repeat (first | apply Kd.R_alloc | apply Kd.R_drewN | apply Kd.R_drew)); exact HO575.out))) (below_size (by repeat (first | (with_reducible first | exact HB.out | apply below_alloc | apply pw_below_drewN | apply below_drew1) | exact HB.out)))); have n4_ := Aside0.mk (below_step (by repeat (first | (with_reducible first | exact HB.out | apply below_alloc | apply pw_below_drewN | apply below_drew1) | exact HB.out)) hb); clear HO_7; clear HO571; clear HO575; clear HB; have HO_7 := n0_; have HO571 := n1_; have HO575 := n2_; have HO579 := n3_; have HB := n4_; clear n0_ n1_ n2_ n3_ n4_; (try clear hb); (try clear hb2); (try clear hk); (try clear hi); (try clear ho0)) | ((with_reducible refine gate_callee (f := 23) rfl ?_); refine goesL_ (some 80) rfl rfl Try.func23 (by kernel_rfl) rfl #[.int .i64 a0, .slice Ao27 x7_2.length co27] rfl (by (try simp only [List.map_toArray, List.map_cons, List.map_nil]); first | done | rfl | (simp only [List.length_drop, List.length_take]; rfl)) ?_; (with_reducible refine (match_Assign.calls k2 a0 _ _ x7_2 t580 t581 _ ?side1 ?side2 A24.out).mono ?_); (case side1 => repeat (first | exact (Kd.R_reads' HO_7.out).2.2 | (with_reducible refine Kd.C_alloc ?_ _) | (with_reducible refine Kd.C_drewN ?_ _) | (with_reducible refine Kd.C_drew ?_))); (case side2 => exact (Kd.R_reads' HO_7.out).2.1); rintro e w30 ⟨v582, rfl, ho0, hb⟩; refine ⟨_, rfl, ?_⟩; have n0_ := Aside0.mk (Kd.R_below (by (with_reducible repeat (first | apply Kd.R_alloc | apply Kd.R_drewN | apply Kd.R_drew)); exact HO_7.out) hb); have n1_ := Aside0.mk (Kd.R_elder' (by (with_reducible repeat (first | apply Kd.R_alloc | apply Kd.R_drewN | apply Kd.R_drew)); exact HO571.out) (Kd.R_base ho0) hb); have n2_ := Aside0.mk (Kd.R_elder' (by (with_reducible repeat (first | apply Kd.R_alloc | apply Kd.R_drewN | apply Kd.R_drew)); exact HO575.out) (Kd.R_base ho0) hb); have n3_ := Aside0.mk (Kd.R_elder' (by (with_reducible repeat (first | apply Kd.R_alloc | apply Kd.R_drewN | apply Kd.R_drew)); exact HO579.out) (Kd.R_base ho0) hb); have n4_ := Aside0.mk (Kd.R_lower (Kd.R_new' (Kd.R_new' (Kd.R_new' ho0 (Kd.R_lt (by (with_reducible repeat (first | apply Kd.R_alloc | apply Kd.R_drewN | apply Kd.R_drew)); exact HO571.out))) (Kd.R_lt (by (with_reducible repeat (first | apply Kd.R_alloc | apply Kd.R_drewN | apply Kd.R_drew)); exact HO575.out))) (Kd.R_lt (by (with_reducible repeat (first | apply Kd.R_alloc | apply Kd.R_drewN | apply Kd.R_drew)); exact HO579.out))) (below_size (by repeat (first | (with_reducible first | exact HB.out | apply below_alloc | apply pw_below_drewN | apply below_drew1) | exact HB.out)))); have n5_ := Aside0.mk (below_step (by repeat (first | (with_reducible first | exact HB.out | apply below_alloc | apply pw_below_drewN | apply below_drew1) | exact HB.out)) hb); clear HO_7; clear HO571; clear HO575; clear HO579; clear HB; have HO_7 := n0_; have HO571 := n1_; have HO575 := n2_; have HO579 := n3_; have HO583 := n4_; have HB := n5_; clear n0_ n1_ n2_ n3_ n4_ n5_; (try clear hb); (try clear hb2); (try clear hk); (try clear hi); (try clear ho0)))
     (try simp only [Act.put, List.setIfInBounds_toArray, List.set_cons_zero, List.set_cons_succ])
     go_cut [112] (fun v112 wc => ∃ (kq : Nat) (x112_24 : Bool), v112 = .bool x112_24 ∧ Aside0 (orrerylaw19_MatchTurned.j2 kq a0 l1 x7_2 t568 t576 t577 t580 x112_24 = some r) ∧ Aside0 (kq ≤ k2) ∧ Aside0 (Kd.R k40 40 wc w.heap.size (fun _ => True) (.slice Ao27 x7_2.length co27) x7_2) ∧ Aside0 (Kd.R (Kd.int .i64) 3 wc w.heap.size (fun k_ => some k_ ≠ (v578 : Value).ownBlock ∧ some k_ ≠ (v582 : Value).ownBlock) v570 t568) ∧ Aside0 (Kd.R (Kd.int .i64) 3 wc w.heap.size (fun k_ => some k_ ≠ (v570 : Value).ownBlock ∧ some k_ ≠ (v582 : Value).ownBlock) v578 t576) ∧ Aside0 (Kd.R (Kd.int .i64) 3 wc w.heap.size (fun k_ => some k_ ≠ (v570 : Value).ownBlock ∧ some k_ ≠ (v578 : Value).ownBlock) v582 t580) ∧ Aside0 (Below w.heap.size w wc))
     case first =>
      have H := HC25.out
      clear HC25
      by_cases c31 : t569 = 0
      case neg =>
       rw [if_neg c31] at H
       have c31b0 : (t569 == 0) = false := beq_eq_false_iff_ne.mpr c31
       have c31b1 : (t569 != 0) = true := bne_iff_ne.mpr c31
       (first | rw [c31b0] | (simp only [i64_w, i32_w]; rw [c31b0]) | skip)
       have H' := Aside0.mk H
       clear H
       go_wp2
       go_meet
       case rel => exact ⟨_, (true), (by first | rfl | (simp; done) | (simp [*]; done)), H', ⟨by have := HJ3.out; have := HK2.out; first | omega | exact Nat.le_refl _⟩, ⟨by (with_reducible repeat (first | apply Kd.R_alloc | apply Kd.R_drewN | apply Kd.R_drew)); exact HO_7.out⟩, ⟨by (with_reducible repeat (first | apply Kd.R_alloc | apply Kd.R_drewN | apply Kd.R_drew)); exact Kd.R_mono HO571.out (fun _ hk => ⟨hk.1.2, hk.2⟩)⟩, ⟨by (with_reducible repeat (first | apply Kd.R_alloc | apply Kd.R_drewN | apply Kd.R_drew)); exact Kd.R_mono HO579.out (fun _ hk => ⟨hk.1.1.2, hk.2⟩)⟩, ⟨by (with_reducible repeat (first | apply Kd.R_alloc | apply Kd.R_drewN | apply Kd.R_drew)); exact Kd.R_mono HO583.out (fun _ hk => ⟨hk.1.1.2, hk.2⟩)⟩, ⟨by repeat (first | (with_reducible first | exact HB.out | apply below_alloc | apply pw_below_drewN | apply below_drew1) | exact HB.out)⟩⟩
      rw [if_pos c31] at H
      have c31b0 : (t569 == 0) = true := beq_iff_eq.mpr c31
      have c31b1 : (t569 != 0) = false := bne_eq_false_iff_eq.mpr c31
      clear c31
      (first | rw [c31b0] | (simp only [i64_w, i32_w]; rw [c31b0]) | skip)
      by_cases c32 : t573 = 0
      case neg =>
       rw [if_neg c32] at H
       have c32b0 : (t573 == 0) = false := beq_eq_false_iff_ne.mpr c32
       have c32b1 : (t573 != 0) = true := bne_iff_ne.mpr c32
       have H' := Aside0.mk H
       clear H
       go_wp2
       go_meet
       case rel => exact ⟨_, (true), (by first | rfl | (simp; done) | (simp [*]; done)), H', ⟨by have := HJ3.out; have := HK2.out; first | omega | exact Nat.le_refl _⟩, ⟨by (with_reducible repeat (first | apply Kd.R_alloc | apply Kd.R_drewN | apply Kd.R_drew)); exact HO_7.out⟩, ⟨by (with_reducible repeat (first | apply Kd.R_alloc | apply Kd.R_drewN | apply Kd.R_drew)); exact Kd.R_mono HO571.out (fun _ hk => ⟨hk.1.2, hk.2⟩)⟩, ⟨by (with_reducible repeat (first | apply Kd.R_alloc | apply Kd.R_drewN | apply Kd.R_drew)); exact Kd.R_mono HO579.out (fun _ hk => ⟨hk.1.1.2, hk.2⟩)⟩, ⟨by (with_reducible repeat (first | apply Kd.R_alloc | apply Kd.R_drewN | apply Kd.R_drew)); exact Kd.R_mono HO583.out (fun _ hk => ⟨hk.1.1.2, hk.2⟩)⟩, ⟨by repeat (first | (with_reducible first | exact HB.out | apply below_alloc | apply pw_below_drewN | apply below_drew1) | exact HB.out)⟩⟩
      rw [if_pos c32] at H
      have c32b0 : (t573 == 0) = true := beq_iff_eq.mpr c32
      have c32b1 : (t573 != 0) = false := bne_eq_false_iff_eq.mpr c32
      clear c32
      by_cases c33 : t577 = t581
      case neg =>
       rw [if_neg c33] at H
       have c33b0 : (t577 == t581) = false := beq_eq_false_iff_ne.mpr c33
       have c33b1 : (t577 != t581) = true := bne_iff_ne.mpr c33
       have H' := Aside0.mk H
       clear H
       go_wp2
       go_meet
       case rel => exact ⟨_, (true), (by first | rfl | (simp; done) | (simp [*]; done)), H', ⟨by have := HJ3.out; have := HK2.out; first | omega | exact Nat.le_refl _⟩, ⟨by (with_reducible repeat (first | apply Kd.R_alloc | apply Kd.R_drewN | apply Kd.R_drew)); exact HO_7.out⟩, ⟨by (with_reducible repeat (first | apply Kd.R_alloc | apply Kd.R_drewN | apply Kd.R_drew)); exact Kd.R_mono HO571.out (fun _ hk => ⟨hk.1.2, hk.2⟩)⟩, ⟨by (with_reducible repeat (first | apply Kd.R_alloc | apply Kd.R_drewN | apply Kd.R_drew)); exact Kd.R_mono HO579.out (fun _ hk => ⟨hk.1.1.2, hk.2⟩)⟩, ⟨by (with_reducible repeat (first | apply Kd.R_alloc | apply Kd.R_drewN | apply Kd.R_drew)); exact Kd.R_mono HO583.out (fun _ hk => ⟨hk.1.1.2, hk.2⟩)⟩, ⟨by repeat (first | (with_reducible first | exact HB.out | apply below_alloc | apply pw_below_drewN | apply below_drew1) | exact HB.out)⟩⟩
      rw [if_pos c33] at H
      have c33b0 : (t577 == t581) = true := beq_iff_eq.mpr c33
      have c33b1 : (t577 != t581) = false := bne_eq_false_iff_eq.mpr c33
      clear c33
      by_cases c34 : (t568.length : Int) = a0
      case neg =>
       rw [if_neg c34] at H
       have c34b0 : ((t568.length : Int) == a0) = false := beq_eq_false_iff_ne.mpr c34
       have c34b1 : ((t568.length : Int) != a0) = true := bne_iff_ne.mpr c34
       have H' := Aside0.mk H
       clear H
       obtain ⟨Ao42, co42, eo42⟩ := Kd.R_slice HO571.out
       subst eo42
       go_wp2
       go_meet
       case rel => exact ⟨_, (true), (by first | rfl | (simp; done) | (simp [*]; done)), H', ⟨by have := HJ3.out; have := HK2.out; first | omega | exact Nat.le_refl _⟩, ⟨by (with_reducible repeat (first | apply Kd.R_alloc | apply Kd.R_drewN | apply Kd.R_drew)); exact HO_7.out⟩, ⟨by (with_reducible repeat (first | apply Kd.R_alloc | apply Kd.R_drewN | apply Kd.R_drew)); exact Kd.R_mono HO571.out (fun _ hk => ⟨hk.1.2, hk.2⟩)⟩, ⟨by (with_reducible repeat (first | apply Kd.R_alloc | apply Kd.R_drewN | apply Kd.R_drew)); exact Kd.R_mono HO579.out (fun _ hk => ⟨hk.1.1.2, hk.2⟩)⟩, ⟨by (with_reducible repeat (first | apply Kd.R_alloc | apply Kd.R_drewN | apply Kd.R_drew)); exact Kd.R_mono HO583.out (fun _ hk => ⟨hk.1.1.2, hk.2⟩)⟩, ⟨by repeat (first | (with_reducible first | exact HB.out | apply below_alloc | apply pw_below_drewN | apply below_drew1) | exact HB.out)⟩⟩
      rw [if_pos c34] at H
      have c34b0 : ((t568.length : Int) == a0) = true := beq_iff_eq.mpr c34
      have c34b1 : ((t568.length : Int) != a0) = false := bne_eq_false_iff_eq.mpr c34
      clear c34
      by_cases c35 : (t572.length : Int) = a0
      case neg =>
       rw [if_neg c35] at H
       have c35b0 : ((t572.length : Int) == a0) = false := beq_eq_false_iff_ne.mpr c35
       have c35b1 : ((t572.length : Int) != a0) = true := bne_iff_ne.mpr c35
       have H' := Aside0.mk H
       clear H
       obtain ⟨Ao40, co40, eo40⟩ := Kd.R_slice HO571.out
       subst eo40
       obtain ⟨Ao41, co41, eo41⟩ := Kd.R_slice HO575.out
       subst eo41
       go_wp2
       go_meet
       case rel => exact ⟨_, (true), (by first | rfl | (simp; done) | (simp [*]; done)), H', ⟨by have := HJ3.out; have := HK2.out; first | omega | exact Nat.le_refl _⟩, ⟨by (with_reducible repeat (first | apply Kd.R_alloc | apply Kd.R_drewN | apply Kd.R_drew)); exact HO_7.out⟩, ⟨by (with_reducible repeat (first | apply Kd.R_alloc | apply Kd.R_drewN | apply Kd.R_drew)); exact Kd.R_mono HO571.out (fun _ hk => ⟨hk.1.2, hk.2⟩)⟩, ⟨by (with_reducible repeat (first | apply Kd.R_alloc | apply Kd.R_drewN | apply Kd.R_drew)); exact Kd.R_mono HO579.out (fun _ hk => ⟨hk.1.1.2, hk.2⟩)⟩, ⟨by (with_reducible repeat (first | apply Kd.R_alloc | apply Kd.R_drewN | apply Kd.R_drew)); exact Kd.R_mono HO583.out (fun _ hk => ⟨hk.1.1.2, hk.2⟩)⟩, ⟨by repeat (first | (with_reducible first | exact HB.out | apply below_alloc | apply pw_below_drewN | apply below_drew1) | exact HB.out)⟩⟩
      rw [if_pos c35] at H
      have c35b0 : ((t572.length : Int) == a0) = true := beq_iff_eq.mpr c35
      have c35b1 : ((t572.length : Int) != a0) = false := bne_eq_false_iff_eq.mpr c35
      clear c35
      replace H := Option.bind_eq_some_iff.mp H
      obtain ⟨t584, A360, H⟩ := H
      replace H : ((orreryref19_Size.f k2 t572).bind fun t585 => (orrerylaw19_MatchTurned.j2 k2 a0 l1 x7_2 t568 t576 t577 t580 (t584 != t585))) = some r := H
      have A36 := Aside0.mk A360
      clear A360
      replace H := Option.bind_eq_some_iff.mp H
      obtain ⟨t585, A370, H⟩ := H
      replace H : (orrerylaw19_MatchTurned.j2 k2 a0 l1 x7_2 t568 t576 t577 t580 (t584 != t585)) = some r := H
      have A37 := Aside0.mk A370
      clear A370
      have H' := Aside0.mk H
      clear H
      obtain ⟨Ao38, co38, eo38⟩ := Kd.R_slice HO571.out
      subst eo38
      obtain ⟨Ao39, co39, eo39⟩ := Kd.R_slice HO575.out
      subst eo39
      go_wp2_with (first | (go_at_call 24; (with_reducible refine (orreryref19_Size.calls k2 _ _ t568 t584 _ ?side1 ?side2 A36.out).mono ?_); (case side1 => repeat (first | exact (Kd.R_reads' HO571.out).2.2 | (with_reducible refine Kd.C_alloc ?_ _) | (with_reducible refine Kd.C_drewN ?_ _) | (with_reducible refine Kd.C_drew ?_))); (case side2 => exact (Kd.R_reads' HO571.out).2.1); rintro e w' ⟨rfl, ⟨nd, rfl⟩⟩) | (go_at_call 24; (with_reducible refine (orreryref19_Size.calls k2 _ _ t572 t585 _ ?side1 ?side2 A37.out).mono ?_); (case side1 => repeat (first | exact (Kd.R_reads' HO575.out).2.2 | (with_reducible refine Kd.C_alloc ?_ _) | (with_reducible refine Kd.C_drewN ?_ _) | (with_reducible refine Kd.C_drew ?_))); (case side2 => exact (Kd.R_reads' HO575.out).2.1); rintro e w' ⟨rfl, ⟨nd, rfl⟩⟩))
      go_meet
      case rel => exact ⟨_, ((t584 != t585)), (by first | rfl | (simp; done) | (simp [*]; done)), H', ⟨by have := HJ3.out; have := HK2.out; first | omega | exact Nat.le_refl _⟩, ⟨by (with_reducible repeat (first | apply Kd.R_alloc | apply Kd.R_drewN | apply Kd.R_drew)); exact HO_7.out⟩, ⟨by (with_reducible repeat (first | apply Kd.R_alloc | apply Kd.R_drewN | apply Kd.R_drew)); exact Kd.R_mono HO571.out (fun _ hk => ⟨hk.1.2, hk.2⟩)⟩, ⟨by (with_reducible repeat (first | apply Kd.R_alloc | apply Kd.R_drewN | apply Kd.R_drew)); exact Kd.R_mono HO579.out (fun _ hk => ⟨hk.1.1.2, hk.2⟩)⟩, ⟨by (with_reducible repeat (first | apply Kd.R_alloc | apply Kd.R_drewN | apply Kd.R_drew)); exact Kd.R_mono HO583.out (fun _ hk => ⟨hk.1.1.2, hk.2⟩)⟩, ⟨by repeat (first | (with_reducible first | exact HB.out | apply below_alloc | apply pw_below_drewN | apply below_drew1) | exact HB.out)⟩⟩
     case rest =>
      clear HC25
      try clear c1
      try clear c2
      try clear p2
      try clear c3
      try clear p5
      try clear q5
      try clear hx5
      try clear c6
      try clear p6
      try clear c9
      try clear c10
      try clear c10b0
      try clear c10b1
      try clear c11
      try clear c11b0
      try clear c12
      try clear c12b0
      try clear c13
      try clear c13b0
      try clear c14
      try clear c14b0
      try clear c14b1
      try clear c15
      try clear c23
      try clear c31
      try clear c31b0
      try clear c31b1
      try clear c32
      try clear c32b0
      try clear c32b1
      try clear c33
      try clear c33b0
      try clear c33b1
      try clear c34
      try clear c34b0
      try clear c34b1
      try clear c35
      try clear c35b0
      try clear c35b1
      try clear hcz17_0
      try clear hcz17_1
      try clear hcz17_2
      try clear hfz17_0
      try clear hfz17_1
      try clear hfz17_2
      try clear hx563_0
      try clear hx563_1
      try clear hx563_2
      try clear p2
      try clear p563
      try clear p6
      try clear q563
      obtain ⟨kq, x112_24, rfl, HA, HJ24, HO_7, HO_10, HO_14, HO_16, HB⟩ := hcut
      cases kq with
      | zero => exact absurd HA.out (by simp [orrerylaw19_MatchTurned.j2])
      | succ kj24 =>
       have H := HA.out
       clear HA
       simp only [orrerylaw19_MatchTurned.j2] at H
       by_cases c43 : x112_24 = true
       case pos =>
        subst c43
        have H1 : (some false) = some r := by rw [if_pos rfl] at H; exact H
        clear H
        have H := H1
        clear H1
        obtain rfl := Option.some.inj H
        go_wp2
        go_ret
        exact ⟨by first | rfl | (simp [errW_none, errW_some] <;> rfl) | (simp [*, errW_none, errW_some] <;> rfl), by repeat (first | (with_reducible first | exact HB.out | apply below_alloc | apply pw_below_drewN | apply below_drew1) | exact HB.out)⟩
       replace c43 := Bool.eq_false_iff.mpr c43
       subst c43
       have H1 : (if t577 = 0 then ((orreryref19_Table.f kj24 a0 a0 l1).bind fun t587 => ((orreryref19_Table.f kj24 a0 a0 x7_2).bind fun t590 => ((orreryref19_Size.f kj24 t568).bind fun t593 => (if t593 = a0 then ((orreryref19_Matching.f kj24 t587 a0 t576).bind fun t594 => (if t594 = true then ((orreryref19_Matching.f kj24 t590 a0 t580).bind fun t595 => (if t595 = true then ((orreryref19_Size.f kj24 t576).bind fun t596 => (if t596 = a0 then ((orreryref19_Size.f kj24 t580).bind fun t597 => (if t597 = a0 then ((orreryref19_Sum.f kj24 t587 t576).bind fun t598 => ((orreryref19_Sum.f kj24 t590 t580).bind fun t599 => (some (t598 == t599)))) else (some false))) else (some false))) else (some false))) else (some false))) else (some false))))) else (if t577 = 190 then ((orreryref19_Size.f kj24 t568).bind fun t586 => (some (decide (t586 < a0)))) else (some false))) = some r := by rw [if_neg (show ¬ (false = true) by decide)] at H; exact H
       clear H
       have H := H1
       clear H1
       by_cases c44 : t577 = 0
       case neg =>
        rw [if_neg c44] at H
        have c44b0 : (t577 == 0) = false := beq_eq_false_iff_ne.mpr c44
        have c44b1 : (t577 != 0) = true := bne_iff_ne.mpr c44
        by_cases c104 : t577 = 190
        case neg =>
         rw [if_neg c104] at H
         have c104b0 : (t577 == 190) = false := beq_eq_false_iff_ne.mpr c104
         have c104b1 : (t577 != 190) = true := bne_iff_ne.mpr c104
         obtain rfl := Option.some.inj H
         go_wp2
         go_ret
         exact ⟨by first | rfl | (simp [errW_none, errW_some] <;> rfl) | (simp [*, errW_none, errW_some] <;> rfl), by repeat (first | (with_reducible first | exact HB.out | apply below_alloc | apply pw_below_drewN | apply below_drew1) | exact HB.out)⟩
        rw [if_pos c104] at H
        have c104b0 : (t577 == 190) = true := beq_iff_eq.mpr c104
        have c104b1 : (t577 != 190) = false := bne_eq_false_iff_eq.mpr c104
        clear c104
        replace H := Option.bind_eq_some_iff.mp H
        obtain ⟨t586, A1050, H⟩ := H
        replace H : (some (decide (t586 < a0))) = some r := H
        have A105 := Aside0.mk A1050
        clear A1050
        obtain rfl := Option.some.inj H
        obtain ⟨Ao106, co106, eo106⟩ := Kd.R_slice HO_10.out
        subst eo106
        go_wp2_with (first | (go_at_call 24; (with_reducible refine (orreryref19_Size.calls kj24 _ _ t568 t586 _ ?side1 ?side2 A105.out).mono ?_); (case side1 => repeat (first | exact (Kd.R_reads' HO_10.out).2.2 | (with_reducible refine Kd.C_alloc ?_ _) | (with_reducible refine Kd.C_drewN ?_ _) | (with_reducible refine Kd.C_drew ?_))); (case side2 => exact (Kd.R_reads' HO_10.out).2.1); rintro e w' ⟨rfl, ⟨nd, rfl⟩⟩))
        go_ret
        exact ⟨by first | rfl | (simp [errW_none, errW_some] <;> rfl) | (simp [*, errW_none, errW_some] <;> rfl), by repeat (first | (with_reducible first | exact HB.out | apply below_alloc | apply pw_below_drewN | apply below_drew1) | exact HB.out)⟩
       rw [if_pos c44] at H
       have c44b0 : (t577 == 0) = true := beq_iff_eq.mpr c44
       have c44b1 : (t577 != 0) = false := bne_eq_false_iff_eq.mpr c44
       clear c44
       replace H := Option.bind_eq_some_iff.mp H
       obtain ⟨t587, A450, H⟩ := H
       replace H : ((orreryref19_Table.f kj24 a0 a0 x7_2).bind fun t590 => ((orreryref19_Size.f kj24 t568).bind fun t593 => (if t593 = a0 then ((orreryref19_Matching.f kj24 t587 a0 t576).bind fun t594 => (if t594 = true then ((orreryref19_Matching.f kj24 t590 a0 t580).bind fun t595 => (if t595 = true then ((orreryref19_Size.f kj24 t576).bind fun t596 => (if t596 = a0 then ((orreryref19_Size.f kj24 t580).bind fun t597 => (if t597 = a0 then ((orreryref19_Sum.f kj24 t587 t576).bind fun t598 => ((orreryref19_Sum.f kj24 t590 t580).bind fun t599 => (some (t598 == t599)))) else (some false))) else (some false))) else (some false))) else (some false))) else (some false)))) = some r := H
       have A45 := Aside0.mk A450
       clear A450
       replace H := Option.bind_eq_some_iff.mp H
       obtain ⟨t590, A460, H⟩ := H
       replace H : ((orreryref19_Size.f kj24 t568).bind fun t593 => (if t593 = a0 then ((orreryref19_Matching.f kj24 t587 a0 t576).bind fun t594 => (if t594 = true then ((orreryref19_Matching.f kj24 t590 a0 t580).bind fun t595 => (if t595 = true then ((orreryref19_Size.f kj24 t576).bind fun t596 => (if t596 = a0 then ((orreryref19_Size.f kj24 t580).bind fun t597 => (if t597 = a0 then ((orreryref19_Sum.f kj24 t587 t576).bind fun t598 => ((orreryref19_Sum.f kj24 t590 t580).bind fun t599 => (some (t598 == t599)))) else (some false))) else (some false))) else (some false))) else (some false))) else (some false))) = some r := H
       have A46 := Aside0.mk A460
       clear A460
       replace H := Option.bind_eq_some_iff.mp H
       obtain ⟨t593, A470, H⟩ := H
       replace H : (if t593 = a0 then ((orreryref19_Matching.f kj24 t587 a0 t576).bind fun t594 => (if t594 = true then ((orreryref19_Matching.f kj24 t590 a0 t580).bind fun t595 => (if t595 = true then ((orreryref19_Size.f kj24 t576).bind fun t596 => (if t596 = a0 then ((orreryref19_Size.f kj24 t580).bind fun t597 => (if t597 = a0 then ((orreryref19_Sum.f kj24 t587 t576).bind fun t598 => ((orreryref19_Sum.f kj24 t590 t580).bind fun t599 => (some (t598 == t599)))) else (some false))) else (some false))) else (some false))) else (some false))) else (some false)) = some r := H
       have A47 := Aside0.mk A470
       clear A470
       by_cases c48 : t593 = a0
       case neg =>
        rw [if_neg c48] at H
        have c48b0 : (t593 == a0) = false := beq_eq_false_iff_ne.mpr c48
        have c48b1 : (t593 != a0) = true := bne_iff_ne.mpr c48
        obtain rfl := Option.some.inj H
        go_wp2_with (first | ((with_reducible refine gate_callee (f := 15) rfl ?_); refine goesL_ (some 126) rfl rfl Try.func15 (by kernel_rfl) rfl #[.int .i64 a0, .int .i64 a0, .slice A1 l1.length c1] rfl (by (try simp only [List.map_toArray, List.map_cons, List.map_nil]); first | done | rfl | (simp only [List.length_drop, List.length_take]; rfl)) ?_; (with_reducible refine (orreryref19_Table.calls kj24 a0 a0 _ _ l1 t587 _ ?side1 ?side2 A45.out).mono ?_); (case side1 => repeat (first | exact (Kd.C_below HR1.out HB.out) | (with_reducible refine Kd.C_alloc ?_ _) | (with_reducible refine Kd.C_drewN ?_ _) | (with_reducible refine Kd.C_drew ?_))); (case side2 => exact HC1.out); rintro e w101 ⟨v588, rfl, ho0, hb⟩; refine ⟨_, rfl, ?_⟩; have n0_ := Aside0.mk (Kd.R_below (by (with_reducible repeat (first | apply Kd.R_alloc | apply Kd.R_drewN | apply Kd.R_drew)); exact HO_7.out) hb); have n1_ := Aside0.mk (Kd.R_below (by (with_reducible repeat (first | apply Kd.R_alloc | apply Kd.R_drewN | apply Kd.R_drew)); exact HO_10.out) hb); have n2_ := Aside0.mk (Kd.R_below (by (with_reducible repeat (first | apply Kd.R_alloc | apply Kd.R_drewN | apply Kd.R_drew)); exact HO_14.out) hb); have n3_ := Aside0.mk (Kd.R_below (by (with_reducible repeat (first | apply Kd.R_alloc | apply Kd.R_drewN | apply Kd.R_drew)); exact HO_16.out) hb); have n4_ := Aside0.mk (Kd.S_lower (Kd.S_new' (Kd.S_new' (Kd.S_new' ho0 (Kd.R_lt (by (with_reducible repeat (first | apply Kd.R_alloc | apply Kd.R_drewN | apply Kd.R_drew)); exact HO_10.out))) (Kd.R_lt (by (with_reducible repeat (first | apply Kd.R_alloc | apply Kd.R_drewN | apply Kd.R_drew)); exact HO_14.out))) (Kd.R_lt (by (with_reducible repeat (first | apply Kd.R_alloc | apply Kd.R_drewN | apply Kd.R_drew)); exact HO_16.out))) (below_size (by repeat (first | (with_reducible first | exact HB.out | apply below_alloc | apply pw_below_drewN | apply below_drew1) | exact HB.out)))); have n5_ := Aside0.mk (below_step (by repeat (first | (with_reducible first | exact HB.out | apply below_alloc | apply pw_below_drewN | apply below_drew1) | exact HB.out)) hb); clear HO_7; clear HO_10; clear HO_14; clear HO_16; clear HB; have HO_7 := n0_; have HO_10 := n1_; have HO_14 := n2_; have HO_16 := n3_; have HO589 := n4_; have HB := n5_; clear n0_ n1_ n2_ n3_ n4_ n5_; (try clear hb); (try clear hb2); (try clear hk); (try clear hi); (try clear ho0)) | ((with_reducible refine gate_callee (f := 15) rfl ?_); refine goesL_ (some 130) rfl rfl Try.func15 (by kernel_rfl) rfl #[.int .i64 a0, .int .i64 a0, .slice Ao27 x7_2.length co27] rfl (by (try simp only [List.map_toArray, List.map_cons, List.map_nil]); first | done | rfl | (simp only [List.length_drop, List.length_take]; rfl)) ?_; (with_reducible refine (orreryref19_Table.calls kj24 a0 a0 _ _ x7_2 t590 _ ?side1 ?side2 A46.out).mono ?_); (case side1 => repeat (first | exact (Kd.R_reads' HO_7.out).2.2 | (with_reducible refine Kd.C_alloc ?_ _) | (with_reducible refine Kd.C_drewN ?_ _) | (with_reducible refine Kd.C_drew ?_))); (case side2 => exact (Kd.R_reads' HO_7.out).2.1); rintro e w102 ⟨v591, rfl, ho0, hb⟩; refine ⟨_, rfl, ?_⟩; have n0_ := Aside0.mk (Kd.R_below (by (with_reducible repeat (first | apply Kd.R_alloc | apply Kd.R_drewN | apply Kd.R_drew)); exact HO_7.out) hb); have n1_ := Aside0.mk (Kd.R_below (by (with_reducible repeat (first | apply Kd.R_alloc | apply Kd.R_drewN | apply Kd.R_drew)); exact HO_10.out) hb); have n2_ := Aside0.mk (Kd.R_below (by (with_reducible repeat (first | apply Kd.R_alloc | apply Kd.R_drewN | apply Kd.R_drew)); exact HO_14.out) hb); have n3_ := Aside0.mk (Kd.R_below (by (with_reducible repeat (first | apply Kd.R_alloc | apply Kd.R_drewN | apply Kd.R_drew)); exact HO_16.out) hb); have n4_ := Aside0.mk (Kd.S_elder' (by (with_reducible repeat (first | apply Kd.S_alloc | apply Kd.S_drewN | apply Kd.S_drew)); exact HO589.out) (Kd.S_base ho0) hb); have n5_ := Aside0.mk (Kd.S_lower (Kd.S_new' (Kd.S_new' (Kd.S_new' (Kd.S_new' ho0 (Kd.R_lt (by (with_reducible repeat (first | apply Kd.R_alloc | apply Kd.R_drewN | apply Kd.R_drew)); exact HO_10.out))) (Kd.R_lt (by (with_reducible repeat (first | apply Kd.R_alloc | apply Kd.R_drewN | apply Kd.R_drew)); exact HO_14.out))) (Kd.R_lt (by (with_reducible repeat (first | apply Kd.R_alloc | apply Kd.R_drewN | apply Kd.R_drew)); exact HO_16.out))) (Kd.S_lt (by (with_reducible repeat (first | apply Kd.S_alloc | apply Kd.S_drewN | apply Kd.S_drew)); exact HO589.out))) (below_size (by repeat (first | (with_reducible first | exact HB.out | apply below_alloc | apply pw_below_drewN | apply below_drew1) | exact HB.out)))); have n6_ := Aside0.mk (below_step (by repeat (first | (with_reducible first | exact HB.out | apply below_alloc | apply pw_below_drewN | apply below_drew1) | exact HB.out)) hb); clear HO_7; clear HO_10; clear HO_14; clear HO_16; clear HO589; clear HB; have HO_7 := n0_; have HO_10 := n1_; have HO_14 := n2_; have HO_16 := n3_; have HO589 := n4_; have HO592 := n5_; have HB := n6_; clear n0_ n1_ n2_ n3_ n4_ n5_ n6_; (try clear hb); (try clear hb2); (try clear hk); (try clear hi); (try clear ho0); obtain ⟨Ao103, co103, eo103⟩ := Kd.R_slice HO_10.out; subst eo103) | ((with_reducible refine gate_callee (f := 24) rfl ?_); refine goesL_ (some 132) rfl rfl Try.func24 (by kernel_rfl) rfl #[.slice Ao103 t568.length co103] rfl (by (try simp only [List.map_toArray, List.map_cons, List.map_nil]); first | done | rfl | (simp only [List.length_drop, List.length_take]; rfl)) ?_; (with_reducible refine (orreryref19_Size.calls kj24 _ _ t568 t593 _ ?side1 ?side2 A47.out).mono ?_); (case side1 => repeat (first | exact (Kd.R_reads' HO_10.out).2.2 | (with_reducible refine Kd.C_alloc ?_ _) | (with_reducible refine Kd.C_drewN ?_ _) | (with_reducible refine Kd.C_drew ?_))); (case side2 => exact (Kd.R_reads' HO_10.out).2.1); rintro e w' ⟨rfl, ⟨nd, rfl⟩⟩; refine ⟨_, rfl, ?_⟩))
        go_ret
        exact ⟨by first | rfl | (simp [errW_none, errW_some] <;> rfl) | (simp [*, errW_none, errW_some] <;> rfl), by repeat (first | (with_reducible first | exact HB.out | apply below_alloc | apply pw_below_drewN | apply below_drew1) | exact HB.out)⟩
       rw [if_pos c48] at H
       have c48b0 : (t593 == a0) = true := beq_iff_eq.mpr c48
       have c48b1 : (t593 != a0) = false := bne_eq_false_iff_eq.mpr c48
       clear c48
       replace H := Option.bind_eq_some_iff.mp H
       obtain ⟨t594, A490, H⟩ := H
       replace H : (if t594 = true then ((orreryref19_Matching.f kj24 t590 a0 t580).bind fun t595 => (if t595 = true then ((orreryref19_Size.f kj24 t576).bind fun t596 => (if t596 = a0 then ((orreryref19_Size.f kj24 t580).bind fun t597 => (if t597 = a0 then ((orreryref19_Sum.f kj24 t587 t576).bind fun t598 => ((orreryref19_Sum.f kj24 t590 t580).bind fun t599 => (some (t598 == t599)))) else (some false))) else (some false))) else (some false))) else (some false)) = some r := H
       have A49 := Aside0.mk A490
       clear A490
       by_cases c50 : t594 = true
       case neg =>
        replace c50 := Bool.eq_false_iff.mpr c50
        subst c50
        have H1 : (some false) = some r := by rw [if_neg (show ¬ (false = true) by decide)] at H; exact H
        clear H
        have H := H1
        clear H1
        obtain rfl := Option.some.inj H
        go_wp2_with (first | ((with_reducible refine gate_callee (f := 15) rfl ?_); refine goesL_ (some 126) rfl rfl Try.func15 (by kernel_rfl) rfl #[.int .i64 a0, .int .i64 a0, .slice A1 l1.length c1] rfl (by (try simp only [List.map_toArray, List.map_cons, List.map_nil]); first | done | rfl | (simp only [List.length_drop, List.length_take]; rfl)) ?_; (with_reducible refine (orreryref19_Table.calls kj24 a0 a0 _ _ l1 t587 _ ?side1 ?side2 A45.out).mono ?_); (case side1 => repeat (first | exact (Kd.C_below HR1.out HB.out) | (with_reducible refine Kd.C_alloc ?_ _) | (with_reducible refine Kd.C_drewN ?_ _) | (with_reducible refine Kd.C_drew ?_))); (case side2 => exact HC1.out); rintro e w95 ⟨v588, rfl, ho0, hb⟩; refine ⟨_, rfl, ?_⟩; have n0_ := Aside0.mk (Kd.R_below (by (with_reducible repeat (first | apply Kd.R_alloc | apply Kd.R_drewN | apply Kd.R_drew)); exact HO_7.out) hb); have n1_ := Aside0.mk (Kd.R_below (by (with_reducible repeat (first | apply Kd.R_alloc | apply Kd.R_drewN | apply Kd.R_drew)); exact HO_10.out) hb); have n2_ := Aside0.mk (Kd.R_below (by (with_reducible repeat (first | apply Kd.R_alloc | apply Kd.R_drewN | apply Kd.R_drew)); exact HO_14.out) hb); have n3_ := Aside0.mk (Kd.R_below (by (with_reducible repeat (first | apply Kd.R_alloc | apply Kd.R_drewN | apply Kd.R_drew)); exact HO_16.out) hb); have n4_ := Aside0.mk (Kd.S_lower (Kd.S_new' (Kd.S_new' (Kd.S_new' ho0 (Kd.R_lt (by (with_reducible repeat (first | apply Kd.R_alloc | apply Kd.R_drewN | apply Kd.R_drew)); exact HO_10.out))) (Kd.R_lt (by (with_reducible repeat (first | apply Kd.R_alloc | apply Kd.R_drewN | apply Kd.R_drew)); exact HO_14.out))) (Kd.R_lt (by (with_reducible repeat (first | apply Kd.R_alloc | apply Kd.R_drewN | apply Kd.R_drew)); exact HO_16.out))) (below_size (by repeat (first | (with_reducible first | exact HB.out | apply below_alloc | apply pw_below_drewN | apply below_drew1) | exact HB.out)))); have n5_ := Aside0.mk (below_step (by repeat (first | (with_reducible first | exact HB.out | apply below_alloc | apply pw_below_drewN | apply below_drew1) | exact HB.out)) hb); clear HO_7; clear HO_10; clear HO_14; clear HO_16; clear HB; have HO_7 := n0_; have HO_10 := n1_; have HO_14 := n2_; have HO_16 := n3_; have HO589 := n4_; have HB := n5_; clear n0_ n1_ n2_ n3_ n4_ n5_; (try clear hb); (try clear hb2); (try clear hk); (try clear hi); (try clear ho0)) | ((with_reducible refine gate_callee (f := 15) rfl ?_); refine goesL_ (some 130) rfl rfl Try.func15 (by kernel_rfl) rfl #[.int .i64 a0, .int .i64 a0, .slice Ao27 x7_2.length co27] rfl (by (try simp only [List.map_toArray, List.map_cons, List.map_nil]); first | done | rfl | (simp only [List.length_drop, List.length_take]; rfl)) ?_; (with_reducible refine (orreryref19_Table.calls kj24 a0 a0 _ _ x7_2 t590 _ ?side1 ?side2 A46.out).mono ?_); (case side1 => repeat (first | exact (Kd.R_reads' HO_7.out).2.2 | (with_reducible refine Kd.C_alloc ?_ _) | (with_reducible refine Kd.C_drewN ?_ _) | (with_reducible refine Kd.C_drew ?_))); (case side2 => exact (Kd.R_reads' HO_7.out).2.1); rintro e w96 ⟨v591, rfl, ho0, hb⟩; refine ⟨_, rfl, ?_⟩; have n0_ := Aside0.mk (Kd.R_below (by (with_reducible repeat (first | apply Kd.R_alloc | apply Kd.R_drewN | apply Kd.R_drew)); exact HO_7.out) hb); have n1_ := Aside0.mk (Kd.R_below (by (with_reducible repeat (first | apply Kd.R_alloc | apply Kd.R_drewN | apply Kd.R_drew)); exact HO_10.out) hb); have n2_ := Aside0.mk (Kd.R_below (by (with_reducible repeat (first | apply Kd.R_alloc | apply Kd.R_drewN | apply Kd.R_drew)); exact HO_14.out) hb); have n3_ := Aside0.mk (Kd.R_below (by (with_reducible repeat (first | apply Kd.R_alloc | apply Kd.R_drewN | apply Kd.R_drew)); exact HO_16.out) hb); have n4_ := Aside0.mk (Kd.S_elder' (by (with_reducible repeat (first | apply Kd.S_alloc | apply Kd.S_drewN | apply Kd.S_drew)); exact HO589.out) (Kd.S_base ho0) hb); have n5_ := Aside0.mk (Kd.S_lower (Kd.S_new' (Kd.S_new' (Kd.S_new' (Kd.S_new' ho0 (Kd.R_lt (by (with_reducible repeat (first | apply Kd.R_alloc | apply Kd.R_drewN | apply Kd.R_drew)); exact HO_10.out))) (Kd.R_lt (by (with_reducible repeat (first | apply Kd.R_alloc | apply Kd.R_drewN | apply Kd.R_drew)); exact HO_14.out))) (Kd.R_lt (by (with_reducible repeat (first | apply Kd.R_alloc | apply Kd.R_drewN | apply Kd.R_drew)); exact HO_16.out))) (Kd.S_lt (by (with_reducible repeat (first | apply Kd.S_alloc | apply Kd.S_drewN | apply Kd.S_drew)); exact HO589.out))) (below_size (by repeat (first | (with_reducible first | exact HB.out | apply below_alloc | apply pw_below_drewN | apply below_drew1) | exact HB.out)))); have n6_ := Aside0.mk (below_step (by repeat (first | (with_reducible first | exact HB.out | apply below_alloc | apply pw_below_drewN | apply below_drew1) | exact HB.out)) hb); clear HO_7; clear HO_10; clear HO_14; clear HO_16; clear HO589; clear HB; have HO_7 := n0_; have HO_10 := n1_; have HO_14 := n2_; have HO_16 := n3_; have HO589 := n4_; have HO592 := n5_; have HB := n6_; clear n0_ n1_ n2_ n3_ n4_ n5_ n6_; (try clear hb); (try clear hb2); (try clear hk); (try clear hi); (try clear ho0); obtain ⟨Ao97, co97, eo97⟩ := Kd.R_slice HO_10.out; subst eo97) | ((with_reducible refine gate_callee (f := 24) rfl ?_); refine goesL_ (some 132) rfl rfl Try.func24 (by kernel_rfl) rfl #[.slice Ao97 t568.length co97] rfl (by (try simp only [List.map_toArray, List.map_cons, List.map_nil]); first | done | rfl | (simp only [List.length_drop, List.length_take]; rfl)) ?_; (with_reducible refine (orreryref19_Size.calls kj24 _ _ t568 t593 _ ?side1 ?side2 A47.out).mono ?_); (case side1 => repeat (first | exact (Kd.R_reads' HO_10.out).2.2 | (with_reducible refine Kd.C_alloc ?_ _) | (with_reducible refine Kd.C_drewN ?_ _) | (with_reducible refine Kd.C_drew ?_))); (case side2 => exact (Kd.R_reads' HO_10.out).2.1); rintro e w' ⟨rfl, ⟨nd, rfl⟩⟩; refine ⟨_, rfl, ?_⟩; obtain ⟨Ao98, co98, eo98⟩ := Kd.S_slice HO589.out; subst eo98; obtain ⟨Ao99, co99, eo99⟩ := Kd.R_slice HO_14.out; subst eo99) | (go_at_call 16; (with_reducible refine (orreryref19_Matching.calls kj24 _ _ t587 a0 _ _ t576 false _ ?side1 ?side2 ?side3 ?side4 A49.out).mono ?_); (case side1 => repeat (first | exact (Kd.S_reads' HO589.out).2.2 | (with_reducible refine Kd.C_alloc ?_ _) | (with_reducible refine Kd.C_drewN ?_ _) | (with_reducible refine Kd.C_drew ?_))); (case side2 => exact (Kd.S_reads' HO589.out).2.1); (case side3 => repeat (first | exact (Kd.R_reads' HO_14.out).2.2 | (with_reducible refine Kd.C_alloc ?_ _) | (with_reducible refine Kd.C_drewN ?_ _) | (with_reducible refine Kd.C_drew ?_))); (case side4 => exact (Kd.R_reads' HO_14.out).2.1); rintro e w100 ⟨rfl, hb⟩; have n0_ := Aside0.mk (Kd.R_below (by (with_reducible repeat (first | apply Kd.R_alloc | apply Kd.R_drewN | apply Kd.R_drew)); exact HO_7.out) hb); have n1_ := Aside0.mk (Kd.R_below (by (with_reducible repeat (first | apply Kd.R_alloc | apply Kd.R_drewN | apply Kd.R_drew)); exact HO_10.out) hb); have n2_ := Aside0.mk (Kd.R_below (by (with_reducible repeat (first | apply Kd.R_alloc | apply Kd.R_drewN | apply Kd.R_drew)); exact HO_14.out) hb); have n3_ := Aside0.mk (Kd.R_below (by (with_reducible repeat (first | apply Kd.R_alloc | apply Kd.R_drewN | apply Kd.R_drew)); exact HO_16.out) hb); have n4_ := Aside0.mk (Kd.S_below (by (with_reducible repeat (first | apply Kd.S_alloc | apply Kd.S_drewN | apply Kd.S_drew)); exact HO589.out) hb); have n5_ := Aside0.mk (Kd.S_below (by (with_reducible repeat (first | apply Kd.S_alloc | apply Kd.S_drewN | apply Kd.S_drew)); exact HO592.out) hb); have n6_ := Aside0.mk (below_step (by repeat (first | (with_reducible first | exact HB.out | apply below_alloc | apply pw_below_drewN | apply below_drew1) | exact HB.out)) hb); clear HO_7; clear HO_10; clear HO_14; clear HO_16; clear HO589; clear HO592; clear HB; have HO_7 := n0_; have HO_10 := n1_; have HO_14 := n2_; have HO_16 := n3_; have HO589 := n4_; have HO592 := n5_; have HB := n6_; clear n0_ n1_ n2_ n3_ n4_ n5_ n6_; (try clear hb); (try clear hb2); (try clear hk); (try clear hi)))
        go_ret
        exact ⟨by first | rfl | (simp [errW_none, errW_some] <;> rfl) | (simp [*, errW_none, errW_some] <;> rfl), by repeat (first | (with_reducible first | exact HB.out | apply below_alloc | apply pw_below_drewN | apply below_drew1) | exact HB.out)⟩
       subst c50
       have H1 : ((orreryref19_Matching.f kj24 t590 a0 t580).bind fun t595 => (if t595 = true then ((orreryref19_Size.f kj24 t576).bind fun t596 => (if t596 = a0 then ((orreryref19_Size.f kj24 t580).bind fun t597 => (if t597 = a0 then ((orreryref19_Sum.f kj24 t587 t576).bind fun t598 => ((orreryref19_Sum.f kj24 t590 t580).bind fun t599 => (some (t598 == t599)))) else (some false))) else (some false))) else (some false))) = some r := by rw [if_pos rfl] at H; exact H
       clear H
       have H := H1
       clear H1
       replace H := Option.bind_eq_some_iff.mp H
       obtain ⟨t595, A510, H⟩ := H
       replace H : (if t595 = true then ((orreryref19_Size.f kj24 t576).bind fun t596 => (if t596 = a0 then ((orreryref19_Size.f kj24 t580).bind fun t597 => (if t597 = a0 then ((orreryref19_Sum.f kj24 t587 t576).bind fun t598 => ((orreryref19_Sum.f kj24 t590 t580).bind fun t599 => (some (t598 == t599)))) else (some false))) else (some false))) else (some false)) = some r := H
       have A51 := Aside0.mk A510
       clear A510
       by_cases c52 : t595 = true
       case neg =>
        replace c52 := Bool.eq_false_iff.mpr c52
        subst c52
        have H1 : (some false) = some r := by rw [if_neg (show ¬ (false = true) by decide)] at H; exact H
        clear H
        have H := H1
        clear H1
        obtain rfl := Option.some.inj H
        go_wp2_with (first | ((with_reducible refine gate_callee (f := 15) rfl ?_); refine goesL_ (some 126) rfl rfl Try.func15 (by kernel_rfl) rfl #[.int .i64 a0, .int .i64 a0, .slice A1 l1.length c1] rfl (by (try simp only [List.map_toArray, List.map_cons, List.map_nil]); first | done | rfl | (simp only [List.length_drop, List.length_take]; rfl)) ?_; (with_reducible refine (orreryref19_Table.calls kj24 a0 a0 _ _ l1 t587 _ ?side1 ?side2 A45.out).mono ?_); (case side1 => repeat (first | exact (Kd.C_below HR1.out HB.out) | (with_reducible refine Kd.C_alloc ?_ _) | (with_reducible refine Kd.C_drewN ?_ _) | (with_reducible refine Kd.C_drew ?_))); (case side2 => exact HC1.out); rintro e w86 ⟨v588, rfl, ho0, hb⟩; refine ⟨_, rfl, ?_⟩; have n0_ := Aside0.mk (Kd.R_below (by (with_reducible repeat (first | apply Kd.R_alloc | apply Kd.R_drewN | apply Kd.R_drew)); exact HO_7.out) hb); have n1_ := Aside0.mk (Kd.R_below (by (with_reducible repeat (first | apply Kd.R_alloc | apply Kd.R_drewN | apply Kd.R_drew)); exact HO_10.out) hb); have n2_ := Aside0.mk (Kd.R_below (by (with_reducible repeat (first | apply Kd.R_alloc | apply Kd.R_drewN | apply Kd.R_drew)); exact HO_14.out) hb); have n3_ := Aside0.mk (Kd.R_below (by (with_reducible repeat (first | apply Kd.R_alloc | apply Kd.R_drewN | apply Kd.R_drew)); exact HO_16.out) hb); have n4_ := Aside0.mk (Kd.S_lower (Kd.S_new' (Kd.S_new' (Kd.S_new' ho0 (Kd.R_lt (by (with_reducible repeat (first | apply Kd.R_alloc | apply Kd.R_drewN | apply Kd.R_drew)); exact HO_10.out))) (Kd.R_lt (by (with_reducible repeat (first | apply Kd.R_alloc | apply Kd.R_drewN | apply Kd.R_drew)); exact HO_14.out))) (Kd.R_lt (by (with_reducible repeat (first | apply Kd.R_alloc | apply Kd.R_drewN | apply Kd.R_drew)); exact HO_16.out))) (below_size (by repeat (first | (with_reducible first | exact HB.out | apply below_alloc | apply pw_below_drewN | apply below_drew1) | exact HB.out)))); have n5_ := Aside0.mk (below_step (by repeat (first | (with_reducible first | exact HB.out | apply below_alloc | apply pw_below_drewN | apply below_drew1) | exact HB.out)) hb); clear HO_7; clear HO_10; clear HO_14; clear HO_16; clear HB; have HO_7 := n0_; have HO_10 := n1_; have HO_14 := n2_; have HO_16 := n3_; have HO589 := n4_; have HB := n5_; clear n0_ n1_ n2_ n3_ n4_ n5_; (try clear hb); (try clear hb2); (try clear hk); (try clear hi); (try clear ho0)) | ((with_reducible refine gate_callee (f := 15) rfl ?_); refine goesL_ (some 130) rfl rfl Try.func15 (by kernel_rfl) rfl #[.int .i64 a0, .int .i64 a0, .slice Ao27 x7_2.length co27] rfl (by (try simp only [List.map_toArray, List.map_cons, List.map_nil]); first | done | rfl | (simp only [List.length_drop, List.length_take]; rfl)) ?_; (with_reducible refine (orreryref19_Table.calls kj24 a0 a0 _ _ x7_2 t590 _ ?side1 ?side2 A46.out).mono ?_); (case side1 => repeat (first | exact (Kd.R_reads' HO_7.out).2.2 | (with_reducible refine Kd.C_alloc ?_ _) | (with_reducible refine Kd.C_drewN ?_ _) | (with_reducible refine Kd.C_drew ?_))); (case side2 => exact (Kd.R_reads' HO_7.out).2.1); rintro e w87 ⟨v591, rfl, ho0, hb⟩; refine ⟨_, rfl, ?_⟩; have n0_ := Aside0.mk (Kd.R_below (by (with_reducible repeat (first | apply Kd.R_alloc | apply Kd.R_drewN | apply Kd.R_drew)); exact HO_7.out) hb); have n1_ := Aside0.mk (Kd.R_below (by (with_reducible repeat (first | apply Kd.R_alloc | apply Kd.R_drewN | apply Kd.R_drew)); exact HO_10.out) hb); have n2_ := Aside0.mk (Kd.R_below (by (with_reducible repeat (first | apply Kd.R_alloc | apply Kd.R_drewN | apply Kd.R_drew)); exact HO_14.out) hb); have n3_ := Aside0.mk (Kd.R_below (by (with_reducible repeat (first | apply Kd.R_alloc | apply Kd.R_drewN | apply Kd.R_drew)); exact HO_16.out) hb); have n4_ := Aside0.mk (Kd.S_elder' (by (with_reducible repeat (first | apply Kd.S_alloc | apply Kd.S_drewN | apply Kd.S_drew)); exact HO589.out) (Kd.S_base ho0) hb); have n5_ := Aside0.mk (Kd.S_lower (Kd.S_new' (Kd.S_new' (Kd.S_new' (Kd.S_new' ho0 (Kd.R_lt (by (with_reducible repeat (first | apply Kd.R_alloc | apply Kd.R_drewN | apply Kd.R_drew)); exact HO_10.out))) (Kd.R_lt (by (with_reducible repeat (first | apply Kd.R_alloc | apply Kd.R_drewN | apply Kd.R_drew)); exact HO_14.out))) (Kd.R_lt (by (with_reducible repeat (first | apply Kd.R_alloc | apply Kd.R_drewN | apply Kd.R_drew)); exact HO_16.out))) (Kd.S_lt (by (with_reducible repeat (first | apply Kd.S_alloc | apply Kd.S_drewN | apply Kd.S_drew)); exact HO589.out))) (below_size (by repeat (first | (with_reducible first | exact HB.out | apply below_alloc | apply pw_below_drewN | apply below_drew1) | exact HB.out)))); have n6_ := Aside0.mk (below_step (by repeat (first | (with_reducible first | exact HB.out | apply below_alloc | apply pw_below_drewN | apply below_drew1) | exact HB.out)) hb); clear HO_7; clear HO_10; clear HO_14; clear HO_16; clear HO589; clear HB; have HO_7 := n0_; have HO_10 := n1_; have HO_14 := n2_; have HO_16 := n3_; have HO589 := n4_; have HO592 := n5_; have HB := n6_; clear n0_ n1_ n2_ n3_ n4_ n5_ n6_; (try clear hb); (try clear hb2); (try clear hk); (try clear hi); (try clear ho0); obtain ⟨Ao88, co88, eo88⟩ := Kd.R_slice HO_10.out; subst eo88) | ((with_reducible refine gate_callee (f := 24) rfl ?_); refine goesL_ (some 132) rfl rfl Try.func24 (by kernel_rfl) rfl #[.slice Ao88 t568.length co88] rfl (by (try simp only [List.map_toArray, List.map_cons, List.map_nil]); first | done | rfl | (simp only [List.length_drop, List.length_take]; rfl)) ?_; (with_reducible refine (orreryref19_Size.calls kj24 _ _ t568 t593 _ ?side1 ?side2 A47.out).mono ?_); (case side1 => repeat (first | exact (Kd.R_reads' HO_10.out).2.2 | (with_reducible refine Kd.C_alloc ?_ _) | (with_reducible refine Kd.C_drewN ?_ _) | (with_reducible refine Kd.C_drew ?_))); (case side2 => exact (Kd.R_reads' HO_10.out).2.1); rintro e w' ⟨rfl, ⟨nd, rfl⟩⟩; refine ⟨_, rfl, ?_⟩; obtain ⟨Ao89, co89, eo89⟩ := Kd.S_slice HO589.out; subst eo89; obtain ⟨Ao90, co90, eo90⟩ := Kd.R_slice HO_14.out; subst eo90) | (go_at_call 16; (with_reducible refine (orreryref19_Matching.calls kj24 _ _ t587 a0 _ _ t576 true _ ?side1 ?side2 ?side3 ?side4 A49.out).mono ?_); (case side1 => repeat (first | exact (Kd.S_reads' HO589.out).2.2 | (with_reducible refine Kd.C_alloc ?_ _) | (with_reducible refine Kd.C_drewN ?_ _) | (with_reducible refine Kd.C_drew ?_))); (case side2 => exact (Kd.S_reads' HO589.out).2.1); (case side3 => repeat (first | exact (Kd.R_reads' HO_14.out).2.2 | (with_reducible refine Kd.C_alloc ?_ _) | (with_reducible refine Kd.C_drewN ?_ _) | (with_reducible refine Kd.C_drew ?_))); (case side4 => exact (Kd.R_reads' HO_14.out).2.1); rintro e w91 ⟨rfl, hb⟩; have n0_ := Aside0.mk (Kd.R_below (by (with_reducible repeat (first | apply Kd.R_alloc | apply Kd.R_drewN | apply Kd.R_drew)); exact HO_7.out) hb); have n1_ := Aside0.mk (Kd.R_below (by (with_reducible repeat (first | apply Kd.R_alloc | apply Kd.R_drewN | apply Kd.R_drew)); exact HO_10.out) hb); have n2_ := Aside0.mk (Kd.R_below (by (with_reducible repeat (first | apply Kd.R_alloc | apply Kd.R_drewN | apply Kd.R_drew)); exact HO_14.out) hb); have n3_ := Aside0.mk (Kd.R_below (by (with_reducible repeat (first | apply Kd.R_alloc | apply Kd.R_drewN | apply Kd.R_drew)); exact HO_16.out) hb); have n4_ := Aside0.mk (Kd.S_below (by (with_reducible repeat (first | apply Kd.S_alloc | apply Kd.S_drewN | apply Kd.S_drew)); exact HO589.out) hb); have n5_ := Aside0.mk (Kd.S_below (by (with_reducible repeat (first | apply Kd.S_alloc | apply Kd.S_drewN | apply Kd.S_drew)); exact HO592.out) hb); have n6_ := Aside0.mk (below_step (by repeat (first | (with_reducible first | exact HB.out | apply below_alloc | apply pw_below_drewN | apply below_drew1) | exact HB.out)) hb); clear HO_7; clear HO_10; clear HO_14; clear HO_16; clear HO589; clear HO592; clear HB; have HO_7 := n0_; have HO_10 := n1_; have HO_14 := n2_; have HO_16 := n3_; have HO589 := n4_; have HO592 := n5_; have HB := n6_; clear n0_ n1_ n2_ n3_ n4_ n5_ n6_; (try clear hb); (try clear hb2); (try clear hk); (try clear hi); obtain ⟨Ao92, co92, eo92⟩ := Kd.S_slice HO592.out; subst eo92; obtain ⟨Ao93, co93, eo93⟩ := Kd.R_slice HO_16.out; subst eo93) | (go_at_call 16; (with_reducible refine (orreryref19_Matching.calls kj24 _ _ t590 a0 _ _ t580 false _ ?side1 ?side2 ?side3 ?side4 A51.out).mono ?_); (case side1 => repeat (first | exact (Kd.S_reads' HO592.out).2.2 | (with_reducible refine Kd.C_alloc ?_ _) | (with_reducible refine Kd.C_drewN ?_ _) | (with_reducible refine Kd.C_drew ?_))); (case side2 => exact (Kd.S_reads' HO592.out).2.1); (case side3 => repeat (first | exact (Kd.R_reads' HO_16.out).2.2 | (with_reducible refine Kd.C_alloc ?_ _) | (with_reducible refine Kd.C_drewN ?_ _) | (with_reducible refine Kd.C_drew ?_))); (case side4 => exact (Kd.R_reads' HO_16.out).2.1); rintro e w94 ⟨rfl, hb⟩; have n0_ := Aside0.mk (Kd.R_below (by (with_reducible repeat (first | apply Kd.R_alloc | apply Kd.R_drewN | apply Kd.R_drew)); exact HO_7.out) hb); have n1_ := Aside0.mk (Kd.R_below (by (with_reducible repeat (first | apply Kd.R_alloc | apply Kd.R_drewN | apply Kd.R_drew)); exact HO_10.out) hb); have n2_ := Aside0.mk (Kd.R_below (by (with_reducible repeat (first | apply Kd.R_alloc | apply Kd.R_drewN | apply Kd.R_drew)); exact HO_14.out) hb); have n3_ := Aside0.mk (Kd.R_below (by (with_reducible repeat (first | apply Kd.R_alloc | apply Kd.R_drewN | apply Kd.R_drew)); exact HO_16.out) hb); have n4_ := Aside0.mk (Kd.S_below (by (with_reducible repeat (first | apply Kd.S_alloc | apply Kd.S_drewN | apply Kd.S_drew)); exact HO589.out) hb); have n5_ := Aside0.mk (Kd.S_below (by (with_reducible repeat (first | apply Kd.S_alloc | apply Kd.S_drewN | apply Kd.S_drew)); exact HO592.out) hb); have n6_ := Aside0.mk (below_step (by repeat (first | (with_reducible first | exact HB.out | apply below_alloc | apply pw_below_drewN | apply below_drew1) | exact HB.out)) hb); clear HO_7; clear HO_10; clear HO_14; clear HO_16; clear HO589; clear HO592; clear HB; have HO_7 := n0_; have HO_10 := n1_; have HO_14 := n2_; have HO_16 := n3_; have HO589 := n4_; have HO592 := n5_; have HB := n6_; clear n0_ n1_ n2_ n3_ n4_ n5_ n6_; (try clear hb); (try clear hb2); (try clear hk); (try clear hi)))
        go_ret
        exact ⟨by first | rfl | (simp [errW_none, errW_some] <;> rfl) | (simp [*, errW_none, errW_some] <;> rfl), by repeat (first | (with_reducible first | exact HB.out | apply below_alloc | apply pw_below_drewN | apply below_drew1) | exact HB.out)⟩
       subst c52
       have H1 : ((orreryref19_Size.f kj24 t576).bind fun t596 => (if t596 = a0 then ((orreryref19_Size.f kj24 t580).bind fun t597 => (if t597 = a0 then ((orreryref19_Sum.f kj24 t587 t576).bind fun t598 => ((orreryref19_Sum.f kj24 t590 t580).bind fun t599 => (some (t598 == t599)))) else (some false))) else (some false))) = some r := by rw [if_pos rfl] at H; exact H
       clear H
       have H := H1
       clear H1
       replace H := Option.bind_eq_some_iff.mp H
       obtain ⟨t596, A530, H⟩ := H
       replace H : (if t596 = a0 then ((orreryref19_Size.f kj24 t580).bind fun t597 => (if t597 = a0 then ((orreryref19_Sum.f kj24 t587 t576).bind fun t598 => ((orreryref19_Sum.f kj24 t590 t580).bind fun t599 => (some (t598 == t599)))) else (some false))) else (some false)) = some r := H
       have A53 := Aside0.mk A530
       clear A530
       by_cases c54 : t596 = a0
       case neg =>
        rw [if_neg c54] at H
        have c54b0 : (t596 == a0) = false := beq_eq_false_iff_ne.mpr c54
        have c54b1 : (t596 != a0) = true := bne_iff_ne.mpr c54
        obtain rfl := Option.some.inj H
        go_wp2_with (first | ((with_reducible refine gate_callee (f := 15) rfl ?_); refine goesL_ (some 126) rfl rfl Try.func15 (by kernel_rfl) rfl #[.int .i64 a0, .int .i64 a0, .slice A1 l1.length c1] rfl (by (try simp only [List.map_toArray, List.map_cons, List.map_nil]); first | done | rfl | (simp only [List.length_drop, List.length_take]; rfl)) ?_; (with_reducible refine (orreryref19_Table.calls kj24 a0 a0 _ _ l1 t587 _ ?side1 ?side2 A45.out).mono ?_); (case side1 => repeat (first | exact (Kd.C_below HR1.out HB.out) | (with_reducible refine Kd.C_alloc ?_ _) | (with_reducible refine Kd.C_drewN ?_ _) | (with_reducible refine Kd.C_drew ?_))); (case side2 => exact HC1.out); rintro e w77 ⟨v588, rfl, ho0, hb⟩; refine ⟨_, rfl, ?_⟩; have n0_ := Aside0.mk (Kd.R_below (by (with_reducible repeat (first | apply Kd.R_alloc | apply Kd.R_drewN | apply Kd.R_drew)); exact HO_7.out) hb); have n1_ := Aside0.mk (Kd.R_below (by (with_reducible repeat (first | apply Kd.R_alloc | apply Kd.R_drewN | apply Kd.R_drew)); exact HO_10.out) hb); have n2_ := Aside0.mk (Kd.R_below (by (with_reducible repeat (first | apply Kd.R_alloc | apply Kd.R_drewN | apply Kd.R_drew)); exact HO_14.out) hb); have n3_ := Aside0.mk (Kd.R_below (by (with_reducible repeat (first | apply Kd.R_alloc | apply Kd.R_drewN | apply Kd.R_drew)); exact HO_16.out) hb); have n4_ := Aside0.mk (Kd.S_lower (Kd.S_new' (Kd.S_new' (Kd.S_new' ho0 (Kd.R_lt (by (with_reducible repeat (first | apply Kd.R_alloc | apply Kd.R_drewN | apply Kd.R_drew)); exact HO_10.out))) (Kd.R_lt (by (with_reducible repeat (first | apply Kd.R_alloc | apply Kd.R_drewN | apply Kd.R_drew)); exact HO_14.out))) (Kd.R_lt (by (with_reducible repeat (first | apply Kd.R_alloc | apply Kd.R_drewN | apply Kd.R_drew)); exact HO_16.out))) (below_size (by repeat (first | (with_reducible first | exact HB.out | apply below_alloc | apply pw_below_drewN | apply below_drew1) | exact HB.out)))); have n5_ := Aside0.mk (below_step (by repeat (first | (with_reducible first | exact HB.out | apply below_alloc | apply pw_below_drewN | apply below_drew1) | exact HB.out)) hb); clear HO_7; clear HO_10; clear HO_14; clear HO_16; clear HB; have HO_7 := n0_; have HO_10 := n1_; have HO_14 := n2_; have HO_16 := n3_; have HO589 := n4_; have HB := n5_; clear n0_ n1_ n2_ n3_ n4_ n5_; (try clear hb); (try clear hb2); (try clear hk); (try clear hi); (try clear ho0)) | ((with_reducible refine gate_callee (f := 15) rfl ?_); refine goesL_ (some 130) rfl rfl Try.func15 (by kernel_rfl) rfl #[.int .i64 a0, .int .i64 a0, .slice Ao27 x7_2.length co27] rfl (by (try simp only [List.map_toArray, List.map_cons, List.map_nil]); first | done | rfl | (simp only [List.length_drop, List.length_take]; rfl)) ?_; (with_reducible refine (orreryref19_Table.calls kj24 a0 a0 _ _ x7_2 t590 _ ?side1 ?side2 A46.out).mono ?_); (case side1 => repeat (first | exact (Kd.R_reads' HO_7.out).2.2 | (with_reducible refine Kd.C_alloc ?_ _) | (with_reducible refine Kd.C_drewN ?_ _) | (with_reducible refine Kd.C_drew ?_))); (case side2 => exact (Kd.R_reads' HO_7.out).2.1); rintro e w78 ⟨v591, rfl, ho0, hb⟩; refine ⟨_, rfl, ?_⟩; have n0_ := Aside0.mk (Kd.R_below (by (with_reducible repeat (first | apply Kd.R_alloc | apply Kd.R_drewN | apply Kd.R_drew)); exact HO_7.out) hb); have n1_ := Aside0.mk (Kd.R_below (by (with_reducible repeat (first | apply Kd.R_alloc | apply Kd.R_drewN | apply Kd.R_drew)); exact HO_10.out) hb); have n2_ := Aside0.mk (Kd.R_below (by (with_reducible repeat (first | apply Kd.R_alloc | apply Kd.R_drewN | apply Kd.R_drew)); exact HO_14.out) hb); have n3_ := Aside0.mk (Kd.R_below (by (with_reducible repeat (first | apply Kd.R_alloc | apply Kd.R_drewN | apply Kd.R_drew)); exact HO_16.out) hb); have n4_ := Aside0.mk (Kd.S_elder' (by (with_reducible repeat (first | apply Kd.S_alloc | apply Kd.S_drewN | apply Kd.S_drew)); exact HO589.out) (Kd.S_base ho0) hb); have n5_ := Aside0.mk (Kd.S_lower (Kd.S_new' (Kd.S_new' (Kd.S_new' (Kd.S_new' ho0 (Kd.R_lt (by (with_reducible repeat (first | apply Kd.R_alloc | apply Kd.R_drewN | apply Kd.R_drew)); exact HO_10.out))) (Kd.R_lt (by (with_reducible repeat (first | apply Kd.R_alloc | apply Kd.R_drewN | apply Kd.R_drew)); exact HO_14.out))) (Kd.R_lt (by (with_reducible repeat (first | apply Kd.R_alloc | apply Kd.R_drewN | apply Kd.R_drew)); exact HO_16.out))) (Kd.S_lt (by (with_reducible repeat (first | apply Kd.S_alloc | apply Kd.S_drewN | apply Kd.S_drew)); exact HO589.out))) (below_size (by repeat (first | (with_reducible first | exact HB.out | apply below_alloc | apply pw_below_drewN | apply below_drew1) | exact HB.out)))); have n6_ := Aside0.mk (below_step (by repeat (first | (with_reducible first | exact HB.out | apply below_alloc | apply pw_below_drewN | apply below_drew1) | exact HB.out)) hb); clear HO_7; clear HO_10; clear HO_14; clear HO_16; clear HO589; clear HB; have HO_7 := n0_; have HO_10 := n1_; have HO_14 := n2_; have HO_16 := n3_; have HO589 := n4_; have HO592 := n5_; have HB := n6_; clear n0_ n1_ n2_ n3_ n4_ n5_ n6_; (try clear hb); (try clear hb2); (try clear hk); (try clear hi); (try clear ho0); obtain ⟨Ao79, co79, eo79⟩ := Kd.R_slice HO_10.out; subst eo79) | ((with_reducible refine gate_callee (f := 24) rfl ?_); refine goesL_ (some 132) rfl rfl Try.func24 (by kernel_rfl) rfl #[.slice Ao79 t568.length co79] rfl (by (try simp only [List.map_toArray, List.map_cons, List.map_nil]); first | done | rfl | (simp only [List.length_drop, List.length_take]; rfl)) ?_; (with_reducible refine (orreryref19_Size.calls kj24 _ _ t568 t593 _ ?side1 ?side2 A47.out).mono ?_); (case side1 => repeat (first | exact (Kd.R_reads' HO_10.out).2.2 | (with_reducible refine Kd.C_alloc ?_ _) | (with_reducible refine Kd.C_drewN ?_ _) | (with_reducible refine Kd.C_drew ?_))); (case side2 => exact (Kd.R_reads' HO_10.out).2.1); rintro e w' ⟨rfl, ⟨nd, rfl⟩⟩; refine ⟨_, rfl, ?_⟩; obtain ⟨Ao80, co80, eo80⟩ := Kd.S_slice HO589.out; subst eo80; obtain ⟨Ao81, co81, eo81⟩ := Kd.R_slice HO_14.out; subst eo81) | (go_at_call 16; (with_reducible refine (orreryref19_Matching.calls kj24 _ _ t587 a0 _ _ t576 true _ ?side1 ?side2 ?side3 ?side4 A49.out).mono ?_); (case side1 => repeat (first | exact (Kd.S_reads' HO589.out).2.2 | (with_reducible refine Kd.C_alloc ?_ _) | (with_reducible refine Kd.C_drewN ?_ _) | (with_reducible refine Kd.C_drew ?_))); (case side2 => exact (Kd.S_reads' HO589.out).2.1); (case side3 => repeat (first | exact (Kd.R_reads' HO_14.out).2.2 | (with_reducible refine Kd.C_alloc ?_ _) | (with_reducible refine Kd.C_drewN ?_ _) | (with_reducible refine Kd.C_drew ?_))); (case side4 => exact (Kd.R_reads' HO_14.out).2.1); rintro e w82 ⟨rfl, hb⟩; have n0_ := Aside0.mk (Kd.R_below (by (with_reducible repeat (first | apply Kd.R_alloc | apply Kd.R_drewN | apply Kd.R_drew)); exact HO_7.out) hb); have n1_ := Aside0.mk (Kd.R_below (by (with_reducible repeat (first | apply Kd.R_alloc | apply Kd.R_drewN | apply Kd.R_drew)); exact HO_10.out) hb); have n2_ := Aside0.mk (Kd.R_below (by (with_reducible repeat (first | apply Kd.R_alloc | apply Kd.R_drewN | apply Kd.R_drew)); exact HO_14.out) hb); have n3_ := Aside0.mk (Kd.R_below (by (with_reducible repeat (first | apply Kd.R_alloc | apply Kd.R_drewN | apply Kd.R_drew)); exact HO_16.out) hb); have n4_ := Aside0.mk (Kd.S_below (by (with_reducible repeat (first | apply Kd.S_alloc | apply Kd.S_drewN | apply Kd.S_drew)); exact HO589.out) hb); have n5_ := Aside0.mk (Kd.S_below (by (with_reducible repeat (first | apply Kd.S_alloc | apply Kd.S_drewN | apply Kd.S_drew)); exact HO592.out) hb); have n6_ := Aside0.mk (below_step (by repeat (first | (with_reducible first | exact HB.out | apply below_alloc | apply pw_below_drewN | apply below_drew1) | exact HB.out)) hb); clear HO_7; clear HO_10; clear HO_14; clear HO_16; clear HO589; clear HO592; clear HB; have HO_7 := n0_; have HO_10 := n1_; have HO_14 := n2_; have HO_16 := n3_; have HO589 := n4_; have HO592 := n5_; have HB := n6_; clear n0_ n1_ n2_ n3_ n4_ n5_ n6_; (try clear hb); (try clear hb2); (try clear hk); (try clear hi); obtain ⟨Ao83, co83, eo83⟩ := Kd.S_slice HO592.out; subst eo83; obtain ⟨Ao84, co84, eo84⟩ := Kd.R_slice HO_16.out; subst eo84) | (go_at_call 16; (with_reducible refine (orreryref19_Matching.calls kj24 _ _ t590 a0 _ _ t580 true _ ?side1 ?side2 ?side3 ?side4 A51.out).mono ?_); (case side1 => repeat (first | exact (Kd.S_reads' HO592.out).2.2 | (with_reducible refine Kd.C_alloc ?_ _) | (with_reducible refine Kd.C_drewN ?_ _) | (with_reducible refine Kd.C_drew ?_))); (case side2 => exact (Kd.S_reads' HO592.out).2.1); (case side3 => repeat (first | exact (Kd.R_reads' HO_16.out).2.2 | (with_reducible refine Kd.C_alloc ?_ _) | (with_reducible refine Kd.C_drewN ?_ _) | (with_reducible refine Kd.C_drew ?_))); (case side4 => exact (Kd.R_reads' HO_16.out).2.1); rintro e w85 ⟨rfl, hb⟩; have n0_ := Aside0.mk (Kd.R_below (by (with_reducible repeat (first | apply Kd.R_alloc | apply Kd.R_drewN | apply Kd.R_drew)); exact HO_7.out) hb); have n1_ := Aside0.mk (Kd.R_below (by (with_reducible repeat (first | apply Kd.R_alloc | apply Kd.R_drewN | apply Kd.R_drew)); exact HO_10.out) hb); have n2_ := Aside0.mk (Kd.R_below (by (with_reducible repeat (first | apply Kd.R_alloc | apply Kd.R_drewN | apply Kd.R_drew)); exact HO_14.out) hb); have n3_ := Aside0.mk (Kd.R_below (by (with_reducible repeat (first | apply Kd.R_alloc | apply Kd.R_drewN | apply Kd.R_drew)); exact HO_16.out) hb); have n4_ := Aside0.mk (Kd.S_below (by (with_reducible repeat (first | apply Kd.S_alloc | apply Kd.S_drewN | apply Kd.S_drew)); exact HO589.out) hb); have n5_ := Aside0.mk (Kd.S_below (by (with_reducible repeat (first | apply Kd.S_alloc | apply Kd.S_drewN | apply Kd.S_drew)); exact HO592.out) hb); have n6_ := Aside0.mk (below_step (by repeat (first | (with_reducible first | exact HB.out | apply below_alloc | apply pw_below_drewN | apply below_drew1) | exact HB.out)) hb); clear HO_7; clear HO_10; clear HO_14; clear HO_16; clear HO589; clear HO592; clear HB; have HO_7 := n0_; have HO_10 := n1_; have HO_14 := n2_; have HO_16 := n3_; have HO589 := n4_; have HO592 := n5_; have HB := n6_; clear n0_ n1_ n2_ n3_ n4_ n5_ n6_; (try clear hb); (try clear hb2); (try clear hk); (try clear hi)) | (go_at_call 24; (with_reducible refine (orreryref19_Size.calls kj24 _ _ t576 t596 _ ?side1 ?side2 A53.out).mono ?_); (case side1 => repeat (first | exact (Kd.R_reads' HO_14.out).2.2 | (with_reducible refine Kd.C_alloc ?_ _) | (with_reducible refine Kd.C_drewN ?_ _) | (with_reducible refine Kd.C_drew ?_))); (case side2 => exact (Kd.R_reads' HO_14.out).2.1); rintro e w' ⟨rfl, ⟨nd, rfl⟩⟩))
        go_ret
        exact ⟨by first | rfl | (simp [errW_none, errW_some] <;> rfl) | (simp [*, errW_none, errW_some] <;> rfl), by repeat (first | (with_reducible first | exact HB.out | apply below_alloc | apply pw_below_drewN | apply below_drew1) | exact HB.out)⟩
       rw [if_pos c54] at H
       have c54b0 : (t596 == a0) = true := beq_iff_eq.mpr c54
       have c54b1 : (t596 != a0) = false := bne_eq_false_iff_eq.mpr c54
       clear c54
       replace H := Option.bind_eq_some_iff.mp H
       obtain ⟨t597, A550, H⟩ := H
       replace H : (if t597 = a0 then ((orreryref19_Sum.f kj24 t587 t576).bind fun t598 => ((orreryref19_Sum.f kj24 t590 t580).bind fun t599 => (some (t598 == t599)))) else (some false)) = some r := H
       have A55 := Aside0.mk A550
       clear A550
       by_cases c56 : t597 = a0
       case neg =>
        rw [if_neg c56] at H
        have c56b0 : (t597 == a0) = false := beq_eq_false_iff_ne.mpr c56
        have c56b1 : (t597 != a0) = true := bne_iff_ne.mpr c56
        obtain rfl := Option.some.inj H
        go_wp2_with (first | ((with_reducible refine gate_callee (f := 15) rfl ?_); refine goesL_ (some 126) rfl rfl Try.func15 (by kernel_rfl) rfl #[.int .i64 a0, .int .i64 a0, .slice A1 l1.length c1] rfl (by (try simp only [List.map_toArray, List.map_cons, List.map_nil]); first | done | rfl | (simp only [List.length_drop, List.length_take]; rfl)) ?_; (with_reducible refine (orreryref19_Table.calls kj24 a0 a0 _ _ l1 t587 _ ?side1 ?side2 A45.out).mono ?_); (case side1 => repeat (first | exact (Kd.C_below HR1.out HB.out) | (with_reducible refine Kd.C_alloc ?_ _) | (with_reducible refine Kd.C_drewN ?_ _) | (with_reducible refine Kd.C_drew ?_))); (case side2 => exact HC1.out); rintro e w68 ⟨v588, rfl, ho0, hb⟩; refine ⟨_, rfl, ?_⟩; have n0_ := Aside0.mk (Kd.R_below (by (with_reducible repeat (first | apply Kd.R_alloc | apply Kd.R_drewN | apply Kd.R_drew)); exact HO_7.out) hb); have n1_ := Aside0.mk (Kd.R_below (by (with_reducible repeat (first | apply Kd.R_alloc | apply Kd.R_drewN | apply Kd.R_drew)); exact HO_10.out) hb); have n2_ := Aside0.mk (Kd.R_below (by (with_reducible repeat (first | apply Kd.R_alloc | apply Kd.R_drewN | apply Kd.R_drew)); exact HO_14.out) hb); have n3_ := Aside0.mk (Kd.R_below (by (with_reducible repeat (first | apply Kd.R_alloc | apply Kd.R_drewN | apply Kd.R_drew)); exact HO_16.out) hb); have n4_ := Aside0.mk (Kd.S_lower (Kd.S_new' (Kd.S_new' (Kd.S_new' ho0 (Kd.R_lt (by (with_reducible repeat (first | apply Kd.R_alloc | apply Kd.R_drewN | apply Kd.R_drew)); exact HO_10.out))) (Kd.R_lt (by (with_reducible repeat (first | apply Kd.R_alloc | apply Kd.R_drewN | apply Kd.R_drew)); exact HO_14.out))) (Kd.R_lt (by (with_reducible repeat (first | apply Kd.R_alloc | apply Kd.R_drewN | apply Kd.R_drew)); exact HO_16.out))) (below_size (by repeat (first | (with_reducible first | exact HB.out | apply below_alloc | apply pw_below_drewN | apply below_drew1) | exact HB.out)))); have n5_ := Aside0.mk (below_step (by repeat (first | (with_reducible first | exact HB.out | apply below_alloc | apply pw_below_drewN | apply below_drew1) | exact HB.out)) hb); clear HO_7; clear HO_10; clear HO_14; clear HO_16; clear HB; have HO_7 := n0_; have HO_10 := n1_; have HO_14 := n2_; have HO_16 := n3_; have HO589 := n4_; have HB := n5_; clear n0_ n1_ n2_ n3_ n4_ n5_; (try clear hb); (try clear hb2); (try clear hk); (try clear hi); (try clear ho0)) | ((with_reducible refine gate_callee (f := 15) rfl ?_); refine goesL_ (some 130) rfl rfl Try.func15 (by kernel_rfl) rfl #[.int .i64 a0, .int .i64 a0, .slice Ao27 x7_2.length co27] rfl (by (try simp only [List.map_toArray, List.map_cons, List.map_nil]); first | done | rfl | (simp only [List.length_drop, List.length_take]; rfl)) ?_; (with_reducible refine (orreryref19_Table.calls kj24 a0 a0 _ _ x7_2 t590 _ ?side1 ?side2 A46.out).mono ?_); (case side1 => repeat (first | exact (Kd.R_reads' HO_7.out).2.2 | (with_reducible refine Kd.C_alloc ?_ _) | (with_reducible refine Kd.C_drewN ?_ _) | (with_reducible refine Kd.C_drew ?_))); (case side2 => exact (Kd.R_reads' HO_7.out).2.1); rintro e w69 ⟨v591, rfl, ho0, hb⟩; refine ⟨_, rfl, ?_⟩; have n0_ := Aside0.mk (Kd.R_below (by (with_reducible repeat (first | apply Kd.R_alloc | apply Kd.R_drewN | apply Kd.R_drew)); exact HO_7.out) hb); have n1_ := Aside0.mk (Kd.R_below (by (with_reducible repeat (first | apply Kd.R_alloc | apply Kd.R_drewN | apply Kd.R_drew)); exact HO_10.out) hb); have n2_ := Aside0.mk (Kd.R_below (by (with_reducible repeat (first | apply Kd.R_alloc | apply Kd.R_drewN | apply Kd.R_drew)); exact HO_14.out) hb); have n3_ := Aside0.mk (Kd.R_below (by (with_reducible repeat (first | apply Kd.R_alloc | apply Kd.R_drewN | apply Kd.R_drew)); exact HO_16.out) hb); have n4_ := Aside0.mk (Kd.S_elder' (by (with_reducible repeat (first | apply Kd.S_alloc | apply Kd.S_drewN | apply Kd.S_drew)); exact HO589.out) (Kd.S_base ho0) hb); have n5_ := Aside0.mk (Kd.S_lower (Kd.S_new' (Kd.S_new' (Kd.S_new' (Kd.S_new' ho0 (Kd.R_lt (by (with_reducible repeat (first | apply Kd.R_alloc | apply Kd.R_drewN | apply Kd.R_drew)); exact HO_10.out))) (Kd.R_lt (by (with_reducible repeat (first | apply Kd.R_alloc | apply Kd.R_drewN | apply Kd.R_drew)); exact HO_14.out))) (Kd.R_lt (by (with_reducible repeat (first | apply Kd.R_alloc | apply Kd.R_drewN | apply Kd.R_drew)); exact HO_16.out))) (Kd.S_lt (by (with_reducible repeat (first | apply Kd.S_alloc | apply Kd.S_drewN | apply Kd.S_drew)); exact HO589.out))) (below_size (by repeat (first | (with_reducible first | exact HB.out | apply below_alloc | apply pw_below_drewN | apply below_drew1) | exact HB.out)))); have n6_ := Aside0.mk (below_step (by repeat (first | (with_reducible first | exact HB.out | apply below_alloc | apply pw_below_drewN | apply below_drew1) | exact HB.out)) hb); clear HO_7; clear HO_10; clear HO_14; clear HO_16; clear HO589; clear HB; have HO_7 := n0_; have HO_10 := n1_; have HO_14 := n2_; have HO_16 := n3_; have HO589 := n4_; have HO592 := n5_; have HB := n6_; clear n0_ n1_ n2_ n3_ n4_ n5_ n6_; (try clear hb); (try clear hb2); (try clear hk); (try clear hi); (try clear ho0); obtain ⟨Ao70, co70, eo70⟩ := Kd.R_slice HO_10.out; subst eo70) | ((with_reducible refine gate_callee (f := 24) rfl ?_); refine goesL_ (some 132) rfl rfl Try.func24 (by kernel_rfl) rfl #[.slice Ao70 t568.length co70] rfl (by (try simp only [List.map_toArray, List.map_cons, List.map_nil]); first | done | rfl | (simp only [List.length_drop, List.length_take]; rfl)) ?_; (with_reducible refine (orreryref19_Size.calls kj24 _ _ t568 t593 _ ?side1 ?side2 A47.out).mono ?_); (case side1 => repeat (first | exact (Kd.R_reads' HO_10.out).2.2 | (with_reducible refine Kd.C_alloc ?_ _) | (with_reducible refine Kd.C_drewN ?_ _) | (with_reducible refine Kd.C_drew ?_))); (case side2 => exact (Kd.R_reads' HO_10.out).2.1); rintro e w' ⟨rfl, ⟨nd, rfl⟩⟩; refine ⟨_, rfl, ?_⟩; obtain ⟨Ao71, co71, eo71⟩ := Kd.S_slice HO589.out; subst eo71; obtain ⟨Ao72, co72, eo72⟩ := Kd.R_slice HO_14.out; subst eo72) | (go_at_call 16; (with_reducible refine (orreryref19_Matching.calls kj24 _ _ t587 a0 _ _ t576 true _ ?side1 ?side2 ?side3 ?side4 A49.out).mono ?_); (case side1 => repeat (first | exact (Kd.S_reads' HO589.out).2.2 | (with_reducible refine Kd.C_alloc ?_ _) | (with_reducible refine Kd.C_drewN ?_ _) | (with_reducible refine Kd.C_drew ?_))); (case side2 => exact (Kd.S_reads' HO589.out).2.1); (case side3 => repeat (first | exact (Kd.R_reads' HO_14.out).2.2 | (with_reducible refine Kd.C_alloc ?_ _) | (with_reducible refine Kd.C_drewN ?_ _) | (with_reducible refine Kd.C_drew ?_))); (case side4 => exact (Kd.R_reads' HO_14.out).2.1); rintro e w73 ⟨rfl, hb⟩; have n0_ := Aside0.mk (Kd.R_below (by (with_reducible repeat (first | apply Kd.R_alloc | apply Kd.R_drewN | apply Kd.R_drew)); exact HO_7.out) hb); have n1_ := Aside0.mk (Kd.R_below (by (with_reducible repeat (first | apply Kd.R_alloc | apply Kd.R_drewN | apply Kd.R_drew)); exact HO_10.out) hb); have n2_ := Aside0.mk (Kd.R_below (by (with_reducible repeat (first | apply Kd.R_alloc | apply Kd.R_drewN | apply Kd.R_drew)); exact HO_14.out) hb); have n3_ := Aside0.mk (Kd.R_below (by (with_reducible repeat (first | apply Kd.R_alloc | apply Kd.R_drewN | apply Kd.R_drew)); exact HO_16.out) hb); have n4_ := Aside0.mk (Kd.S_below (by (with_reducible repeat (first | apply Kd.S_alloc | apply Kd.S_drewN | apply Kd.S_drew)); exact HO589.out) hb); have n5_ := Aside0.mk (Kd.S_below (by (with_reducible repeat (first | apply Kd.S_alloc | apply Kd.S_drewN | apply Kd.S_drew)); exact HO592.out) hb); have n6_ := Aside0.mk (below_step (by repeat (first | (with_reducible first | exact HB.out | apply below_alloc | apply pw_below_drewN | apply below_drew1) | exact HB.out)) hb); clear HO_7; clear HO_10; clear HO_14; clear HO_16; clear HO589; clear HO592; clear HB; have HO_7 := n0_; have HO_10 := n1_; have HO_14 := n2_; have HO_16 := n3_; have HO589 := n4_; have HO592 := n5_; have HB := n6_; clear n0_ n1_ n2_ n3_ n4_ n5_ n6_; (try clear hb); (try clear hb2); (try clear hk); (try clear hi); obtain ⟨Ao74, co74, eo74⟩ := Kd.S_slice HO592.out; subst eo74; obtain ⟨Ao75, co75, eo75⟩ := Kd.R_slice HO_16.out; subst eo75) | (go_at_call 16; (with_reducible refine (orreryref19_Matching.calls kj24 _ _ t590 a0 _ _ t580 true _ ?side1 ?side2 ?side3 ?side4 A51.out).mono ?_); (case side1 => repeat (first | exact (Kd.S_reads' HO592.out).2.2 | (with_reducible refine Kd.C_alloc ?_ _) | (with_reducible refine Kd.C_drewN ?_ _) | (with_reducible refine Kd.C_drew ?_))); (case side2 => exact (Kd.S_reads' HO592.out).2.1); (case side3 => repeat (first | exact (Kd.R_reads' HO_16.out).2.2 | (with_reducible refine Kd.C_alloc ?_ _) | (with_reducible refine Kd.C_drewN ?_ _) | (with_reducible refine Kd.C_drew ?_))); (case side4 => exact (Kd.R_reads' HO_16.out).2.1); rintro e w76 ⟨rfl, hb⟩; have n0_ := Aside0.mk (Kd.R_below (by (with_reducible repeat (first | apply Kd.R_alloc | apply Kd.R_drewN | apply Kd.R_drew)); exact HO_7.out) hb); have n1_ := Aside0.mk (Kd.R_below (by (with_reducible repeat (first | apply Kd.R_alloc | apply Kd.R_drewN | apply Kd.R_drew)); exact HO_10.out) hb); have n2_ := Aside0.mk (Kd.R_below (by (with_reducible repeat (first | apply Kd.R_alloc | apply Kd.R_drewN | apply Kd.R_drew)); exact HO_14.out) hb); have n3_ := Aside0.mk (Kd.R_below (by (with_reducible repeat (first | apply Kd.R_alloc | apply Kd.R_drewN | apply Kd.R_drew)); exact HO_16.out) hb); have n4_ := Aside0.mk (Kd.S_below (by (with_reducible repeat (first | apply Kd.S_alloc | apply Kd.S_drewN | apply Kd.S_drew)); exact HO589.out) hb); have n5_ := Aside0.mk (Kd.S_below (by (with_reducible repeat (first | apply Kd.S_alloc | apply Kd.S_drewN | apply Kd.S_drew)); exact HO592.out) hb); have n6_ := Aside0.mk (below_step (by repeat (first | (with_reducible first | exact HB.out | apply below_alloc | apply pw_below_drewN | apply below_drew1) | exact HB.out)) hb); clear HO_7; clear HO_10; clear HO_14; clear HO_16; clear HO589; clear HO592; clear HB; have HO_7 := n0_; have HO_10 := n1_; have HO_14 := n2_; have HO_16 := n3_; have HO589 := n4_; have HO592 := n5_; have HB := n6_; clear n0_ n1_ n2_ n3_ n4_ n5_ n6_; (try clear hb); (try clear hb2); (try clear hk); (try clear hi)) | (go_at_call 24; (with_reducible refine (orreryref19_Size.calls kj24 _ _ t576 t596 _ ?side1 ?side2 A53.out).mono ?_); (case side1 => repeat (first | exact (Kd.R_reads' HO_14.out).2.2 | (with_reducible refine Kd.C_alloc ?_ _) | (with_reducible refine Kd.C_drewN ?_ _) | (with_reducible refine Kd.C_drew ?_))); (case side2 => exact (Kd.R_reads' HO_14.out).2.1); rintro e w' ⟨rfl, ⟨nd, rfl⟩⟩) | (go_at_call 24; (with_reducible refine (orreryref19_Size.calls kj24 _ _ t580 t597 _ ?side1 ?side2 A55.out).mono ?_); (case side1 => repeat (first | exact (Kd.R_reads' HO_16.out).2.2 | (with_reducible refine Kd.C_alloc ?_ _) | (with_reducible refine Kd.C_drewN ?_ _) | (with_reducible refine Kd.C_drew ?_))); (case side2 => exact (Kd.R_reads' HO_16.out).2.1); rintro e w' ⟨rfl, ⟨nd, rfl⟩⟩))
        go_ret
        exact ⟨by first | rfl | (simp [errW_none, errW_some] <;> rfl) | (simp [*, errW_none, errW_some] <;> rfl), by repeat (first | (with_reducible first | exact HB.out | apply below_alloc | apply pw_below_drewN | apply below_drew1) | exact HB.out)⟩
       rw [if_pos c56] at H
       have c56b0 : (t597 == a0) = true := beq_iff_eq.mpr c56
       have c56b1 : (t597 != a0) = false := bne_eq_false_iff_eq.mpr c56
       clear c56
       replace H := Option.bind_eq_some_iff.mp H
       obtain ⟨t598, A570, H⟩ := H
       replace H : ((orreryref19_Sum.f kj24 t590 t580).bind fun t599 => (some (t598 == t599))) = some r := H
       have A57 := Aside0.mk A570
       clear A570
       replace H := Option.bind_eq_some_iff.mp H
       obtain ⟨t599, A580, H⟩ := H
       replace H : (some (t598 == t599)) = some r := H
       have A58 := Aside0.mk A580
       clear A580
       obtain rfl := Option.some.inj H
       go_wp2_with (first | ((with_reducible refine gate_callee (f := 15) rfl ?_); refine goesL_ (some 126) rfl rfl Try.func15 (by kernel_rfl) rfl #[.int .i64 a0, .int .i64 a0, .slice A1 l1.length c1] rfl (by (try simp only [List.map_toArray, List.map_cons, List.map_nil]); first | done | rfl | (simp only [List.length_drop, List.length_take]; rfl)) ?_; (with_reducible refine (orreryref19_Table.calls kj24 a0 a0 _ _ l1 t587 _ ?side1 ?side2 A45.out).mono ?_); (case side1 => repeat (first | exact (Kd.C_below HR1.out HB.out) | (with_reducible refine Kd.C_alloc ?_ _) | (with_reducible refine Kd.C_drewN ?_ _) | (with_reducible refine Kd.C_drew ?_))); (case side2 => exact HC1.out); rintro e w59 ⟨v588, rfl, ho0, hb⟩; refine ⟨_, rfl, ?_⟩; have n0_ := Aside0.mk (Kd.R_below (by (with_reducible repeat (first | apply Kd.R_alloc | apply Kd.R_drewN | apply Kd.R_drew)); exact HO_7.out) hb); have n1_ := Aside0.mk (Kd.R_below (by (with_reducible repeat (first | apply Kd.R_alloc | apply Kd.R_drewN | apply Kd.R_drew)); exact HO_10.out) hb); have n2_ := Aside0.mk (Kd.R_below (by (with_reducible repeat (first | apply Kd.R_alloc | apply Kd.R_drewN | apply Kd.R_drew)); exact HO_14.out) hb); have n3_ := Aside0.mk (Kd.R_below (by (with_reducible repeat (first | apply Kd.R_alloc | apply Kd.R_drewN | apply Kd.R_drew)); exact HO_16.out) hb); have n4_ := Aside0.mk (Kd.S_lower (Kd.S_new' (Kd.S_new' (Kd.S_new' ho0 (Kd.R_lt (by (with_reducible repeat (first | apply Kd.R_alloc | apply Kd.R_drewN | apply Kd.R_drew)); exact HO_10.out))) (Kd.R_lt (by (with_reducible repeat (first | apply Kd.R_alloc | apply Kd.R_drewN | apply Kd.R_drew)); exact HO_14.out))) (Kd.R_lt (by (with_reducible repeat (first | apply Kd.R_alloc | apply Kd.R_drewN | apply Kd.R_drew)); exact HO_16.out))) (below_size (by repeat (first | (with_reducible first | exact HB.out | apply below_alloc | apply pw_below_drewN | apply below_drew1) | exact HB.out)))); have n5_ := Aside0.mk (below_step (by repeat (first | (with_reducible first | exact HB.out | apply below_alloc | apply pw_below_drewN | apply below_drew1) | exact HB.out)) hb); clear HO_7; clear HO_10; clear HO_14; clear HO_16; clear HB; have HO_7 := n0_; have HO_10 := n1_; have HO_14 := n2_; have HO_16 := n3_; have HO589 := n4_; have HB := n5_; clear n0_ n1_ n2_ n3_ n4_ n5_; (try clear hb); (try clear hb2); (try clear hk); (try clear hi); (try clear ho0)) | ((with_reducible refine gate_callee (f := 15) rfl ?_); refine goesL_ (some 130) rfl rfl Try.func15 (by kernel_rfl) rfl #[.int .i64 a0, .int .i64 a0, .slice Ao27 x7_2.length co27] rfl (by (try simp only [List.map_toArray, List.map_cons, List.map_nil]); first | done | rfl | (simp only [List.length_drop, List.length_take]; rfl)) ?_; (with_reducible refine (orreryref19_Table.calls kj24 a0 a0 _ _ x7_2 t590 _ ?side1 ?side2 A46.out).mono ?_); (case side1 => repeat (first | exact (Kd.R_reads' HO_7.out).2.2 | (with_reducible refine Kd.C_alloc ?_ _) | (with_reducible refine Kd.C_drewN ?_ _) | (with_reducible refine Kd.C_drew ?_))); (case side2 => exact (Kd.R_reads' HO_7.out).2.1); rintro e w60 ⟨v591, rfl, ho0, hb⟩; refine ⟨_, rfl, ?_⟩; have n0_ := Aside0.mk (Kd.R_below (by (with_reducible repeat (first | apply Kd.R_alloc | apply Kd.R_drewN | apply Kd.R_drew)); exact HO_7.out) hb); have n1_ := Aside0.mk (Kd.R_below (by (with_reducible repeat (first | apply Kd.R_alloc | apply Kd.R_drewN | apply Kd.R_drew)); exact HO_10.out) hb); have n2_ := Aside0.mk (Kd.R_below (by (with_reducible repeat (first | apply Kd.R_alloc | apply Kd.R_drewN | apply Kd.R_drew)); exact HO_14.out) hb); have n3_ := Aside0.mk (Kd.R_below (by (with_reducible repeat (first | apply Kd.R_alloc | apply Kd.R_drewN | apply Kd.R_drew)); exact HO_16.out) hb); have n4_ := Aside0.mk (Kd.S_elder' (by (with_reducible repeat (first | apply Kd.S_alloc | apply Kd.S_drewN | apply Kd.S_drew)); exact HO589.out) (Kd.S_base ho0) hb); have n5_ := Aside0.mk (Kd.S_lower (Kd.S_new' (Kd.S_new' (Kd.S_new' (Kd.S_new' ho0 (Kd.R_lt (by (with_reducible repeat (first | apply Kd.R_alloc | apply Kd.R_drewN | apply Kd.R_drew)); exact HO_10.out))) (Kd.R_lt (by (with_reducible repeat (first | apply Kd.R_alloc | apply Kd.R_drewN | apply Kd.R_drew)); exact HO_14.out))) (Kd.R_lt (by (with_reducible repeat (first | apply Kd.R_alloc | apply Kd.R_drewN | apply Kd.R_drew)); exact HO_16.out))) (Kd.S_lt (by (with_reducible repeat (first | apply Kd.S_alloc | apply Kd.S_drewN | apply Kd.S_drew)); exact HO589.out))) (below_size (by repeat (first | (with_reducible first | exact HB.out | apply below_alloc | apply pw_below_drewN | apply below_drew1) | exact HB.out)))); have n6_ := Aside0.mk (below_step (by repeat (first | (with_reducible first | exact HB.out | apply below_alloc | apply pw_below_drewN | apply below_drew1) | exact HB.out)) hb); clear HO_7; clear HO_10; clear HO_14; clear HO_16; clear HO589; clear HB; have HO_7 := n0_; have HO_10 := n1_; have HO_14 := n2_; have HO_16 := n3_; have HO589 := n4_; have HO592 := n5_; have HB := n6_; clear n0_ n1_ n2_ n3_ n4_ n5_ n6_; (try clear hb); (try clear hb2); (try clear hk); (try clear hi); (try clear ho0); obtain ⟨Ao61, co61, eo61⟩ := Kd.R_slice HO_10.out; subst eo61) | ((with_reducible refine gate_callee (f := 24) rfl ?_); refine goesL_ (some 132) rfl rfl Try.func24 (by kernel_rfl) rfl #[.slice Ao61 t568.length co61] rfl (by (try simp only [List.map_toArray, List.map_cons, List.map_nil]); first | done | rfl | (simp only [List.length_drop, List.length_take]; rfl)) ?_; (with_reducible refine (orreryref19_Size.calls kj24 _ _ t568 t593 _ ?side1 ?side2 A47.out).mono ?_); (case side1 => repeat (first | exact (Kd.R_reads' HO_10.out).2.2 | (with_reducible refine Kd.C_alloc ?_ _) | (with_reducible refine Kd.C_drewN ?_ _) | (with_reducible refine Kd.C_drew ?_))); (case side2 => exact (Kd.R_reads' HO_10.out).2.1); rintro e w' ⟨rfl, ⟨nd, rfl⟩⟩; refine ⟨_, rfl, ?_⟩; obtain ⟨Ao62, co62, eo62⟩ := Kd.S_slice HO589.out; subst eo62; obtain ⟨Ao63, co63, eo63⟩ := Kd.R_slice HO_14.out; subst eo63) | (go_at_call 16; (with_reducible refine (orreryref19_Matching.calls kj24 _ _ t587 a0 _ _ t576 true _ ?side1 ?side2 ?side3 ?side4 A49.out).mono ?_); (case side1 => repeat (first | exact (Kd.S_reads' HO589.out).2.2 | (with_reducible refine Kd.C_alloc ?_ _) | (with_reducible refine Kd.C_drewN ?_ _) | (with_reducible refine Kd.C_drew ?_))); (case side2 => exact (Kd.S_reads' HO589.out).2.1); (case side3 => repeat (first | exact (Kd.R_reads' HO_14.out).2.2 | (with_reducible refine Kd.C_alloc ?_ _) | (with_reducible refine Kd.C_drewN ?_ _) | (with_reducible refine Kd.C_drew ?_))); (case side4 => exact (Kd.R_reads' HO_14.out).2.1); rintro e w64 ⟨rfl, hb⟩; have n0_ := Aside0.mk (Kd.R_below (by (with_reducible repeat (first | apply Kd.R_alloc | apply Kd.R_drewN | apply Kd.R_drew)); exact HO_7.out) hb); have n1_ := Aside0.mk (Kd.R_below (by (with_reducible repeat (first | apply Kd.R_alloc | apply Kd.R_drewN | apply Kd.R_drew)); exact HO_10.out) hb); have n2_ := Aside0.mk (Kd.R_below (by (with_reducible repeat (first | apply Kd.R_alloc | apply Kd.R_drewN | apply Kd.R_drew)); exact HO_14.out) hb); have n3_ := Aside0.mk (Kd.R_below (by (with_reducible repeat (first | apply Kd.R_alloc | apply Kd.R_drewN | apply Kd.R_drew)); exact HO_16.out) hb); have n4_ := Aside0.mk (Kd.S_below (by (with_reducible repeat (first | apply Kd.S_alloc | apply Kd.S_drewN | apply Kd.S_drew)); exact HO589.out) hb); have n5_ := Aside0.mk (Kd.S_below (by (with_reducible repeat (first | apply Kd.S_alloc | apply Kd.S_drewN | apply Kd.S_drew)); exact HO592.out) hb); have n6_ := Aside0.mk (below_step (by repeat (first | (with_reducible first | exact HB.out | apply below_alloc | apply pw_below_drewN | apply below_drew1) | exact HB.out)) hb); clear HO_7; clear HO_10; clear HO_14; clear HO_16; clear HO589; clear HO592; clear HB; have HO_7 := n0_; have HO_10 := n1_; have HO_14 := n2_; have HO_16 := n3_; have HO589 := n4_; have HO592 := n5_; have HB := n6_; clear n0_ n1_ n2_ n3_ n4_ n5_ n6_; (try clear hb); (try clear hb2); (try clear hk); (try clear hi); obtain ⟨Ao65, co65, eo65⟩ := Kd.S_slice HO592.out; subst eo65; obtain ⟨Ao66, co66, eo66⟩ := Kd.R_slice HO_16.out; subst eo66) | (go_at_call 16; (with_reducible refine (orreryref19_Matching.calls kj24 _ _ t590 a0 _ _ t580 true _ ?side1 ?side2 ?side3 ?side4 A51.out).mono ?_); (case side1 => repeat (first | exact (Kd.S_reads' HO592.out).2.2 | (with_reducible refine Kd.C_alloc ?_ _) | (with_reducible refine Kd.C_drewN ?_ _) | (with_reducible refine Kd.C_drew ?_))); (case side2 => exact (Kd.S_reads' HO592.out).2.1); (case side3 => repeat (first | exact (Kd.R_reads' HO_16.out).2.2 | (with_reducible refine Kd.C_alloc ?_ _) | (with_reducible refine Kd.C_drewN ?_ _) | (with_reducible refine Kd.C_drew ?_))); (case side4 => exact (Kd.R_reads' HO_16.out).2.1); rintro e w67 ⟨rfl, hb⟩; have n0_ := Aside0.mk (Kd.R_below (by (with_reducible repeat (first | apply Kd.R_alloc | apply Kd.R_drewN | apply Kd.R_drew)); exact HO_7.out) hb); have n1_ := Aside0.mk (Kd.R_below (by (with_reducible repeat (first | apply Kd.R_alloc | apply Kd.R_drewN | apply Kd.R_drew)); exact HO_10.out) hb); have n2_ := Aside0.mk (Kd.R_below (by (with_reducible repeat (first | apply Kd.R_alloc | apply Kd.R_drewN | apply Kd.R_drew)); exact HO_14.out) hb); have n3_ := Aside0.mk (Kd.R_below (by (with_reducible repeat (first | apply Kd.R_alloc | apply Kd.R_drewN | apply Kd.R_drew)); exact HO_16.out) hb); have n4_ := Aside0.mk (Kd.S_below (by (with_reducible repeat (first | apply Kd.S_alloc | apply Kd.S_drewN | apply Kd.S_drew)); exact HO589.out) hb); have n5_ := Aside0.mk (Kd.S_below (by (with_reducible repeat (first | apply Kd.S_alloc | apply Kd.S_drewN | apply Kd.S_drew)); exact HO592.out) hb); have n6_ := Aside0.mk (below_step (by repeat (first | (with_reducible first | exact HB.out | apply below_alloc | apply pw_below_drewN | apply below_drew1) | exact HB.out)) hb); clear HO_7; clear HO_10; clear HO_14; clear HO_16; clear HO589; clear HO592; clear HB; have HO_7 := n0_; have HO_10 := n1_; have HO_14 := n2_; have HO_16 := n3_; have HO589 := n4_; have HO592 := n5_; have HB := n6_; clear n0_ n1_ n2_ n3_ n4_ n5_ n6_; (try clear hb); (try clear hb2); (try clear hk); (try clear hi)) | (go_at_call 24; (with_reducible refine (orreryref19_Size.calls kj24 _ _ t576 t596 _ ?side1 ?side2 A53.out).mono ?_); (case side1 => repeat (first | exact (Kd.R_reads' HO_14.out).2.2 | (with_reducible refine Kd.C_alloc ?_ _) | (with_reducible refine Kd.C_drewN ?_ _) | (with_reducible refine Kd.C_drew ?_))); (case side2 => exact (Kd.R_reads' HO_14.out).2.1); rintro e w' ⟨rfl, ⟨nd, rfl⟩⟩) | (go_at_call 24; (with_reducible refine (orreryref19_Size.calls kj24 _ _ t580 t597 _ ?side1 ?side2 A55.out).mono ?_); (case side1 => repeat (first | exact (Kd.R_reads' HO_16.out).2.2 | (with_reducible refine Kd.C_alloc ?_ _) | (with_reducible refine Kd.C_drewN ?_ _) | (with_reducible refine Kd.C_drew ?_))); (case side2 => exact (Kd.R_reads' HO_16.out).2.1); rintro e w' ⟨rfl, ⟨nd, rfl⟩⟩) | (go_at_call 26; (with_reducible refine (orreryref19_Sum.calls kj24 _ _ t587 _ _ t576 t598 _ ?side1 ?side2 ?side3 ?side4 A57.out).mono ?_); (case side1 => repeat (first | exact (Kd.S_reads' HO589.out).2.2 | (with_reducible refine Kd.C_alloc ?_ _) | (with_reducible refine Kd.C_drewN ?_ _) | (with_reducible refine Kd.C_drew ?_))); (case side2 => exact (Kd.S_reads' HO589.out).2.1); (case side3 => repeat (first | exact (Kd.R_reads' HO_14.out).2.2 | (with_reducible refine Kd.C_alloc ?_ _) | (with_reducible refine Kd.C_drewN ?_ _) | (with_reducible refine Kd.C_drew ?_))); (case side4 => exact (Kd.R_reads' HO_14.out).2.1); rintro e w' ⟨rfl, ⟨nd, rfl⟩⟩) | (go_at_call 26; (with_reducible refine (orreryref19_Sum.calls kj24 _ _ t590 _ _ t580 t599 _ ?side1 ?side2 ?side3 ?side4 A58.out).mono ?_); (case side1 => repeat (first | exact (Kd.S_reads' HO592.out).2.2 | (with_reducible refine Kd.C_alloc ?_ _) | (with_reducible refine Kd.C_drewN ?_ _) | (with_reducible refine Kd.C_drew ?_))); (case side2 => exact (Kd.S_reads' HO592.out).2.1); (case side3 => repeat (first | exact (Kd.R_reads' HO_16.out).2.2 | (with_reducible refine Kd.C_alloc ?_ _) | (with_reducible refine Kd.C_drewN ?_ _) | (with_reducible refine Kd.C_drew ?_))); (case side4 => exact (Kd.R_reads' HO_16.out).2.1); rintro e w' ⟨rfl, ⟨nd, rfl⟩⟩))
       go_ret
       exact ⟨by first | rfl | (simp [errW_none, errW_some] <;> rfl) | (simp [*, errW_none, errW_some] <;> rfl), by repeat (first | (with_reducible first | exact HB.out | apply below_alloc | apply pw_below_drewN | apply below_drew1) | exact HB.out)⟩

end Go.Proofs.Ytamloclgignfgaa.PA
