/- What the Go functions of this part compute, as Lean functions, and that the machine's calls come to just that; written for this claim by a program of the session (gen.sh, after the kit's printer). -/
import Derived.Test.YtamloclgignfgaaPAx0
import Derived.Test.YtamloclgignfgaaSq
import Derived.Test.YtamloclgignfgaaPAx5
import Derived.Test.YtamloclgignfgaaPAx6
import Derived.Test.YtamloclgignfgaaPAx7
import Derived.Test.YtamloclgignfgaaPAx21
import Derived.Test.YtamloclgignfgaaPAx22
import Derived.Test.YtamloclgignfgaaPAx25
import Derived.Test.YtamloclgignfgaaGiven
namespace Go.Proofs.Ytamloclgignfgaa.PA
open Go.RowKit Go.Proofs.YtamloclgignfgaaW.PrintWords Go.Proofs.YtamloclgignfgaaW.PrintLast Go.Proofs.YtamloclgignfgaaW.PrintMore
attribute [local go_sem] max2_int min2_int max_two min_two max_three min_three max_four min_four   -- for this text's walks alone
set_option linter.unusedVariables false
set_option linter.unusedSimpArgs false

/-! ### orrerylaw19_MatchMore: function 9 -/
mutual
def orrerylaw19_MatchMore.j0 : Nat → Int → List (S40) → Bool → Int → Int → Int → Option (Bool)
  | 0, _, _, _, _, _, _ => none
  | k + 1, x0, x1, x35, x511000, x511001, x511002 => if x35 = true then (some true) else ((some (([] : List (S40)) : List (S40))).bind fun y516 => (if y516.length + x1.length < 5864062014805 then ((some (y516 ++ x1 : List (S40))).bind fun y519 => ((some (([(⟨x511000, x511001, x511002⟩ : S40)] : List (S40)) : List (S40))).bind fun y522 => (if y519.length + y522.length < 5864062014805 then ((some (y519 ++ y522 : List (S40))).bind fun y525 => ((match_Most.f x0 x0 x1).bind fun bt528 => ((match_Most.f x0 x0 y525).bind fun bt532 => (if bt528.2 = 0 then (if bt532.2 = 0 then (if (bt528.1.length : Int) = x0 then (if (bt532.1.length : Int) = x0 then ((orreryref19_Size.f k bt532.1).bind fun t536 => ((orreryref19_Size.f k bt528.1).bind fun t537 => (if t536 < t537 then (orrerylaw19_MatchMore.j1 k x0 x1 y525 bt528.1 bt532.1 true) else ((orreryref19_Size.f k bt532.1).bind fun t538 => ((orreryref19_Size.f k bt528.1).bind fun t539 => (orrerylaw19_MatchMore.j1 k x0 x1 y525 bt528.1 bt532.1 (decide (t538 > (wrap64 (t539 + 1)))))))))) else (orrerylaw19_MatchMore.j1 k x0 x1 y525 bt528.1 bt532.1 true)) else (orrerylaw19_MatchMore.j1 k x0 x1 y525 bt528.1 bt532.1 true)) else (orrerylaw19_MatchMore.j1 k x0 x1 y525 bt528.1 bt532.1 true)) else (orrerylaw19_MatchMore.j1 k x0 x1 y525 bt528.1 bt532.1 true))))) else (none)))) else (none)))
def orrerylaw19_MatchMore.j1 : Nat → Int → List (S40) → List (S40) → List Int → List Int → Bool → Option (Bool)
  | 0, _, _, _, _, _, _ => none
  | k + 1, x0, x1, x7, x8, x10, x88 => if x88 = true then (some false) else ((match_Assign.f k x0 x1).bind fun bt540 => ((match_Assign.f k x0 x7).bind fun bt544 => ((orreryref19_Size.f k x8).bind fun t548 => (if ((bt540.2 == 0) != (t548 == x0)) = true then (orrerylaw19_MatchMore.j2 k x0 x1 x7 bt540.1 bt540.2 bt544.1 true) else ((orreryref19_Size.f k x10).bind fun t549 => (if ((bt544.2 == 0) != (t549 == x0)) = true then (orrerylaw19_MatchMore.j2 k x0 x1 x7 bt540.1 bt540.2 bt544.1 true) else (if bt540.2 = 0 then (orrerylaw19_MatchMore.j2 k x0 x1 x7 bt540.1 bt540.2 bt544.1 (bt544.2 != 0)) else (orrerylaw19_MatchMore.j2 k x0 x1 x7 bt540.1 bt540.2 bt544.1 false))))))))
def orrerylaw19_MatchMore.j2 : Nat → Int → List (S40) → List (S40) → List Int → Int → List Int → Bool → Option (Bool)
  | 0, _, _, _, _, _, _, _ => none
  | k + 1, x0, x1, x7, x12, x13, x14, x124 => if x124 = true then (some false) else (if x13 = 0 then ((orreryref19_Table.f k x0 x0 x1).bind fun t550 => ((orreryref19_Table.f k x0 x0 x7).bind fun t553 => ((orreryref19_Matching.f k t550 x0 x12).bind fun t556 => (if t556 = true then ((orreryref19_Matching.f k t553 x0 x14).bind fun t557 => (if t557 = true then ((orreryref19_Size.f k x12).bind fun t558 => (if t558 = x0 then ((orreryref19_Size.f k x14).bind fun t559 => (if t559 = x0 then ((orreryref19_Sum.f k t553 x14).bind fun t560 => ((orreryref19_Sum.f k t550 x12).bind fun t561 => (some (decide (t560 ≥ t561))))) else (some false))) else (some false))) else (some false))) else (some false))))) else (some true))
end
def orrerylaw19_MatchMore.f (k : Nat) (a0 : Int) (l1 : List (S40)) (a2_0 : Int) (a2_1 : Int) (a2_2 : Int) : Option (Bool) := (orreryref19_Right.f k a0 a0 l1).bind fun t511 => (if t511 = true then ((orreryref19_Right.f k a0 a0 (([(⟨a2_0, a2_1, a2_2⟩ : S40)] : List (S40)))).bind fun t515 => (if t515 = true then (orrerylaw19_MatchMore.j0 k a0 l1 (decide ((l1.length : Int) > 4000)) a2_0 a2_1 a2_2) else (orrerylaw19_MatchMore.j0 k a0 l1 true a2_0 a2_1 a2_2))) else (orrerylaw19_MatchMore.j0 k a0 l1 true a2_0 a2_1 a2_2))
theorem orrerylaw19_MatchMore.mono_l : ∀ k, (∀ y0 y1 y2 y3 y4 y5, LeO (orrerylaw19_MatchMore.j0 k y0 y1 y2 y3 y4 y5) (orrerylaw19_MatchMore.j0 (k + 1) y0 y1 y2 y3 y4 y5)) ∧ (∀ y0 y1 y2 y3 y4 y5, LeO (orrerylaw19_MatchMore.j1 k y0 y1 y2 y3 y4 y5) (orrerylaw19_MatchMore.j1 (k + 1) y0 y1 y2 y3 y4 y5)) ∧ (∀ y0 y1 y2 y3 y4 y5 y6, LeO (orrerylaw19_MatchMore.j2 k y0 y1 y2 y3 y4 y5 y6) (orrerylaw19_MatchMore.j2 (k + 1) y0 y1 y2 y3 y4 y5 y6))
  | 0 => ⟨fun _ _ _ _ _ _ r h => by simp [orrerylaw19_MatchMore.j0] at h, fun _ _ _ _ _ _ r h => by simp [orrerylaw19_MatchMore.j1] at h, fun _ _ _ _ _ _ _ r h => by simp [orrerylaw19_MatchMore.j2] at h⟩
  | k + 1 => by
    obtain ⟨ih0, ih1, ih2⟩ := orrerylaw19_MatchMore.mono_l k
    refine ⟨?_, ?_, ?_⟩
    · intro y0 y1 y2 y3 y4 y5
      unfold orrerylaw19_MatchMore.j0
      repeat' first
      | (with_reducible exact ih0 _ _ _ _ _ _)
      | (with_reducible exact ih1 _ _ _ _ _ _)
      | (with_reducible exact ih2 _ _ _ _ _ _ _)
      | (with_reducible exact match_Assign.mono _ _ _)
      | (with_reducible exact orreryref19_Matching.mono _ _ _ _)
      | (with_reducible exact orreryref19_Right.mono _ _ _ _)
      | (with_reducible exact orreryref19_Size.mono _ _)
      | (with_reducible exact orreryref19_Sum.mono _ _ _)
      | (with_reducible exact orreryref19_Table.mono _ _ _ _)
      | (with_reducible exact LeO.refl _)
      | (with_reducible exact LeO.none _)
      | (with_reducible refine LeO.ite ?_ ?_)
      | (with_reducible refine LeO.bind ?_ (fun _ => ?_))
      | exact ih0 _ _ _ _ _ _
      | exact ih1 _ _ _ _ _ _
      | exact ih2 _ _ _ _ _ _ _
      | exact match_Assign.mono _ _ _
      | exact orreryref19_Matching.mono _ _ _ _
      | exact orreryref19_Right.mono _ _ _ _
      | exact orreryref19_Size.mono _ _
      | exact orreryref19_Sum.mono _ _ _
      | exact orreryref19_Table.mono _ _ _ _
      | exact LeO.none _
      | refine LeO.ite ?_ ?_
      | refine LeO.bind ?_ (fun _ => ?_)
    · intro y0 y1 y2 y3 y4 y5
      unfold orrerylaw19_MatchMore.j1
      repeat' first
      | (with_reducible exact ih0 _ _ _ _ _ _)
      | (with_reducible exact ih1 _ _ _ _ _ _)
      | (with_reducible exact ih2 _ _ _ _ _ _ _)
      | (with_reducible exact match_Assign.mono _ _ _)
      | (with_reducible exact orreryref19_Matching.mono _ _ _ _)
      | (with_reducible exact orreryref19_Right.mono _ _ _ _)
      | (with_reducible exact orreryref19_Size.mono _ _)
      | (with_reducible exact orreryref19_Sum.mono _ _ _)
      | (with_reducible exact orreryref19_Table.mono _ _ _ _)
      | (with_reducible exact LeO.refl _)
      | (with_reducible exact LeO.none _)
      | (with_reducible refine LeO.ite ?_ ?_)
      | (with_reducible refine LeO.bind ?_ (fun _ => ?_))
      | exact ih0 _ _ _ _ _ _
      | exact ih1 _ _ _ _ _ _
      | exact ih2 _ _ _ _ _ _ _
      | exact match_Assign.mono _ _ _
      | exact orreryref19_Matching.mono _ _ _ _
      | exact orreryref19_Right.mono _ _ _ _
      | exact orreryref19_Size.mono _ _
      | exact orreryref19_Sum.mono _ _ _
      | exact orreryref19_Table.mono _ _ _ _
      | exact LeO.none _
      | refine LeO.ite ?_ ?_
      | refine LeO.bind ?_ (fun _ => ?_)
    · intro y0 y1 y2 y3 y4 y5 y6
      unfold orrerylaw19_MatchMore.j2
      repeat' first
      | (with_reducible exact ih0 _ _ _ _ _ _)
      | (with_reducible exact ih1 _ _ _ _ _ _)
      | (with_reducible exact ih2 _ _ _ _ _ _ _)
      | (with_reducible exact match_Assign.mono _ _ _)
      | (with_reducible exact orreryref19_Matching.mono _ _ _ _)
      | (with_reducible exact orreryref19_Right.mono _ _ _ _)
      | (with_reducible exact orreryref19_Size.mono _ _)
      | (with_reducible exact orreryref19_Sum.mono _ _ _)
      | (with_reducible exact orreryref19_Table.mono _ _ _ _)
      | (with_reducible exact LeO.refl _)
      | (with_reducible exact LeO.none _)
      | (with_reducible refine LeO.ite ?_ ?_)
      | (with_reducible refine LeO.bind ?_ (fun _ => ?_))
      | exact ih0 _ _ _ _ _ _
      | exact ih1 _ _ _ _ _ _
      | exact ih2 _ _ _ _ _ _ _
      | exact match_Assign.mono _ _ _
      | exact orreryref19_Matching.mono _ _ _ _
      | exact orreryref19_Right.mono _ _ _ _
      | exact orreryref19_Size.mono _ _
      | exact orreryref19_Sum.mono _ _ _
      | exact orreryref19_Table.mono _ _ _ _
      | exact LeO.none _
      | refine LeO.ite ?_ ?_
      | refine LeO.bind ?_ (fun _ => ?_)
theorem orrerylaw19_MatchMore.mono : ∀ a0 a1 a2 a3 a4 k, LeO (orrerylaw19_MatchMore.f k a0 a1 a2 a3 a4) (orrerylaw19_MatchMore.f (k + 1) a0 a1 a2 a3 a4) := by
 intro a0 a1 a2 a3 a4 k
 obtain ⟨ih0, ih1, ih2⟩ := orrerylaw19_MatchMore.mono_l k
 unfold orrerylaw19_MatchMore.f
 repeat' first
     | (with_reducible exact ih0 _ _ _ _ _ _)
     | (with_reducible exact ih1 _ _ _ _ _ _)
     | (with_reducible exact ih2 _ _ _ _ _ _ _)
     | (with_reducible exact match_Assign.mono _ _ _)
     | (with_reducible exact orreryref19_Matching.mono _ _ _ _)
     | (with_reducible exact orreryref19_Right.mono _ _ _ _)
     | (with_reducible exact orreryref19_Size.mono _ _)
     | (with_reducible exact orreryref19_Sum.mono _ _ _)
     | (with_reducible exact orreryref19_Table.mono _ _ _ _)
     | (with_reducible exact LeO.refl _)
     | (with_reducible exact LeO.none _)
     | (with_reducible refine LeO.ite ?_ ?_)
     | (with_reducible refine LeO.bind ?_ (fun _ => ?_))
     | exact ih0 _ _ _ _ _ _
     | exact ih1 _ _ _ _ _ _
     | exact ih2 _ _ _ _ _ _ _
     | exact match_Assign.mono _ _ _
     | exact orreryref19_Matching.mono _ _ _ _
     | exact orreryref19_Right.mono _ _ _ _
     | exact orreryref19_Size.mono _ _
     | exact orreryref19_Sum.mono _ _ _
     | exact orreryref19_Table.mono _ _ _ _
     | exact LeO.none _
     | refine LeO.ite ?_ ?_
     | refine LeO.bind ?_ (fun _ => ?_)
set_option maxHeartbeats 8000000 in
set_option maxRecDepth 100000 in
theorem orrerylaw19_MatchMore.calls (k : Nat) (a0 : Int) (A1 : Option Addr) (c1 : Nat) (l1 : List (S40)) (a2_0 : Int) (a2_1 : Int) (a2_2 : Int) (r : Bool) (w : World) (hr1 : Kd.C k40 w A1 l1.length l1) (hc1 : l1.length ≤ c1) (h : orrerylaw19_MatchMore.f k a0 l1 a2_0 a2_1 a2_2 = some r) :
    Calls Try.prog 9 #[.int .i64 a0, .slice A1 l1.length c1, .agg #[.int .i64 a2_0, .int .i64 a2_1, .int .i64 a2_2]] w fun e w' => e = .returned (.bool r) ∧ Below w.heap.size w w' := by
 have hu40 := Try.underlying40
 have HR1 := Aside0.mk hr1
 have HC1 := Aside0.mk hc1
 clear hr1 hc1
 have HB := Aside0.mk (Below.refl w.heap.size w)
 have H : ((orreryref19_Right.f k a0 a0 l1).bind fun t511 => (if t511 = true then ((orreryref19_Right.f k a0 a0 (([(⟨a2_0, a2_1, a2_2⟩ : S40)] : List (S40)))).bind fun t515 => (if t515 = true then (orrerylaw19_MatchMore.j0 k a0 l1 (decide ((l1.length : Int) > 4000)) a2_0 a2_1 a2_2) else (orrerylaw19_MatchMore.j0 k a0 l1 true a2_0 a2_1 a2_2))) else (orrerylaw19_MatchMore.j0 k a0 l1 true a2_0 a2_1 a2_2))) = some r := h
 clear h
 have HC4 := Aside0.mk H
 clear H
 go_enter Try.func9, Try.ntmps9
 go_upto_region 1 with (first | ((with_reducible refine gate_dst (N := 5) rfl ?_); (try (refine gate_guard (by rfl) ?_; dsimp only)); refine box_event ?hg (N := 5) ?hd (cs := #[.int .i64 a2_0, .int .i64 a2_1, .int .i64 a2_2]) (t := 40) ?hr ?_; (case hd => rfl); (case hg => rfl); (case hr => first | (go_simp; done) | (go_simp; rfl)); intro gb510 hg w5 hbox hb; have n0_ := Aside0.mk (below_step (by repeat (first | (with_reducible first | exact HB.out | apply below_alloc | apply pw_below_drewN | apply below_drew1) | exact HB.out)) hb); have n1_ := Aside0.mk (hbox); have n2_ := Aside0.mk ((by rw [hg]; exact (below_size (by repeat (first | (with_reducible first | exact HB.out | apply below_alloc | apply pw_below_drewN | apply below_drew1) | exact HB.out))) : w.heap.size ≤ gb510)); have n3_ := Aside0.mk ((by rw [hg]; exact (below_size (by repeat (first | (with_reducible first | exact HB.out | apply below_alloc | apply pw_below_drewN | apply below_drew1) | exact HB.out))) : w.heap.size ≤ gb510)); clear HB; have HB := n0_; have BK510 := n1_; have GW510 := n2_; have GE510 := n3_; clear n0_ n1_ n2_ n3_; clear hb hbox hg))
 (try simp only [Act.put, List.setIfInBounds_toArray, List.set_cons_zero, List.set_cons_succ])
 go_cut [35] (fun v35 wc => ∃ (kq : Nat) (x35_3 : Bool), v35 = .bool x35_3 ∧ Aside0 (orrerylaw19_MatchMore.j0 kq a0 l1 x35_3 a2_0 a2_1 a2_2 = some r) ∧ Aside0 (kq ≤ k) ∧ Aside0 (wc.heap[gb510]? = some (.cells #[.int .i64 a2_0, .int .i64 a2_1, .int .i64 a2_2] 40 (0, 0))) ∧ Aside0 (Below w.heap.size w wc))
 case first =>
  have H := HC4.out
  clear HC4
  replace H := Option.bind_eq_some_iff.mp H
  obtain ⟨t511, A60, H⟩ := H
  replace H : (if t511 = true then ((orreryref19_Right.f k a0 a0 (([(⟨a2_0, a2_1, a2_2⟩ : S40)] : List (S40)))).bind fun t515 => (if t515 = true then (orrerylaw19_MatchMore.j0 k a0 l1 (decide ((l1.length : Int) > 4000)) a2_0 a2_1 a2_2) else (orrerylaw19_MatchMore.j0 k a0 l1 true a2_0 a2_1 a2_2))) else (orrerylaw19_MatchMore.j0 k a0 l1 true a2_0 a2_1 a2_2)) = some r := H
  have A6 := Aside0.mk A60
  clear A60
  by_cases c7 : t511 = true
  case neg =>
   replace c7 := Bool.eq_false_iff.mpr c7
   subst c7
   have H1 : (orrerylaw19_MatchMore.j0 k a0 l1 true a2_0 a2_1 a2_2) = some r := by rw [if_neg (show ¬ (false = true) by decide)] at H; exact H
   clear H
   have H := H1
   clear H1
   have H' := Aside0.mk H
   clear H
   go_wp2_with (first | ((with_reducible refine gate_callee (f := 14) rfl ?_); refine goesL_ (some 21) rfl rfl Try.func14 (by kernel_rfl) rfl #[.int .i64 a0, .int .i64 a0, .slice A1 l1.length c1] rfl (by (try simp only [List.map_toArray, List.map_cons, List.map_nil]); first | done | rfl | (simp only [List.length_drop, List.length_take]; rfl)) ?_; (with_reducible refine (orreryref19_Right.calls k a0 a0 _ _ l1 false _ ?side1 ?side2 A6.out).mono ?_); (case side1 => repeat (first | exact (Kd.C_below HR1.out HB.out) | (with_reducible refine Kd.C_alloc ?_ _) | (with_reducible refine Kd.C_drewN ?_ _) | (with_reducible refine Kd.C_drew ?_))); (case side2 => exact HC1.out); rintro e w22 ⟨rfl, hb⟩; refine ⟨_, rfl, ?_⟩; have n0_ := Aside0.mk (blk_below (g := gb510) (o := .cells #[.int .i64 a2_0, .int .i64 a2_1, .int .i64 a2_2] 40 (0, 0)) (by (with_reducible repeat (first | refine blk_drewN ?_ _ | refine blk_drew ?_ | refine blk_alloc ?_ _)); exact BK510.out) hb); have n1_ := Aside0.mk (below_step (by repeat (first | (with_reducible first | exact HB.out | apply below_alloc | apply pw_below_drewN | apply below_drew1 | refine below_set ?_ GE510.out) | exact HB.out)) hb); clear BK510; clear HB; have BK510 := n0_; have HB := n1_; clear n0_ n1_; (try clear hb); (try clear hb2); (try clear hk); (try clear hi)))
   go_meet
   case rel => exact ⟨_, (true), (by first | rfl | (simp; done) | (simp [*]; done)), H', ⟨by first | omega | exact Nat.le_refl _⟩, ⟨by (with_reducible repeat (first | refine blk_drewN ?_ _ | refine blk_drew ?_ | refine blk_alloc ?_ _)); exact BK510.out⟩, ⟨by repeat (first | (with_reducible first | exact HB.out | apply below_alloc | apply pw_below_drewN | apply below_drew1 | refine below_set ?_ GE510.out) | exact HB.out)⟩⟩
  subst c7
  have H1 : ((orreryref19_Right.f k a0 a0 (([(⟨a2_0, a2_1, a2_2⟩ : S40)] : List (S40)))).bind fun t515 => (if t515 = true then (orrerylaw19_MatchMore.j0 k a0 l1 (decide ((l1.length : Int) > 4000)) a2_0 a2_1 a2_2) else (orrerylaw19_MatchMore.j0 k a0 l1 true a2_0 a2_1 a2_2))) = some r := by rw [if_pos rfl] at H; exact H
  clear H
  have H := H1
  clear H1
  obtain ⟨y512, hy512⟩ : ∃ y_ : List (S40), y_ = (([(⟨a2_0, a2_1, a2_2⟩ : S40)] : List (S40))) := ⟨_, rfl⟩
  replace H : ((orreryref19_Right.f k a0 a0 y512).bind fun t515 => (if t515 = true then (orrerylaw19_MatchMore.j0 k a0 l1 (decide ((l1.length : Int) > 4000)) a2_0 a2_1 a2_2) else (orrerylaw19_MatchMore.j0 k a0 l1 true a2_0 a2_1 a2_2))) = some r := by first | (rw [hy512]; with_reducible exact H) | (have H2_ := (Option.bind_some _ _).symm.trans H; rw [hy512]; with_reducible exact H2_) | (have H2_ := (Option.bind_some _ _).symm.trans H; with_reducible exact H2_) | with_reducible exact H | (rw [hy512]; exact H) | exact H
  have Ny512 := Aside0.mk hy512
  clear hy512
  replace H := Option.bind_eq_some_iff.mp H
  obtain ⟨t515, A80, H⟩ := H
  replace H : (if t515 = true then (orrerylaw19_MatchMore.j0 k a0 l1 (decide ((l1.length : Int) > 4000)) a2_0 a2_1 a2_2) else (orrerylaw19_MatchMore.j0 k a0 l1 true a2_0 a2_1 a2_2)) = some r := H
  have A8 := Aside0.mk A80
  clear A80
  by_cases c9 : t515 = true
  case pos =>
   subst c9
   have H1 : (orrerylaw19_MatchMore.j0 k a0 l1 (decide ((l1.length : Int) > 4000)) a2_0 a2_1 a2_2) = some r := by rw [if_pos rfl] at H; exact H
   clear H
   have H := H1
   clear H1
   have H' := Aside0.mk H
   clear H
   go_wp2_with (first | ((with_reducible refine gate_callee (f := 14) rfl ?_); refine goesL_ (some 21) rfl rfl Try.func14 (by kernel_rfl) rfl #[.int .i64 a0, .int .i64 a0, .slice A1 l1.length c1] rfl (by (try simp only [List.map_toArray, List.map_cons, List.map_nil]); first | done | rfl | (simp only [List.length_drop, List.length_take]; rfl)) ?_; (with_reducible refine (orreryref19_Right.calls k a0 a0 _ _ l1 true _ ?side1 ?side2 A6.out).mono ?_); (case side1 => repeat (first | exact (Kd.C_below HR1.out HB.out) | (with_reducible refine Kd.C_alloc ?_ _) | (with_reducible refine Kd.C_drewN ?_ _) | (with_reducible refine Kd.C_drew ?_))); (case side2 => exact HC1.out); rintro e w10 ⟨rfl, hb⟩; refine ⟨_, rfl, ?_⟩; have n0_ := Aside0.mk (blk_below (g := gb510) (o := .cells #[.int .i64 a2_0, .int .i64 a2_1, .int .i64 a2_2] 40 (0, 0)) (by (with_reducible repeat (first | refine blk_drewN ?_ _ | refine blk_drew ?_ | refine blk_alloc ?_ _)); exact BK510.out) hb); have n1_ := Aside0.mk (below_step (by repeat (first | (with_reducible first | exact HB.out | apply below_alloc | apply pw_below_drewN | apply below_drew1 | refine below_set ?_ GE510.out) | exact HB.out)) hb); clear BK510; clear HB; have BK510 := n0_; have HB := n1_; clear n0_ n1_; (try clear hb); (try clear hb2); (try clear hk); (try clear hi); have hcz11_0 : w10.cell? ⟨gb510, 0, none⟩ = some (.int .i64 a2_0) := (blk_cell BK510.out 0).trans rfl; have hcz11_1 : w10.cell? ⟨gb510, 1, none⟩ = some (.int .i64 a2_1) := (blk_cell BK510.out 1).trans rfl; have hcz11_2 : w10.cell? ⟨gb510, 2, none⟩ = some (.int .i64 a2_2) := (blk_cell BK510.out 2).trans rfl; have hfz11_0 := blk_frozen BK510.out 0; have hfz11_1 := blk_frozen BK510.out 1; have hfz11_2 := blk_frozen BK510.out 2) | ((with_reducible refine gate_dst (N := 27) rfl ?_); (try (refine gate_guard (by rfl) ?_; dsimp only)); refine Kd.R_lit k40 _ 40 ?hg (N := 27) ?hd (xs := ([(⟨a2_0, a2_1, a2_2⟩ : S40)] : List (S40))) (inner := [.int .i64 a2_0, .int .i64 a2_1, .int .i64 a2_2]) (ok := fun _ => True) (okp := fun _ => True) ?hr ?hp (fun _ hk => hk) trivial (Below.refl _ _) (Nat.le_refl _) (by simp) ?_; (case hd => rfl); (case hg => rfl); (case hr => first | (go_simp; done) | (go_simp; rfl)); (case hp => exact (Reps.c3 (show Kd.M k40 _ _ _ (⟨a2_0, a2_1, a2_2⟩ : S40) [.int .i64 a2_0, .int .i64 a2_1, .int .i64 a2_2] from (k40_mkM _ _ _ (⟨a2_0, a2_1, a2_2⟩ : S40) )) (Reps.none _ _))); intro v513 w12 ho13 hb hg_ hnew_; clear hg_ hnew_; (first | rw [← Ny512.out] at ho13 | (simp only [Int.reduceToNat] at ho13; rw [← Ny512.out] at ho13)); have n0_ := Aside0.mk (Kd.R_lower (Kd.R_newB ho13 (g := gb510) (o := .cells #[.int .i64 a2_0, .int .i64 a2_1, .int .i64 a2_2] 40 (0, 0)) (by (with_reducible repeat (first | refine blk_drewN ?_ _ | refine blk_drew ?_ | refine blk_alloc ?_ _)); exact BK510.out)) (below_size (by repeat (first | (with_reducible first | exact HB.out | apply below_alloc | apply pw_below_drewN | apply below_drew1 | refine below_set ?_ GE510.out) | exact HB.out)))); have n1_ := Aside0.mk (blk_below (g := gb510) (o := .cells #[.int .i64 a2_0, .int .i64 a2_1, .int .i64 a2_2] 40 (0, 0)) (by (with_reducible repeat (first | refine blk_drewN ?_ _ | refine blk_drew ?_ | refine blk_alloc ?_ _)); exact BK510.out) hb); have n2_ := Aside0.mk (below_step (by repeat (first | (with_reducible first | exact HB.out | apply below_alloc | apply pw_below_drewN | apply below_drew1 | refine below_set ?_ GE510.out) | exact HB.out)) hb); clear BK510; clear HB; have HO514 := n0_; have BK510 := n1_; have HB := n2_; clear n0_ n1_ n2_; clear hb ho13; obtain ⟨Ao14, co14, eo14⟩ := Kd.R_slice HO514.out; subst eo14) | (go_at_call 14; (with_reducible refine (orreryref19_Right.calls k a0 a0 _ _ y512 true _ ?side1 ?side2 A8.out).mono ?_); (case side1 => repeat (first | exact (Kd.R_reads' HO514.out).2.2 | (with_reducible refine Kd.C_alloc ?_ _) | (with_reducible refine Kd.C_drewN ?_ _) | (with_reducible refine Kd.C_drew ?_))); (case side2 => exact (Kd.R_reads' HO514.out).2.1); rintro e w15 ⟨rfl, hb⟩; have n0_ := Aside0.mk (Kd.R_below (by (with_reducible repeat (first | apply Kd.R_alloc | apply Kd.R_drewN | apply Kd.R_drew)); exact HO514.out) hb); have n1_ := Aside0.mk (blk_below (g := gb510) (o := .cells #[.int .i64 a2_0, .int .i64 a2_1, .int .i64 a2_2] 40 (0, 0)) (by (with_reducible repeat (first | refine blk_drewN ?_ _ | refine blk_drew ?_ | refine blk_alloc ?_ _)); exact BK510.out) hb); have n2_ := Aside0.mk (below_step (by repeat (first | (with_reducible first | exact HB.out | apply below_alloc | apply pw_below_drewN | apply below_drew1 | refine below_set ?_ GE510.out) | exact HB.out)) hb); clear HO514; clear BK510; clear HB; have HO514 := n0_; have BK510 := n1_; have HB := n2_; clear n0_ n1_ n2_; (try clear hb); (try clear hb2); (try clear hk); (try clear hi)))
   go_meet
   case rel => exact ⟨_, (decide ((l1.length : Int) > 4000)), (by first | rfl | (simp; done) | (simp [*]; done)), H', ⟨by first | omega | exact Nat.le_refl _⟩, ⟨by (with_reducible repeat (first | refine blk_drewN ?_ _ | refine blk_drew ?_ | refine blk_alloc ?_ _)); exact BK510.out⟩, ⟨by repeat (first | (with_reducible first | exact HB.out | apply below_alloc | apply pw_below_drewN | apply below_drew1 | refine below_set ?_ GE510.out) | exact HB.out)⟩⟩
  replace c9 := Bool.eq_false_iff.mpr c9
  subst c9
  have H1 : (orrerylaw19_MatchMore.j0 k a0 l1 true a2_0 a2_1 a2_2) = some r := by rw [if_neg (show ¬ (false = true) by decide)] at H; exact H
  clear H
  have H := H1
  clear H1
  have H' := Aside0.mk H
  clear H
  go_wp2_with (first | ((with_reducible refine gate_callee (f := 14) rfl ?_); refine goesL_ (some 21) rfl rfl Try.func14 (by kernel_rfl) rfl #[.int .i64 a0, .int .i64 a0, .slice A1 l1.length c1] rfl (by (try simp only [List.map_toArray, List.map_cons, List.map_nil]); first | done | rfl | (simp only [List.length_drop, List.length_take]; rfl)) ?_; (with_reducible refine (orreryref19_Right.calls k a0 a0 _ _ l1 true _ ?side1 ?side2 A6.out).mono ?_); (case side1 => repeat (first | exact (Kd.C_below HR1.out HB.out) | (with_reducible refine Kd.C_alloc ?_ _) | (with_reducible refine Kd.C_drewN ?_ _) | (with_reducible refine Kd.C_drew ?_))); (case side2 => exact HC1.out); rintro e w16 ⟨rfl, hb⟩; refine ⟨_, rfl, ?_⟩; have n0_ := Aside0.mk (blk_below (g := gb510) (o := .cells #[.int .i64 a2_0, .int .i64 a2_1, .int .i64 a2_2] 40 (0, 0)) (by (with_reducible repeat (first | refine blk_drewN ?_ _ | refine blk_drew ?_ | refine blk_alloc ?_ _)); exact BK510.out) hb); have n1_ := Aside0.mk (below_step (by repeat (first | (with_reducible first | exact HB.out | apply below_alloc | apply pw_below_drewN | apply below_drew1 | refine below_set ?_ GE510.out) | exact HB.out)) hb); clear BK510; clear HB; have BK510 := n0_; have HB := n1_; clear n0_ n1_; (try clear hb); (try clear hb2); (try clear hk); (try clear hi); have hcz17_0 : w16.cell? ⟨gb510, 0, none⟩ = some (.int .i64 a2_0) := (blk_cell BK510.out 0).trans rfl; have hcz17_1 : w16.cell? ⟨gb510, 1, none⟩ = some (.int .i64 a2_1) := (blk_cell BK510.out 1).trans rfl; have hcz17_2 : w16.cell? ⟨gb510, 2, none⟩ = some (.int .i64 a2_2) := (blk_cell BK510.out 2).trans rfl; have hfz17_0 := blk_frozen BK510.out 0; have hfz17_1 := blk_frozen BK510.out 1; have hfz17_2 := blk_frozen BK510.out 2) | ((with_reducible refine gate_dst (N := 27) rfl ?_); (try (refine gate_guard (by rfl) ?_; dsimp only)); refine Kd.R_lit k40 _ 40 ?hg (N := 27) ?hd (xs := ([(⟨a2_0, a2_1, a2_2⟩ : S40)] : List (S40))) (inner := [.int .i64 a2_0, .int .i64 a2_1, .int .i64 a2_2]) (ok := fun _ => True) (okp := fun _ => True) ?hr ?hp (fun _ hk => hk) trivial (Below.refl _ _) (Nat.le_refl _) (by simp) ?_; (case hd => rfl); (case hg => rfl); (case hr => first | (go_simp; done) | (go_simp; rfl)); (case hp => exact (Reps.c3 (show Kd.M k40 _ _ _ (⟨a2_0, a2_1, a2_2⟩ : S40) [.int .i64 a2_0, .int .i64 a2_1, .int .i64 a2_2] from (k40_mkM _ _ _ (⟨a2_0, a2_1, a2_2⟩ : S40) )) (Reps.none _ _))); intro v513 w18 ho19 hb hg_ hnew_; clear hg_ hnew_; (first | rw [← Ny512.out] at ho19 | (simp only [Int.reduceToNat] at ho19; rw [← Ny512.out] at ho19)); have n0_ := Aside0.mk (Kd.R_lower (Kd.R_newB ho19 (g := gb510) (o := .cells #[.int .i64 a2_0, .int .i64 a2_1, .int .i64 a2_2] 40 (0, 0)) (by (with_reducible repeat (first | refine blk_drewN ?_ _ | refine blk_drew ?_ | refine blk_alloc ?_ _)); exact BK510.out)) (below_size (by repeat (first | (with_reducible first | exact HB.out | apply below_alloc | apply pw_below_drewN | apply below_drew1 | refine below_set ?_ GE510.out) | exact HB.out)))); have n1_ := Aside0.mk (blk_below (g := gb510) (o := .cells #[.int .i64 a2_0, .int .i64 a2_1, .int .i64 a2_2] 40 (0, 0)) (by (with_reducible repeat (first | refine blk_drewN ?_ _ | refine blk_drew ?_ | refine blk_alloc ?_ _)); exact BK510.out) hb); have n2_ := Aside0.mk (below_step (by repeat (first | (with_reducible first | exact HB.out | apply below_alloc | apply pw_below_drewN | apply below_drew1 | refine below_set ?_ GE510.out) | exact HB.out)) hb); clear BK510; clear HB; have HO514 := n0_; have BK510 := n1_; have HB := n2_; clear n0_ n1_ n2_; clear hb ho19; obtain ⟨Ao20, co20, eo20⟩ := Kd.R_slice HO514.out; subst eo20) | (go_at_call 14; (with_reducible refine (orreryref19_Right.calls k a0 a0 _ _ y512 false _ ?side1 ?side2 A8.out).mono ?_); (case side1 => repeat (first | exact (Kd.R_reads' HO514.out).2.2 | (with_reducible refine Kd.C_alloc ?_ _) | (with_reducible refine Kd.C_drewN ?_ _) | (with_reducible refine Kd.C_drew ?_))); (case side2 => exact (Kd.R_reads' HO514.out).2.1); rintro e w21 ⟨rfl, hb⟩; have n0_ := Aside0.mk (Kd.R_below (by (with_reducible repeat (first | apply Kd.R_alloc | apply Kd.R_drewN | apply Kd.R_drew)); exact HO514.out) hb); have n1_ := Aside0.mk (blk_below (g := gb510) (o := .cells #[.int .i64 a2_0, .int .i64 a2_1, .int .i64 a2_2] 40 (0, 0)) (by (with_reducible repeat (first | refine blk_drewN ?_ _ | refine blk_drew ?_ | refine blk_alloc ?_ _)); exact BK510.out) hb); have n2_ := Aside0.mk (below_step (by repeat (first | (with_reducible first | exact HB.out | apply below_alloc | apply pw_below_drewN | apply below_drew1 | refine below_set ?_ GE510.out) | exact HB.out)) hb); clear HO514; clear BK510; clear HB; have HO514 := n0_; have BK510 := n1_; have HB := n2_; clear n0_ n1_ n2_; (try clear hb); (try clear hb2); (try clear hk); (try clear hi)))
  go_meet
  case rel => exact ⟨_, (true), (by first | rfl | (simp; done) | (simp [*]; done)), H', ⟨by first | omega | exact Nat.le_refl _⟩, ⟨by (with_reducible repeat (first | refine blk_drewN ?_ _ | refine blk_drew ?_ | refine blk_alloc ?_ _)); exact BK510.out⟩, ⟨by repeat (first | (with_reducible first | exact HB.out | apply below_alloc | apply pw_below_drewN | apply below_drew1 | refine below_set ?_ GE510.out) | exact HB.out)⟩⟩
 case rest =>
  clear HC4
  try clear c1
  try clear p2
  try clear c3
  try clear c7
  try clear c9
  try clear c14
  try clear hcz11_0
  try clear hcz11_1
  try clear hcz11_2
  try clear hcz17_0
  try clear hcz17_1
  try clear hcz17_2
  try clear hfz11_0
  try clear hfz11_1
  try clear hfz11_2
  try clear hfz17_0
  try clear hfz17_1
  try clear hfz17_2
  obtain ⟨kq, x35_3, rfl, HA, HJ3, BK510, HB⟩ := hcut
  cases kq with
  | zero => exact absurd HA.out (by simp [orrerylaw19_MatchMore.j0])
  | succ kj3 =>
   have H := HA.out
   clear HA
   simp only [orrerylaw19_MatchMore.j0] at H
   by_cases c23 : x35_3 = true
   case pos =>
    subst c23
    have H1 : (some true) = some r := by rw [if_pos rfl] at H; exact H
    clear H
    have H := H1
    clear H1
    obtain rfl := Option.some.inj H
    go_wp2
    go_ret
    exact ⟨by first | rfl | (simp [errW_none, errW_some] <;> rfl) | (simp [*, errW_none, errW_some] <;> rfl), by repeat (first | (with_reducible first | exact HB.out | apply below_alloc | apply pw_below_drewN | apply below_drew1 | refine below_set ?_ GE510.out) | exact HB.out)⟩
   replace c23 := Bool.eq_false_iff.mpr c23
   subst c23
   have H1 : ((some (([] : List (S40)) : List (S40))).bind fun y516 => (if y516.length + l1.length < 5864062014805 then ((some (y516 ++ l1 : List (S40))).bind fun y519 => ((some (([(⟨a2_0, a2_1, a2_2⟩ : S40)] : List (S40)) : List (S40))).bind fun y522 => (if y519.length + y522.length < 5864062014805 then ((some (y519 ++ y522 : List (S40))).bind fun y525 => ((match_Most.f a0 a0 l1).bind fun bt528 => ((match_Most.f a0 a0 y525).bind fun bt532 => (if bt528.2 = 0 then (if bt532.2 = 0 then (if (bt528.1.length : Int) = a0 then (if (bt532.1.length : Int) = a0 then ((orreryref19_Size.f kj3 bt532.1).bind fun t536 => ((orreryref19_Size.f kj3 bt528.1).bind fun t537 => (if t536 < t537 then (orrerylaw19_MatchMore.j1 kj3 a0 l1 y525 bt528.1 bt532.1 true) else ((orreryref19_Size.f kj3 bt532.1).bind fun t538 => ((orreryref19_Size.f kj3 bt528.1).bind fun t539 => (orrerylaw19_MatchMore.j1 kj3 a0 l1 y525 bt528.1 bt532.1 (decide (t538 > (wrap64 (t539 + 1)))))))))) else (orrerylaw19_MatchMore.j1 kj3 a0 l1 y525 bt528.1 bt532.1 true)) else (orrerylaw19_MatchMore.j1 kj3 a0 l1 y525 bt528.1 bt532.1 true)) else (orrerylaw19_MatchMore.j1 kj3 a0 l1 y525 bt528.1 bt532.1 true)) else (orrerylaw19_MatchMore.j1 kj3 a0 l1 y525 bt528.1 bt532.1 true))))) else (none)))) else (none))) = some r := by rw [if_neg (show ¬ (false = true) by decide)] at H; exact H
   clear H
   have H := H1
   clear H1
   obtain ⟨y516, hy516⟩ : ∃ y_ : List (S40), y_ = (([] : List (S40))) := ⟨_, rfl⟩
   replace H : (if y516.length + l1.length < 5864062014805 then ((some (y516 ++ l1 : List (S40))).bind fun y519 => ((some (([(⟨a2_0, a2_1, a2_2⟩ : S40)] : List (S40)) : List (S40))).bind fun y522 => (if y519.length + y522.length < 5864062014805 then ((some (y519 ++ y522 : List (S40))).bind fun y525 => ((match_Most.f a0 a0 l1).bind fun bt528 => ((match_Most.f a0 a0 y525).bind fun bt532 => (if bt528.2 = 0 then (if bt532.2 = 0 then (if (bt528.1.length : Int) = a0 then (if (bt532.1.length : Int) = a0 then ((orreryref19_Size.f kj3 bt532.1).bind fun t536 => ((orreryref19_Size.f kj3 bt528.1).bind fun t537 => (if t536 < t537 then (orrerylaw19_MatchMore.j1 kj3 a0 l1 y525 bt528.1 bt532.1 true) else ((orreryref19_Size.f kj3 bt532.1).bind fun t538 => ((orreryref19_Size.f kj3 bt528.1).bind fun t539 => (orrerylaw19_MatchMore.j1 kj3 a0 l1 y525 bt528.1 bt532.1 (decide (t538 > (wrap64 (t539 + 1)))))))))) else (orrerylaw19_MatchMore.j1 kj3 a0 l1 y525 bt528.1 bt532.1 true)) else (orrerylaw19_MatchMore.j1 kj3 a0 l1 y525 bt528.1 bt532.1 true)) else (orrerylaw19_MatchMore.j1 kj3 a0 l1 y525 bt528.1 bt532.1 true)) else (orrerylaw19_MatchMore.j1 kj3 a0 l1 y525 bt528.1 bt532.1 true))))) else (none)))) else (none)) = some r := by first | (rw [hy516]; with_reducible exact H) | (have H2_ := (Option.bind_some _ _).symm.trans H; rw [hy516]; with_reducible exact H2_) | (have H2_ := (Option.bind_some _ _).symm.trans H; with_reducible exact H2_) | with_reducible exact H | (rw [hy516]; exact H) | exact H
   have Ny516 := Aside0.mk hy516
   clear hy516
   by_cases c24 : y516.length + l1.length < 5864062014805
   case neg => rw [if_neg c24] at H; exact absurd H (by simp)
   rw [if_pos c24] at H
   have LMc24 := Aside0.mk c24
   clear c24
   obtain ⟨y519, hy519⟩ : ∃ y_ : List (S40), y_ = (y516 ++ l1) := ⟨_, rfl⟩
   replace H : ((some (([(⟨a2_0, a2_1, a2_2⟩ : S40)] : List (S40)) : List (S40))).bind fun y522 => (if y519.length + y522.length < 5864062014805 then ((some (y519 ++ y522 : List (S40))).bind fun y525 => ((match_Most.f a0 a0 l1).bind fun bt528 => ((match_Most.f a0 a0 y525).bind fun bt532 => (if bt528.2 = 0 then (if bt532.2 = 0 then (if (bt528.1.length : Int) = a0 then (if (bt532.1.length : Int) = a0 then ((orreryref19_Size.f kj3 bt532.1).bind fun t536 => ((orreryref19_Size.f kj3 bt528.1).bind fun t537 => (if t536 < t537 then (orrerylaw19_MatchMore.j1 kj3 a0 l1 y525 bt528.1 bt532.1 true) else ((orreryref19_Size.f kj3 bt532.1).bind fun t538 => ((orreryref19_Size.f kj3 bt528.1).bind fun t539 => (orrerylaw19_MatchMore.j1 kj3 a0 l1 y525 bt528.1 bt532.1 (decide (t538 > (wrap64 (t539 + 1)))))))))) else (orrerylaw19_MatchMore.j1 kj3 a0 l1 y525 bt528.1 bt532.1 true)) else (orrerylaw19_MatchMore.j1 kj3 a0 l1 y525 bt528.1 bt532.1 true)) else (orrerylaw19_MatchMore.j1 kj3 a0 l1 y525 bt528.1 bt532.1 true)) else (orrerylaw19_MatchMore.j1 kj3 a0 l1 y525 bt528.1 bt532.1 true))))) else (none))) = some r := by first | (rw [hy519]; with_reducible exact H) | (have H2_ := (Option.bind_some _ _).symm.trans H; rw [hy519]; with_reducible exact H2_) | (have H2_ := (Option.bind_some _ _).symm.trans H; with_reducible exact H2_) | with_reducible exact H | (rw [hy519]; exact H) | exact H
   have Ny519 := Aside0.mk hy519
   clear hy519
   obtain ⟨y522, hy522⟩ : ∃ y_ : List (S40), y_ = (([(⟨a2_0, a2_1, a2_2⟩ : S40)] : List (S40))) := ⟨_, rfl⟩
   replace H : (if y519.length + y522.length < 5864062014805 then ((some (y519 ++ y522 : List (S40))).bind fun y525 => ((match_Most.f a0 a0 l1).bind fun bt528 => ((match_Most.f a0 a0 y525).bind fun bt532 => (if bt528.2 = 0 then (if bt532.2 = 0 then (if (bt528.1.length : Int) = a0 then (if (bt532.1.length : Int) = a0 then ((orreryref19_Size.f kj3 bt532.1).bind fun t536 => ((orreryref19_Size.f kj3 bt528.1).bind fun t537 => (if t536 < t537 then (orrerylaw19_MatchMore.j1 kj3 a0 l1 y525 bt528.1 bt532.1 true) else ((orreryref19_Size.f kj3 bt532.1).bind fun t538 => ((orreryref19_Size.f kj3 bt528.1).bind fun t539 => (orrerylaw19_MatchMore.j1 kj3 a0 l1 y525 bt528.1 bt532.1 (decide (t538 > (wrap64 (t539 + 1)))))))))) else (orrerylaw19_MatchMore.j1 kj3 a0 l1 y525 bt528.1 bt532.1 true)) else (orrerylaw19_MatchMore.j1 kj3 a0 l1 y525 bt528.1 bt532.1 true)) else (orrerylaw19_MatchMore.j1 kj3 a0 l1 y525 bt528.1 bt532.1 true)) else (orrerylaw19_MatchMore.j1 kj3 a0 l1 y525 bt528.1 bt532.1 true))))) else (none)) = some r := by first | (rw [hy522]; with_reducible exact H) | (have H2_ := (Option.bind_some _ _).symm.trans H; rw [hy522]; with_reducible exact H2_) | (have H2_ := (Option.bind_some _ _).symm.trans H; with_reducible exact H2_) | with_reducible exact H | (rw [hy522]; exact H) | exact H
   have Ny522 := Aside0.mk hy522
   clear hy522
   by_cases c25 : y519.length + y522.length < 5864062014805
   case neg => rw [if_neg c25] at H; exact absurd H (by simp)
   rw [if_pos c25] at H
   have LMc25 := Aside0.mk c25
   clear c25
   obtain ⟨y525, hy525⟩ : ∃ y_ : List (S40), y_ = (y519 ++ y522) := ⟨_, rfl⟩
   replace H : ((match_Most.f a0 a0 l1).bind fun bt528 => ((match_Most.f a0 a0 y525).bind fun bt532 => (if bt528.2 = 0 then (if bt532.2 = 0 then (if (bt528.1.length : Int) = a0 then (if (bt532.1.length : Int) = a0 then ((orreryref19_Size.f kj3 bt532.1).bind fun t536 => ((orreryref19_Size.f kj3 bt528.1).bind fun t537 => (if t536 < t537 then (orrerylaw19_MatchMore.j1 kj3 a0 l1 y525 bt528.1 bt532.1 true) else ((orreryref19_Size.f kj3 bt532.1).bind fun t538 => ((orreryref19_Size.f kj3 bt528.1).bind fun t539 => (orrerylaw19_MatchMore.j1 kj3 a0 l1 y525 bt528.1 bt532.1 (decide (t538 > (wrap64 (t539 + 1)))))))))) else (orrerylaw19_MatchMore.j1 kj3 a0 l1 y525 bt528.1 bt532.1 true)) else (orrerylaw19_MatchMore.j1 kj3 a0 l1 y525 bt528.1 bt532.1 true)) else (orrerylaw19_MatchMore.j1 kj3 a0 l1 y525 bt528.1 bt532.1 true)) else (orrerylaw19_MatchMore.j1 kj3 a0 l1 y525 bt528.1 bt532.1 true)))) = some r := by first | (rw [hy525]; with_reducible exact H) | (have H2_ := (Option.bind_some _ _).symm.trans H; rw [hy525]; with_reducible exact H2_) | (have H2_ := (Option.bind_some _ _).symm.trans H; with_reducible exact H2_) | with_reducible exact H | (rw [hy525]; exact H) | exact H
   have Ny525 := Aside0.mk hy525
   clear hy525
   replace H := Option.bind_eq_some_iff.mp H
   obtain ⟨⟨t528, t529⟩, A260, H⟩ := H
   replace H : ((match_Most.f a0 a0 y525).bind fun bt532 => (if t529 = 0 then (if bt532.2 = 0 then (if (t528.length : Int) = a0 then (if (bt532.1.length : Int) = a0 then ((orreryref19_Size.f kj3 bt532.1).bind fun t536 => ((orreryref19_Size.f kj3 t528).bind fun t537 => (if t536 < t537 then (orrerylaw19_MatchMore.j1 kj3 a0 l1 y525 t528 bt532.1 true) else ((orreryref19_Size.f kj3 bt532.1).bind fun t538 => ((orreryref19_Size.f kj3 t528).bind fun t539 => (orrerylaw19_MatchMore.j1 kj3 a0 l1 y525 t528 bt532.1 (decide (t538 > (wrap64 (t539 + 1)))))))))) else (orrerylaw19_MatchMore.j1 kj3 a0 l1 y525 t528 bt532.1 true)) else (orrerylaw19_MatchMore.j1 kj3 a0 l1 y525 t528 bt532.1 true)) else (orrerylaw19_MatchMore.j1 kj3 a0 l1 y525 t528 bt532.1 true)) else (orrerylaw19_MatchMore.j1 kj3 a0 l1 y525 t528 bt532.1 true))) = some r := H
   have A26 := Aside0.mk A260
   clear A260
   replace H := Option.bind_eq_some_iff.mp H
   obtain ⟨⟨t532, t533⟩, A270, H⟩ := H
   replace H : (if t529 = 0 then (if t533 = 0 then (if (t528.length : Int) = a0 then (if (t532.length : Int) = a0 then ((orreryref19_Size.f kj3 t532).bind fun t536 => ((orreryref19_Size.f kj3 t528).bind fun t537 => (if t536 < t537 then (orrerylaw19_MatchMore.j1 kj3 a0 l1 y525 t528 t532 true) else ((orreryref19_Size.f kj3 t532).bind fun t538 => ((orreryref19_Size.f kj3 t528).bind fun t539 => (orrerylaw19_MatchMore.j1 kj3 a0 l1 y525 t528 t532 (decide (t538 > (wrap64 (t539 + 1)))))))))) else (orrerylaw19_MatchMore.j1 kj3 a0 l1 y525 t528 t532 true)) else (orrerylaw19_MatchMore.j1 kj3 a0 l1 y525 t528 t532 true)) else (orrerylaw19_MatchMore.j1 kj3 a0 l1 y525 t528 t532 true)) else (orrerylaw19_MatchMore.j1 kj3 a0 l1 y525 t528 t532 true)) = some r := H
   have A27 := Aside0.mk A270
   clear A270
   have HC28 := Aside0.mk H
   clear H
   try go_wp2
   have n0_ := Aside0.mk (blk_drew BK510.out)
   have n1_ := Aside0.mk (below_drew1 HB.out)
   clear BK510
   clear HB
   have BK510 := n0_
   have HB := n1_
   clear n0_ n1_
   refine start_ (n := 7) (S := fun w' => w'.cell? ⟨gb510, 0, none⟩ = some (.int .i64 a2_0) ∧ w'.cell? ⟨gb510, 1, none⟩ = some (.int .i64 a2_1) ∧ w'.cell? ⟨gb510, 2, none⟩ = some (.int .i64 a2_2)) (ds := []) (msk 7 0) (by kernel_rfl) rfl rfl ⟨(blk_cell BK510.out 0).trans rfl, (blk_cell BK510.out 1).trans rfl, (blk_cell BK510.out 2).trans rfl⟩ (fun hHeld => ?_)
   generalize wc.drew = w29 at BK510 HB hHeld ⊢
   refine pure_ (i := 1) (N := some 37) (v := ?_) (a' := ?_) (msk 7 2) rfl rfl (by kernel_rfl) (fun _ _ _ h => h) (Or.inl ⟨by rfl, ?_⟩) ?_ ?_
   rotate_left
   · intro w'; go_simp; with_reducible rfl
   rotate_left
   · simp only [Act.put, sq, i64_w, i32_w]; rfl
   refine take_ (i := 3) (N := some 39) (v := ?_) (a' := ?_) (msk 7 10) rfl rfl (by kernel_rfl) (fun _ _ _ h => h) (Or.inl ⟨by rfl, ?_⟩) hHeld ?_ ?_
   rotate_left
   · rintro w' ⟨s0, s1, s2⟩; go_simp; with_reducible rfl
   rotate_left
   · simp only [Act.put, sq, i64_w, i32_w]; rfl
   refine join_ (σ := Value × Value × Value) 2 (msk 7 31) (fun s_ => [(36, s_.1), (38, s_.2.1), (40, s_.2.2)]) (fun s_ w' => (w'.cell? ⟨gb510, 0, none⟩ = some (.int .i64 a2_0) ∧ w'.cell? ⟨gb510, 1, none⟩ = some (.int .i64 a2_1) ∧ w'.cell? ⟨gb510, 2, none⟩ = some (.int .i64 a2_2)) ∧ (Kd.R k40 40 w' w.heap.size (fun k_ => some k_ ≠ (s_.2.2 : Value).ownBlock ∧ k_ ≠ gb510) s_.2.1 y519) ∧ (Kd.R k40 40 w' w.heap.size (fun k_ => some k_ ≠ (s_.2.1 : Value).ownBlock ∧ k_ ≠ gb510) s_.2.2 y522) ∧ (w'.heap[gb510]? = some (.cells #[.int .i64 a2_0, .int .i64 a2_1, .int .i64 a2_2] 40 (0, 0))) ∧ (Below w.heap.size w w')) ?_ ?_
   rotate_left
   · intro hCont
     refine two_ (i := 0) (j := 4) (Ni := some 36) (Nj := some 40) (msk 7 11) (msk 7 26) rfl rfl rfl rfl (by kernel_rfl) (by decide) (by decide) (fun K hK => ?_) (fun K hK => ?_)
     · skip
       refine Kd.R_lit_step k40 _ 40 ?hg (N := 36) ?hd (xs := ([] : List (S40))) (inner := []) (ok := fun _ => True) (okp := fun _ => True) ?hr ?hp (fun _ hk => hk) trivial (Below.refl _ _) (Nat.le_refl _) (by simp) ?_; (case hd => rfl); (case hg => rfl); (case hr => first | (go_simp; done) | (go_simp; rfl)); (case hp => exact (Reps.none _ _))
       intro v517 w30 ho31 hb hg_ hnew_
       clear hg_ hnew_
       (first | rw [← Ny516.out] at ho31 | (simp only [Int.reduceToNat] at ho31; rw [← Ny516.out] at ho31))
       have n0_ := Aside0.mk (Kd.R_lower (Kd.R_newB ho31 (g := gb510) (o := .cells #[.int .i64 a2_0, .int .i64 a2_1, .int .i64 a2_2] 40 (0, 0)) (by (with_reducible repeat (first | refine blk_drewN ?_ _ | refine blk_drew ?_ | refine blk_alloc ?_ _)); exact BK510.out)) (below_size (by repeat (first | (with_reducible first | exact HB.out | apply below_alloc | apply pw_below_drewN | apply below_drew1 | refine below_set ?_ GE510.out) | exact HB.out))))
       have n1_ := Aside0.mk (blk_below (g := gb510) (o := .cells #[.int .i64 a2_0, .int .i64 a2_1, .int .i64 a2_2] 40 (0, 0)) (by (with_reducible repeat (first | refine blk_drewN ?_ _ | refine blk_drew ?_ | refine blk_alloc ?_ _)); exact BK510.out) hb)
       have n2_ := Aside0.mk (below_step (by repeat (first | (with_reducible first | exact HB.out | apply below_alloc | apply pw_below_drewN | apply below_drew1 | refine below_set ?_ GE510.out) | exact HB.out)) hb)
       clear BK510
       clear HB
       have HO518 := n0_
       have BK510 := n1_
       have HB := n2_
       clear n0_ n1_ n2_
       clear hb ho31
       refine hK.out _ _ ⟨(blk_cell BK510.out 0).trans rfl, (blk_cell BK510.out 1).trans rfl, (blk_cell BK510.out 2).trans rfl⟩ (fun hHeld => ?_)
       clear hK K
       refine norm_ (a' := ?_) ?_ ?_
       rotate_left
       · show Act.put _ (some 36) _ = _
         simp only [Act.put, sq, i64_w, i32_w]
         rfl
       refine two_ (i := 2) (j := 4) (Ni := some 38) (Nj := some 40) (msk 7 15) (msk 7 27) rfl rfl rfl rfl (by kernel_rfl) (by decide) (by decide) (fun K hK => ?_) (fun K hK => ?_)
       · skip
         refine Kd.R_append_rows_step k40 (w0 := w) w.heap.size (by rfl) (.tmp 36) (.tmp 37) 22 40 (.agg #[(.int .i64 0), (.int .i64 0), (.int .i64 0)]) 24 rfl Try.underlying22 info40 rfl (by decide) (by omega) v517 y516 l1 _ _ _ (fun k_ => k_ ≠ gb510) (fun _ => False) rfl rfl ?aO ?aR (fun _ _ h => h) (fun _ h => h.elim) ?aF ?aB ?aS ?aL ?_
         (case aR => repeat (first | exact (Kd.C_below HR1.out HB.out) | (with_reducible refine Kd.C_alloc ?_ _) | (with_reducible refine Kd.C_drewN ?_ _) | (with_reducible refine Kd.C_drew ?_)))
         (case aB => exact (by repeat (first | (with_reducible first | exact HB.out | apply below_alloc | apply pw_below_drewN | apply below_drew1 | refine below_set ?_ GE510.out) | exact HB.out)))
         (case aF => exact (fun k_ hk => Kd.freshB (g := gb510) (o := .cells #[.int .i64 a2_0, .int .i64 a2_1, .int .i64 a2_2] 40 (0, 0)) (by (with_reducible repeat (first | refine blk_drewN ?_ _ | refine blk_drew ?_ | refine blk_alloc ?_ _)); exact BK510.out) k_ hk))
         (case aO => exact (by (with_reducible repeat (first | apply Kd.R_alloc | apply Kd.R_drewN | apply Kd.R_drew)); exact Kd.R_mono HO518.out (fun _ hk => hk.2)))
         (case aS => exact (below_size (by repeat (first | (with_reducible first | exact HB.out | apply below_alloc | apply pw_below_drewN | apply below_drew1 | refine below_set ?_ GE510.out) | exact HB.out))))
         (case aL => have := LMc24.out; omega)
         intro v520 w32 ho hb hg hat
         rw [← Ny519.out] at ho
         have n0_ := Aside0.mk (blk_grown (g := gb510) (o := .cells #[.int .i64 a2_0, .int .i64 a2_1, .int .i64 a2_2] 40 (0, 0)) (by (with_reducible repeat (first | refine blk_drewN ?_ _ | refine blk_drew ?_ | refine blk_alloc ?_ _)); exact BK510.out) hg (Kd.R_away HO518.out (fun _ hk => hk.2)))
         have n1_ := Aside0.mk (hb)
         have n2_ := Aside0.mk (ho)
         clear BK510
         clear HB
         clear HO518
         have BK510 := n0_
         have HB := n1_
         have HO521 := n2_
         clear n0_ n1_ n2_
         clear ho hb hg hat
         refine hK.out _ _ ⟨(blk_cell BK510.out 0).trans rfl, (blk_cell BK510.out 1).trans rfl, (blk_cell BK510.out 2).trans rfl⟩ (fun hHeld => ?_)
         clear hK K
         refine norm_ (a' := ?_) ?_ ?_
         rotate_left
         · show Act.put _ (some 38) _ = _
           simp only [Act.put, sq, i64_w, i32_w]
           rfl
         refine one_ (i := 4) (N := some 40) (msk 7 31) rfl rfl (by kernel_rfl) (by decide) (fun K hK => ?_)
         refine Kd.R_lit_step k40 _ 40 ?hg (N := 40) ?hd (xs := ([(⟨a2_0, a2_1, a2_2⟩ : S40)] : List (S40))) (inner := [.int .i64 a2_0, .int .i64 a2_1, .int .i64 a2_2]) (ok := fun _ => True) (okp := fun _ => True) ?hr ?hp (fun _ hk => hk) trivial (Below.refl _ _) (Nat.le_refl _) (by simp) ?_; (case hd => rfl); (case hg => rfl); (case hr => first | (go_simp; done) | (go_simp; rfl)); (case hp => exact (Reps.c3 (show Kd.M k40 _ _ _ (⟨a2_0, a2_1, a2_2⟩ : S40) [.int .i64 a2_0, .int .i64 a2_1, .int .i64 a2_2] from (k40_mkM _ _ _ (⟨a2_0, a2_1, a2_2⟩ : S40) )) (Reps.none _ _)))
         intro v523 w33 ho34 hb hg_ hnew_
         clear hg_ hnew_
         (first | rw [← Ny522.out] at ho34 | (simp only [Int.reduceToNat] at ho34; rw [← Ny522.out] at ho34))
         have n0_ := Aside0.mk (Kd.R_elder' (by (with_reducible repeat (first | apply Kd.R_alloc | apply Kd.R_drewN | apply Kd.R_drew)); exact HO521.out) (Kd.R_base ho34) hb)
         have n1_ := Aside0.mk (Kd.R_lower (Kd.R_newB (Kd.R_new' ho34 (Kd.R_lt (by (with_reducible repeat (first | apply Kd.R_alloc | apply Kd.R_drewN | apply Kd.R_drew)); exact HO521.out))) (g := gb510) (o := .cells #[.int .i64 a2_0, .int .i64 a2_1, .int .i64 a2_2] 40 (0, 0)) (by (with_reducible repeat (first | refine blk_drewN ?_ _ | refine blk_drew ?_ | refine blk_alloc ?_ _)); exact BK510.out)) (below_size (by repeat (first | (with_reducible first | exact HB.out | apply below_alloc | apply pw_below_drewN | apply below_drew1 | refine below_set ?_ GE510.out) | exact HB.out))))
         have n2_ := Aside0.mk (blk_below (g := gb510) (o := .cells #[.int .i64 a2_0, .int .i64 a2_1, .int .i64 a2_2] 40 (0, 0)) (by (with_reducible repeat (first | refine blk_drewN ?_ _ | refine blk_drew ?_ | refine blk_alloc ?_ _)); exact BK510.out) hb)
         have n3_ := Aside0.mk (below_step (by repeat (first | (with_reducible first | exact HB.out | apply below_alloc | apply pw_below_drewN | apply below_drew1 | refine below_set ?_ GE510.out) | exact HB.out)) hb)
         clear HO521
         clear BK510
         clear HB
         have HO521 := n0_
         have HO524 := n1_
         have BK510 := n2_
         have HB := n3_
         clear n0_ n1_ n2_ n3_
         clear hb ho34
         refine hK.out _ _ ⟨(blk_cell BK510.out 0).trans rfl, (blk_cell BK510.out 1).trans rfl, (blk_cell BK510.out 2).trans rfl⟩ (fun hHeld => ?_)
         clear hK K
         refine norm_ (a' := ?_) ?_ ?_
         rotate_left
         · show Act.put _ (some 40) _ = _
           simp only [Act.put, sq, i64_w, i32_w]
           rfl
         exact norm_ (by simp only [putAll, Act.put, List.setIfInBounds_toArray, List.set_cons_zero, List.set_cons_succ]) (hCont (v517, v520, v523) _ ⟨hHeld, (by (with_reducible repeat (first | apply Kd.R_alloc | apply Kd.R_drewN | apply Kd.R_drew)); exact Kd.R_mono HO521.out (fun _ hk => ⟨hk.2, hk.1⟩)), (by (with_reducible repeat (first | apply Kd.R_alloc | apply Kd.R_drewN | apply Kd.R_drew)); exact Kd.R_mono HO524.out (fun _ hk => ⟨hk.1.2, hk.2⟩)), (by (with_reducible repeat (first | refine blk_drewN ?_ _ | refine blk_drew ?_ | refine blk_alloc ?_ _)); exact BK510.out), (by repeat (first | (with_reducible first | exact HB.out | apply below_alloc | apply pw_below_drewN | apply below_drew1 | refine below_set ?_ GE510.out) | exact HB.out))⟩)
       · skip
         refine Kd.R_lit_step k40 _ 40 ?hg (N := 40) ?hd (xs := ([(⟨a2_0, a2_1, a2_2⟩ : S40)] : List (S40))) (inner := [.int .i64 a2_0, .int .i64 a2_1, .int .i64 a2_2]) (ok := fun _ => True) (okp := fun _ => True) ?hr ?hp (fun _ hk => hk) trivial (Below.refl _ _) (Nat.le_refl _) (by simp) ?_; (case hd => rfl); (case hg => rfl); (case hr => first | (go_simp; done) | (go_simp; rfl)); (case hp => exact (Reps.c3 (show Kd.M k40 _ _ _ (⟨a2_0, a2_1, a2_2⟩ : S40) [.int .i64 a2_0, .int .i64 a2_1, .int .i64 a2_2] from (k40_mkM _ _ _ (⟨a2_0, a2_1, a2_2⟩ : S40) )) (Reps.none _ _)))
         intro v523 w32 ho33 hb hg_ hnew_
         clear hg_ hnew_
         (first | rw [← Ny522.out] at ho33 | (simp only [Int.reduceToNat] at ho33; rw [← Ny522.out] at ho33))
         have n0_ := Aside0.mk (Kd.R_elder' (by (with_reducible repeat (first | apply Kd.R_alloc | apply Kd.R_drewN | apply Kd.R_drew)); exact HO518.out) (Kd.R_base ho33) hb)
         have n1_ := Aside0.mk (Kd.R_lower (Kd.R_newB (Kd.R_new' ho33 (Kd.R_lt (by (with_reducible repeat (first | apply Kd.R_alloc | apply Kd.R_drewN | apply Kd.R_drew)); exact HO518.out))) (g := gb510) (o := .cells #[.int .i64 a2_0, .int .i64 a2_1, .int .i64 a2_2] 40 (0, 0)) (by (with_reducible repeat (first | refine blk_drewN ?_ _ | refine blk_drew ?_ | refine blk_alloc ?_ _)); exact BK510.out)) (below_size (by repeat (first | (with_reducible first | exact HB.out | apply below_alloc | apply pw_below_drewN | apply below_drew1 | refine below_set ?_ GE510.out) | exact HB.out))))
         have n2_ := Aside0.mk (blk_below (g := gb510) (o := .cells #[.int .i64 a2_0, .int .i64 a2_1, .int .i64 a2_2] 40 (0, 0)) (by (with_reducible repeat (first | refine blk_drewN ?_ _ | refine blk_drew ?_ | refine blk_alloc ?_ _)); exact BK510.out) hb)
         have n3_ := Aside0.mk (below_step (by repeat (first | (with_reducible first | exact HB.out | apply below_alloc | apply pw_below_drewN | apply below_drew1 | refine below_set ?_ GE510.out) | exact HB.out)) hb)
         clear HO518
         clear BK510
         clear HB
         have HO518 := n0_
         have HO524 := n1_
         have BK510 := n2_
         have HB := n3_
         clear n0_ n1_ n2_ n3_
         clear hb ho33
         refine hK.out _ _ ⟨(blk_cell BK510.out 0).trans rfl, (blk_cell BK510.out 1).trans rfl, (blk_cell BK510.out 2).trans rfl⟩ (fun hHeld => ?_)
         clear hK K
         refine norm_ (a' := ?_) ?_ ?_
         rotate_left
         · show Act.put _ (some 40) _ = _
           simp only [Act.put, sq, i64_w, i32_w]
           rfl
         refine one_ (i := 2) (N := some 38) (msk 7 31) rfl rfl (by kernel_rfl) (by decide) (fun K hK => ?_)
         refine Kd.R_append_rows_step k40 (w0 := w) w.heap.size (by rfl) (.tmp 36) (.tmp 37) 22 40 (.agg #[(.int .i64 0), (.int .i64 0), (.int .i64 0)]) 24 rfl Try.underlying22 info40 rfl (by decide) (by omega) v517 y516 l1 _ _ _ (fun k_ => some k_ ≠ (v523 : Value).ownBlock ∧ k_ ≠ gb510) (fun _ => False) rfl rfl ?aO ?aR (fun _ _ h => h) (fun _ h => h.elim) ?aF ?aB ?aS ?aL ?_
         (case aR => repeat (first | exact (Kd.C_below HR1.out HB.out) | (with_reducible refine Kd.C_alloc ?_ _) | (with_reducible refine Kd.C_drewN ?_ _) | (with_reducible refine Kd.C_drew ?_)))
         (case aB => exact (by repeat (first | (with_reducible first | exact HB.out | apply below_alloc | apply pw_below_drewN | apply below_drew1 | refine below_set ?_ GE510.out) | exact HB.out)))
         (case aF => exact (fun k_ hk => ⟨Kd.fresh' (Kd.R_lt (by (with_reducible repeat (first | apply Kd.R_alloc | apply Kd.R_drewN | apply Kd.R_drew)); exact HO524.out)) k_ hk, Kd.freshB (g := gb510) (o := .cells #[.int .i64 a2_0, .int .i64 a2_1, .int .i64 a2_2] 40 (0, 0)) (by (with_reducible repeat (first | refine blk_drewN ?_ _ | refine blk_drew ?_ | refine blk_alloc ?_ _)); exact BK510.out) k_ hk⟩))
         (case aO => exact (by (with_reducible repeat (first | apply Kd.R_alloc | apply Kd.R_drewN | apply Kd.R_drew)); exact Kd.R_mono HO518.out (fun _ hk => ⟨hk.2, hk.1.2⟩)))
         (case aS => exact (below_size (by repeat (first | (with_reducible first | exact HB.out | apply below_alloc | apply pw_below_drewN | apply below_drew1 | refine below_set ?_ GE510.out) | exact HB.out))))
         (case aL => have := LMc24.out; omega)
         intro v520 w34 ho hb hg hat
         rw [← Ny519.out] at ho
         have n0_ := Aside0.mk (blk_grown (g := gb510) (o := .cells #[.int .i64 a2_0, .int .i64 a2_1, .int .i64 a2_2] 40 (0, 0)) (by (with_reducible repeat (first | refine blk_drewN ?_ _ | refine blk_drew ?_ | refine blk_alloc ?_ _)); exact BK510.out) hg (Kd.R_away HO518.out (fun _ hk => hk.1.2)))
         have n1_ := Aside0.mk (Kd.R_after (ok := (fun k_ => k_ ≠ gb510)) (by (with_reducible repeat (first | apply Kd.R_alloc | apply Kd.R_drewN | apply Kd.R_drew)); exact Kd.R_mono HO524.out (fun _ hk => ⟨hk.2, hk.1.2⟩)) hg hat)
         have n2_ := Aside0.mk (hb)
         have n3_ := Aside0.mk (ho)
         clear BK510
         clear HO524
         clear HB
         clear HO518
         have BK510 := n0_
         have HO524 := n1_
         have HB := n2_
         have HO521 := n3_
         clear n0_ n1_ n2_ n3_
         clear ho hb hg hat
         refine hK.out _ _ ⟨(blk_cell BK510.out 0).trans rfl, (blk_cell BK510.out 1).trans rfl, (blk_cell BK510.out 2).trans rfl⟩ (fun hHeld => ?_)
         clear hK K
         refine norm_ (a' := ?_) ?_ ?_
         rotate_left
         · show Act.put _ (some 38) _ = _
           simp only [Act.put, sq, i64_w, i32_w]
           rfl
         exact norm_ (by simp only [putAll, Act.put, List.setIfInBounds_toArray, List.set_cons_zero, List.set_cons_succ]) (hCont (v517, v520, v523) _ ⟨hHeld, (by (with_reducible repeat (first | apply Kd.R_alloc | apply Kd.R_drewN | apply Kd.R_drew)); exact HO521.out), (by (with_reducible repeat (first | apply Kd.R_alloc | apply Kd.R_drewN | apply Kd.R_drew)); exact Kd.R_mono HO524.out (fun _ hk => ⟨hk.2, hk.1⟩)), (by (with_reducible repeat (first | refine blk_drewN ?_ _ | refine blk_drew ?_ | refine blk_alloc ?_ _)); exact BK510.out), (by repeat (first | (with_reducible first | exact HB.out | apply below_alloc | apply pw_below_drewN | apply below_drew1 | refine below_set ?_ GE510.out) | exact HB.out))⟩)
     · skip
       refine Kd.R_lit_step k40 _ 40 ?hg (N := 40) ?hd (xs := ([(⟨a2_0, a2_1, a2_2⟩ : S40)] : List (S40))) (inner := [.int .i64 a2_0, .int .i64 a2_1, .int .i64 a2_2]) (ok := fun _ => True) (okp := fun _ => True) ?hr ?hp (fun _ hk => hk) trivial (Below.refl _ _) (Nat.le_refl _) (by simp) ?_; (case hd => rfl); (case hg => rfl); (case hr => first | (go_simp; done) | (go_simp; rfl)); (case hp => exact (Reps.c3 (show Kd.M k40 _ _ _ (⟨a2_0, a2_1, a2_2⟩ : S40) [.int .i64 a2_0, .int .i64 a2_1, .int .i64 a2_2] from (k40_mkM _ _ _ (⟨a2_0, a2_1, a2_2⟩ : S40) )) (Reps.none _ _)))
       intro v523 w30 ho31 hb hg_ hnew_
       clear hg_ hnew_
       (first | rw [← Ny522.out] at ho31 | (simp only [Int.reduceToNat] at ho31; rw [← Ny522.out] at ho31))
       have n0_ := Aside0.mk (Kd.R_lower (Kd.R_newB ho31 (g := gb510) (o := .cells #[.int .i64 a2_0, .int .i64 a2_1, .int .i64 a2_2] 40 (0, 0)) (by (with_reducible repeat (first | refine blk_drewN ?_ _ | refine blk_drew ?_ | refine blk_alloc ?_ _)); exact BK510.out)) (below_size (by repeat (first | (with_reducible first | exact HB.out | apply below_alloc | apply pw_below_drewN | apply below_drew1 | refine below_set ?_ GE510.out) | exact HB.out))))
       have n1_ := Aside0.mk (blk_below (g := gb510) (o := .cells #[.int .i64 a2_0, .int .i64 a2_1, .int .i64 a2_2] 40 (0, 0)) (by (with_reducible repeat (first | refine blk_drewN ?_ _ | refine blk_drew ?_ | refine blk_alloc ?_ _)); exact BK510.out) hb)
       have n2_ := Aside0.mk (below_step (by repeat (first | (with_reducible first | exact HB.out | apply below_alloc | apply pw_below_drewN | apply below_drew1 | refine below_set ?_ GE510.out) | exact HB.out)) hb)
       clear BK510
       clear HB
       have HO524 := n0_
       have BK510 := n1_
       have HB := n2_
       clear n0_ n1_ n2_
       clear hb ho31
       refine hK.out _ _ ⟨(blk_cell BK510.out 0).trans rfl, (blk_cell BK510.out 1).trans rfl, (blk_cell BK510.out 2).trans rfl⟩ (fun hHeld => ?_)
       clear hK K
       refine norm_ (a' := ?_) ?_ ?_
       rotate_left
       · show Act.put _ (some 40) _ = _
         simp only [Act.put, sq, i64_w, i32_w]
         rfl
       refine one_ (i := 0) (N := some 36) (msk 7 27) rfl rfl (by kernel_rfl) (by decide) (fun K hK => ?_)
       refine Kd.R_lit_step k40 _ 40 ?hg (N := 36) ?hd (xs := ([] : List (S40))) (inner := []) (ok := fun _ => True) (okp := fun _ => True) ?hr ?hp (fun _ hk => hk) trivial (Below.refl _ _) (Nat.le_refl _) (by simp) ?_; (case hd => rfl); (case hg => rfl); (case hr => first | (go_simp; done) | (go_simp; rfl)); (case hp => exact (Reps.none _ _))
       intro v517 w32 ho33 hb hg_ hnew_
       clear hg_ hnew_
       (first | rw [← Ny516.out] at ho33 | (simp only [Int.reduceToNat] at ho33; rw [← Ny516.out] at ho33))
       have n0_ := Aside0.mk (Kd.R_elder' (by (with_reducible repeat (first | apply Kd.R_alloc | apply Kd.R_drewN | apply Kd.R_drew)); exact HO524.out) (Kd.R_base ho33) hb)
       have n1_ := Aside0.mk (Kd.R_lower (Kd.R_newB (Kd.R_new' ho33 (Kd.R_lt (by (with_reducible repeat (first | apply Kd.R_alloc | apply Kd.R_drewN | apply Kd.R_drew)); exact HO524.out))) (g := gb510) (o := .cells #[.int .i64 a2_0, .int .i64 a2_1, .int .i64 a2_2] 40 (0, 0)) (by (with_reducible repeat (first | refine blk_drewN ?_ _ | refine blk_drew ?_ | refine blk_alloc ?_ _)); exact BK510.out)) (below_size (by repeat (first | (with_reducible first | exact HB.out | apply below_alloc | apply pw_below_drewN | apply below_drew1 | refine below_set ?_ GE510.out) | exact HB.out))))
       have n2_ := Aside0.mk (blk_below (g := gb510) (o := .cells #[.int .i64 a2_0, .int .i64 a2_1, .int .i64 a2_2] 40 (0, 0)) (by (with_reducible repeat (first | refine blk_drewN ?_ _ | refine blk_drew ?_ | refine blk_alloc ?_ _)); exact BK510.out) hb)
       have n3_ := Aside0.mk (below_step (by repeat (first | (with_reducible first | exact HB.out | apply below_alloc | apply pw_below_drewN | apply below_drew1 | refine below_set ?_ GE510.out) | exact HB.out)) hb)
       clear HO524
       clear BK510
       clear HB
       have HO524 := n0_
       have HO518 := n1_
       have BK510 := n2_
       have HB := n3_
       clear n0_ n1_ n2_ n3_
       clear hb ho33
       refine hK.out _ _ ⟨(blk_cell BK510.out 0).trans rfl, (blk_cell BK510.out 1).trans rfl, (blk_cell BK510.out 2).trans rfl⟩ (fun hHeld => ?_)
       clear hK K
       refine norm_ (a' := ?_) ?_ ?_
       rotate_left
       · show Act.put _ (some 36) _ = _
         simp only [Act.put, sq, i64_w, i32_w]
         rfl
       refine one_ (i := 2) (N := some 38) (msk 7 31) rfl rfl (by kernel_rfl) (by decide) (fun K hK => ?_)
       refine Kd.R_append_rows_step k40 (w0 := w) w.heap.size (by rfl) (.tmp 36) (.tmp 37) 22 40 (.agg #[(.int .i64 0), (.int .i64 0), (.int .i64 0)]) 24 rfl Try.underlying22 info40 rfl (by decide) (by omega) v517 y516 l1 _ _ _ (fun k_ => some k_ ≠ (v523 : Value).ownBlock ∧ k_ ≠ gb510) (fun _ => False) rfl rfl ?aO ?aR (fun _ _ h => h) (fun _ h => h.elim) ?aF ?aB ?aS ?aL ?_
       (case aR => repeat (first | exact (Kd.C_below HR1.out HB.out) | (with_reducible refine Kd.C_alloc ?_ _) | (with_reducible refine Kd.C_drewN ?_ _) | (with_reducible refine Kd.C_drew ?_)))
       (case aB => exact (by repeat (first | (with_reducible first | exact HB.out | apply below_alloc | apply pw_below_drewN | apply below_drew1 | refine below_set ?_ GE510.out) | exact HB.out)))
       (case aF => exact (fun k_ hk => ⟨Kd.fresh' (Kd.R_lt (by (with_reducible repeat (first | apply Kd.R_alloc | apply Kd.R_drewN | apply Kd.R_drew)); exact HO524.out)) k_ hk, Kd.freshB (g := gb510) (o := .cells #[.int .i64 a2_0, .int .i64 a2_1, .int .i64 a2_2] 40 (0, 0)) (by (with_reducible repeat (first | refine blk_drewN ?_ _ | refine blk_drew ?_ | refine blk_alloc ?_ _)); exact BK510.out) k_ hk⟩))
       (case aO => exact (by (with_reducible repeat (first | apply Kd.R_alloc | apply Kd.R_drewN | apply Kd.R_drew)); exact Kd.R_mono HO518.out (fun _ hk => ⟨hk.1.2, hk.2⟩)))
       (case aS => exact (below_size (by repeat (first | (with_reducible first | exact HB.out | apply below_alloc | apply pw_below_drewN | apply below_drew1 | refine below_set ?_ GE510.out) | exact HB.out))))
       (case aL => have := LMc24.out; omega)
       intro v520 w34 ho hb hg hat
       rw [← Ny519.out] at ho
       have n0_ := Aside0.mk (blk_grown (g := gb510) (o := .cells #[.int .i64 a2_0, .int .i64 a2_1, .int .i64 a2_2] 40 (0, 0)) (by (with_reducible repeat (first | refine blk_drewN ?_ _ | refine blk_drew ?_ | refine blk_alloc ?_ _)); exact BK510.out) hg (Kd.R_away HO518.out (fun _ hk => hk.2)))
       have n1_ := Aside0.mk (Kd.R_after (ok := (fun k_ => k_ ≠ gb510)) (by (with_reducible repeat (first | apply Kd.R_alloc | apply Kd.R_drewN | apply Kd.R_drew)); exact Kd.R_mono HO524.out (fun _ hk => ⟨hk.1.2, hk.2⟩)) hg hat)
       have n2_ := Aside0.mk (hb)
       have n3_ := Aside0.mk (ho)
       clear BK510
       clear HO524
       clear HB
       clear HO518
       have BK510 := n0_
       have HO524 := n1_
       have HB := n2_
       have HO521 := n3_
       clear n0_ n1_ n2_ n3_
       clear ho hb hg hat
       refine hK.out _ _ ⟨(blk_cell BK510.out 0).trans rfl, (blk_cell BK510.out 1).trans rfl, (blk_cell BK510.out 2).trans rfl⟩ (fun hHeld => ?_)
       clear hK K
       refine norm_ (a' := ?_) ?_ ?_
       rotate_left
       · show Act.put _ (some 38) _ = _
         simp only [Act.put, sq, i64_w, i32_w]
         rfl
       exact norm_ (by simp only [putAll, Act.put, List.setIfInBounds_toArray, List.set_cons_zero, List.set_cons_succ]) (hCont (v517, v520, v523) _ ⟨hHeld, (by (with_reducible repeat (first | apply Kd.R_alloc | apply Kd.R_drewN | apply Kd.R_drew)); exact HO521.out), (by (with_reducible repeat (first | apply Kd.R_alloc | apply Kd.R_drewN | apply Kd.R_drew)); exact Kd.R_mono HO524.out (fun _ hk => ⟨hk.2, hk.1⟩)), (by (with_reducible repeat (first | refine blk_drewN ?_ _ | refine blk_drew ?_ | refine blk_alloc ?_ _)); exact BK510.out), (by repeat (first | (with_reducible first | exact HB.out | apply below_alloc | apply pw_below_drewN | apply below_drew1 | refine below_set ?_ GE510.out) | exact HB.out))⟩)
   rintro ⟨v517, v520, v523⟩ w35 ⟨hS_, h0_, h1_, h2_, h3_⟩
   have n0_ : Aside0 (Kd.R k40 40 w35 w.heap.size (fun k_ => some k_ ≠ (v523 : Value).ownBlock ∧ k_ ≠ gb510) v520 y519) := ⟨h0_⟩
   have n1_ : Aside0 (Kd.R k40 40 w35 w.heap.size (fun k_ => some k_ ≠ (v520 : Value).ownBlock ∧ k_ ≠ gb510) v523 y522) := ⟨h1_⟩
   have n2_ : Aside0 (w35.heap[gb510]? = some (.cells #[.int .i64 a2_0, .int .i64 a2_1, .int .i64 a2_2] 40 (0, 0))) := ⟨h2_⟩
   have n3_ : Aside0 (Below w.heap.size w w35) := ⟨h3_⟩
   clear BK510
   clear HB
   clear h0_ h1_ h2_ h3_
   have HO521 := n0_
   have HO524 := n1_
   have BK510 := n2_
   have HB := n3_
   clear n0_ n1_ n2_ n3_
   have hHeld : w35.cell? ⟨gb510, 0, none⟩ = some (.int .i64 a2_0) ∧ w35.cell? ⟨gb510, 1, none⟩ = some (.int .i64 a2_1) ∧ w35.cell? ⟨gb510, 2, none⟩ = some (.int .i64 a2_2) := hS_
   obtain ⟨Ao37, co37, eo37⟩ := Kd.R_slice HO524.out
   (first | subst eo37 | (injection eo37 with f1_ f2_ f3_; have f4_ := f1_.symm; have f5_ := f3_.symm; clear f1_ f2_ f3_; subst f4_; subst f5_))
   refine norm_ (a' := ?_) ?_ ?_
   rotate_left
   · simp only [putAll, Act.put, List.setIfInBounds_toArray, List.set_cons_zero, List.set_cons_succ]
     rfl
   refine one_ (i := 5) (N := some 41) (msk 7 63) rfl rfl (by kernel_rfl) (by decide) (fun K hK => ?_)
   refine Kd.R_append_rows_step k40 (w0 := w) w.heap.size (by rfl) (.tmp 38) (.tmp 40) 22 40 (.agg #[(.int .i64 0), (.int .i64 0), (.int .i64 0)]) 24 rfl Try.underlying22 info40 rfl (by decide) (by omega) v520 y519 y522 _ _ _ (fun k_ => some k_ ≠ (.slice Ao37 y522.length co37 : Value).ownBlock ∧ k_ ≠ gb510) (fun _ => False) rfl rfl ?aO ?aR (fun _ _ h => h) (fun _ h => h.elim) ?aF ?aB ?aS ?aL ?_
   (case aR => repeat (first | exact (Kd.R_reads' HO524.out).2.2 | (with_reducible refine Kd.C_alloc ?_ _) | (with_reducible refine Kd.C_drewN ?_ _) | (with_reducible refine Kd.C_drew ?_)))
   (case aB => exact (by repeat (first | (with_reducible first | exact HB.out | apply below_alloc | apply pw_below_drewN | apply below_drew1 | refine below_set ?_ GE510.out) | exact HB.out)))
   (case aF => exact (fun k_ hk => ⟨Kd.fresh' (Kd.R_lt (by (with_reducible repeat (first | apply Kd.R_alloc | apply Kd.R_drewN | apply Kd.R_drew)); exact HO524.out)) k_ hk, Kd.freshB (g := gb510) (o := .cells #[.int .i64 a2_0, .int .i64 a2_1, .int .i64 a2_2] 40 (0, 0)) (by (with_reducible repeat (first | refine blk_drewN ?_ _ | refine blk_drew ?_ | refine blk_alloc ?_ _)); exact BK510.out) k_ hk⟩))
   (case aO => exact (by (with_reducible repeat (first | apply Kd.R_alloc | apply Kd.R_drewN | apply Kd.R_drew)); exact HO521.out))
   (case aS => exact (below_size (by repeat (first | (with_reducible first | exact HB.out | apply below_alloc | apply pw_below_drewN | apply below_drew1 | refine below_set ?_ GE510.out) | exact HB.out))))
   (case aL => have := LMc25.out; omega)
   intro v526 w36 ho hb hg hat
   rw [← Ny525.out] at ho
   have n0_ := Aside0.mk (blk_grown (g := gb510) (o := .cells #[.int .i64 a2_0, .int .i64 a2_1, .int .i64 a2_2] 40 (0, 0)) (by (with_reducible repeat (first | refine blk_drewN ?_ _ | refine blk_drew ?_ | refine blk_alloc ?_ _)); exact BK510.out) hg (Kd.R_away HO521.out (fun _ hk => hk.2)))
   have n1_ := Aside0.mk (Kd.R_after (ok := (fun k_ => k_ ≠ gb510)) (by (with_reducible repeat (first | apply Kd.R_alloc | apply Kd.R_drewN | apply Kd.R_drew)); exact Kd.R_mono HO524.out (fun _ hk => ⟨hk.2, hk.1⟩)) hg hat)
   have n2_ := Aside0.mk (hb)
   have n3_ := Aside0.mk (ho)
   clear BK510
   clear HO524
   clear HB
   clear HO521
   have BK510 := n0_
   have HO524 := n1_
   have HB := n2_
   have HO527 := n3_
   clear n0_ n1_ n2_ n3_
   clear ho hb hg hat
   refine hK.out _ _ ⟨(blk_cell BK510.out 0).trans rfl, (blk_cell BK510.out 1).trans rfl, (blk_cell BK510.out 2).trans rfl⟩ (fun hHeld => ?_)
   clear hK K
   refine norm_ (a' := ?_) ?_ ?_
   rotate_left
   · show Act.put _ (some 41) _ = _
     simp only [Act.put, sq, i64_w, i32_w]
     rfl
   refine pure_ (i := 6) (N := some 7) (v := ?_) (a' := ?_) (msk 7 127) rfl rfl (by kernel_rfl) (fun _ _ _ h => h) (Or.inl ⟨by rfl, ?_⟩) ?_ ?_
   rotate_left
   · intro w'; go_simp; with_reducible rfl
   rotate_left
   · simp only [Act.put, sq, i64_w, i32_w]; rfl
   refine done_ (by kernel_rfl) ?_
   go_upto_region 6 with (first | ((with_reducible refine gate_callee (f := 13) rfl ?_); refine goesL_ (some 46) rfl rfl Try.func13 (by kernel_rfl) rfl #[.int .i64 a0, .int .i64 a0, .slice A1 l1.length c1] rfl (by (try simp only [List.map_toArray, List.map_cons, List.map_nil]); first | done | rfl | (simp only [List.length_drop, List.length_take]; rfl)) ?_; (with_reducible refine (match_Most.calls a0 a0 _ _ l1 t528 t529 _ ?side1 ?side2 A26.out).mono ?_); (case side1 => repeat (first | exact (Kd.C_below HR1.out HB.out) | (with_reducible refine Kd.C_alloc ?_ _) | (with_reducible refine Kd.C_drewN ?_ _) | (with_reducible refine Kd.C_drew ?_))); (case side2 => exact HC1.out); rintro e w38 ⟨v530, rfl, ho0, hb⟩; refine ⟨_, rfl, ?_⟩; have n0_ := Aside0.mk (Kd.R_below (by (with_reducible repeat (first | apply Kd.R_alloc | apply Kd.R_drewN | apply Kd.R_drew)); exact HO524.out) hb); have n1_ := Aside0.mk (Kd.R_below (by (with_reducible repeat (first | apply Kd.R_alloc | apply Kd.R_drewN | apply Kd.R_drew)); exact HO527.out) hb); have n2_ := Aside0.mk (Kd.R_lower ho0 (below_size (by repeat (first | (with_reducible first | exact HB.out | apply below_alloc | apply pw_below_drewN | apply below_drew1 | refine below_set ?_ GE510.out) | exact HB.out)))); have n3_ := Aside0.mk (blk_below (g := gb510) (o := .cells #[.int .i64 a2_0, .int .i64 a2_1, .int .i64 a2_2] 40 (0, 0)) (by (with_reducible repeat (first | refine blk_drewN ?_ _ | refine blk_drew ?_ | refine blk_alloc ?_ _)); exact BK510.out) hb); have n4_ := Aside0.mk (below_step (by repeat (first | (with_reducible first | exact HB.out | apply below_alloc | apply pw_below_drewN | apply below_drew1 | refine below_set ?_ GE510.out) | exact HB.out)) hb); clear HO524; clear HO527; clear BK510; clear HB; have HO524 := n0_; have HO527 := n1_; have HO531 := n2_; have BK510 := n3_; have HB := n4_; clear n0_ n1_ n2_ n3_ n4_; (try clear hb); (try clear hb2); (try clear hk); (try clear hi); (try clear ho0); obtain ⟨Ao39, co39, eo39⟩ := Kd.R_slice HO527.out; subst eo39) | ((with_reducible refine gate_callee (f := 13) rfl ?_); refine goesL_ (some 53) rfl rfl Try.func13 (by kernel_rfl) rfl #[.int .i64 a0, .int .i64 a0, .slice Ao39 y525.length co39] rfl (by (try simp only [List.map_toArray, List.map_cons, List.map_nil]); first | done | rfl | (simp only [List.length_drop, List.length_take]; rfl)) ?_; (with_reducible refine (match_Most.calls a0 a0 _ _ y525 t532 t533 _ ?side1 ?side2 A27.out).mono ?_); (case side1 => repeat (first | exact (Kd.R_reads' HO527.out).2.2 | (with_reducible refine Kd.C_alloc ?_ _) | (with_reducible refine Kd.C_drewN ?_ _) | (with_reducible refine Kd.C_drew ?_))); (case side2 => exact (Kd.R_reads' HO527.out).2.1); rintro e w40 ⟨v534, rfl, ho0, hb⟩; refine ⟨_, rfl, ?_⟩; have n0_ := Aside0.mk (Kd.R_below (by (with_reducible repeat (first | apply Kd.R_alloc | apply Kd.R_drewN | apply Kd.R_drew)); exact HO524.out) hb); have n1_ := Aside0.mk (Kd.R_below (by (with_reducible repeat (first | apply Kd.R_alloc | apply Kd.R_drewN | apply Kd.R_drew)); exact HO527.out) hb); have n2_ := Aside0.mk (Kd.R_elder' (by (with_reducible repeat (first | apply Kd.R_alloc | apply Kd.R_drewN | apply Kd.R_drew)); exact HO531.out) (Kd.R_base ho0) hb); have n3_ := Aside0.mk (Kd.R_lower (Kd.R_new' ho0 (Kd.R_lt (by (with_reducible repeat (first | apply Kd.R_alloc | apply Kd.R_drewN | apply Kd.R_drew)); exact HO531.out))) (below_size (by repeat (first | (with_reducible first | exact HB.out | apply below_alloc | apply pw_below_drewN | apply below_drew1 | refine below_set ?_ GE510.out) | exact HB.out)))); have n4_ := Aside0.mk (blk_below (g := gb510) (o := .cells #[.int .i64 a2_0, .int .i64 a2_1, .int .i64 a2_2] 40 (0, 0)) (by (with_reducible repeat (first | refine blk_drewN ?_ _ | refine blk_drew ?_ | refine blk_alloc ?_ _)); exact BK510.out) hb); have n5_ := Aside0.mk (below_step (by repeat (first | (with_reducible first | exact HB.out | apply below_alloc | apply pw_below_drewN | apply below_drew1 | refine below_set ?_ GE510.out) | exact HB.out)) hb); clear HO524; clear HO527; clear HO531; clear BK510; clear HB; have HO524 := n0_; have HO527 := n1_; have HO531 := n2_; have HO535 := n3_; have BK510 := n4_; have HB := n5_; clear n0_ n1_ n2_ n3_ n4_ n5_; (try clear hb); (try clear hb2); (try clear hk); (try clear hi); (try clear ho0)))
   (try simp only [Act.put, List.setIfInBounds_toArray, List.set_cons_zero, List.set_cons_succ])
   go_cut [88] (fun v88 wc => ∃ (kq : Nat) (x88_27 : Bool), v88 = .bool x88_27 ∧ Aside0 (orrerylaw19_MatchMore.j1 kq a0 l1 y525 t528 t532 x88_27 = some r) ∧ Aside0 (kq ≤ kj3) ∧ Aside0 (Kd.R k40 40 wc w.heap.size (fun k_ => k_ ≠ gb510) (.slice Ao39 y525.length co39) y525) ∧ Aside0 (Kd.R (Kd.int .i64) 3 wc w.heap.size (fun k_ => some k_ ≠ (v534 : Value).ownBlock) v530 t528) ∧ Aside0 (Kd.R (Kd.int .i64) 3 wc w.heap.size (fun k_ => some k_ ≠ (v530 : Value).ownBlock) v534 t532) ∧ Aside0 (wc.heap[gb510]? = some (.cells #[.int .i64 a2_0, .int .i64 a2_1, .int .i64 a2_2] 40 (0, 0))) ∧ Aside0 (Below w.heap.size w wc))
   case first =>
    have H := HC28.out
    clear HC28
    by_cases c41 : t529 = 0
    case neg =>
     rw [if_neg c41] at H
     have c41b0 : (t529 == 0) = false := beq_eq_false_iff_ne.mpr c41
     have c41b1 : (t529 != 0) = true := bne_iff_ne.mpr c41
     (first | rw [c41b0] | (simp only [i64_w, i32_w]; rw [c41b0]) | skip)
     have H' := Aside0.mk H
     clear H
     go_wp2
     go_meet
     case rel => exact ⟨_, (true), (by first | rfl | (simp; done) | (simp [*]; done)), H', ⟨by have := HJ3.out; first | omega | exact Nat.le_refl _⟩, ⟨by (with_reducible repeat (first | apply Kd.R_alloc | apply Kd.R_drewN | apply Kd.R_drew)); exact Kd.R_mono HO527.out (fun _ hk => hk.2)⟩, ⟨by (with_reducible repeat (first | apply Kd.R_alloc | apply Kd.R_drewN | apply Kd.R_drew)); exact Kd.R_mono HO531.out (fun _ hk => hk.2)⟩, ⟨by (with_reducible repeat (first | apply Kd.R_alloc | apply Kd.R_drewN | apply Kd.R_drew)); exact Kd.R_mono HO535.out (fun _ hk => hk.2)⟩, ⟨by (with_reducible repeat (first | refine blk_drewN ?_ _ | refine blk_drew ?_ | refine blk_alloc ?_ _)); exact BK510.out⟩, ⟨by repeat (first | (with_reducible first | exact HB.out | apply below_alloc | apply pw_below_drewN | apply below_drew1 | refine below_set ?_ GE510.out) | exact HB.out)⟩⟩
    rw [if_pos c41] at H
    have c41b0 : (t529 == 0) = true := beq_iff_eq.mpr c41
    have c41b1 : (t529 != 0) = false := bne_eq_false_iff_eq.mpr c41
    clear c41
    (first | rw [c41b0] | (simp only [i64_w, i32_w]; rw [c41b0]) | skip)
    by_cases c42 : t533 = 0
    case neg =>
     rw [if_neg c42] at H
     have c42b0 : (t533 == 0) = false := beq_eq_false_iff_ne.mpr c42
     have c42b1 : (t533 != 0) = true := bne_iff_ne.mpr c42
     have H' := Aside0.mk H
     clear H
     go_wp2
     go_meet
     case rel => exact ⟨_, (true), (by first | rfl | (simp; done) | (simp [*]; done)), H', ⟨by have := HJ3.out; first | omega | exact Nat.le_refl _⟩, ⟨by (with_reducible repeat (first | apply Kd.R_alloc | apply Kd.R_drewN | apply Kd.R_drew)); exact Kd.R_mono HO527.out (fun _ hk => hk.2)⟩, ⟨by (with_reducible repeat (first | apply Kd.R_alloc | apply Kd.R_drewN | apply Kd.R_drew)); exact Kd.R_mono HO531.out (fun _ hk => hk.2)⟩, ⟨by (with_reducible repeat (first | apply Kd.R_alloc | apply Kd.R_drewN | apply Kd.R_drew)); exact Kd.R_mono HO535.out (fun _ hk => hk.2)⟩, ⟨by (with_reducible repeat (first | refine blk_drewN ?_ _ | refine blk_drew ?_ | refine blk_alloc ?_ _)); exact BK510.out⟩, ⟨by repeat (first | (with_reducible first | exact HB.out | apply below_alloc | apply pw_below_drewN | apply below_drew1 | refine below_set ?_ GE510.out) | exact HB.out)⟩⟩
    rw [if_pos c42] at H
    have c42b0 : (t533 == 0) = true := beq_iff_eq.mpr c42
    have c42b1 : (t533 != 0) = false := bne_eq_false_iff_eq.mpr c42
    clear c42
    by_cases c43 : (t528.length : Int) = a0
    case neg =>
     rw [if_neg c43] at H
     have c43b0 : ((t528.length : Int) == a0) = false := beq_eq_false_iff_ne.mpr c43
     have c43b1 : ((t528.length : Int) != a0) = true := bne_iff_ne.mpr c43
     have H' := Aside0.mk H
     clear H
     obtain ⟨Ao56, co56, eo56⟩ := Kd.R_slice HO531.out
     subst eo56
     go_wp2
     go_meet
     case rel => exact ⟨_, (true), (by first | rfl | (simp; done) | (simp [*]; done)), H', ⟨by have := HJ3.out; first | omega | exact Nat.le_refl _⟩, ⟨by (with_reducible repeat (first | apply Kd.R_alloc | apply Kd.R_drewN | apply Kd.R_drew)); exact Kd.R_mono HO527.out (fun _ hk => hk.2)⟩, ⟨by (with_reducible repeat (first | apply Kd.R_alloc | apply Kd.R_drewN | apply Kd.R_drew)); exact Kd.R_mono HO531.out (fun _ hk => hk.2)⟩, ⟨by (with_reducible repeat (first | apply Kd.R_alloc | apply Kd.R_drewN | apply Kd.R_drew)); exact Kd.R_mono HO535.out (fun _ hk => hk.2)⟩, ⟨by (with_reducible repeat (first | refine blk_drewN ?_ _ | refine blk_drew ?_ | refine blk_alloc ?_ _)); exact BK510.out⟩, ⟨by repeat (first | (with_reducible first | exact HB.out | apply below_alloc | apply pw_below_drewN | apply below_drew1 | refine below_set ?_ GE510.out) | exact HB.out)⟩⟩
    rw [if_pos c43] at H
    have c43b0 : ((t528.length : Int) == a0) = true := beq_iff_eq.mpr c43
    have c43b1 : ((t528.length : Int) != a0) = false := bne_eq_false_iff_eq.mpr c43
    clear c43
    by_cases c44 : (t532.length : Int) = a0
    case neg =>
     rw [if_neg c44] at H
     have c44b0 : ((t532.length : Int) == a0) = false := beq_eq_false_iff_ne.mpr c44
     have c44b1 : ((t532.length : Int) != a0) = true := bne_iff_ne.mpr c44
     have H' := Aside0.mk H
     clear H
     obtain ⟨Ao54, co54, eo54⟩ := Kd.R_slice HO531.out
     subst eo54
     obtain ⟨Ao55, co55, eo55⟩ := Kd.R_slice HO535.out
     subst eo55
     go_wp2
     go_meet
     case rel => exact ⟨_, (true), (by first | rfl | (simp; done) | (simp [*]; done)), H', ⟨by have := HJ3.out; first | omega | exact Nat.le_refl _⟩, ⟨by (with_reducible repeat (first | apply Kd.R_alloc | apply Kd.R_drewN | apply Kd.R_drew)); exact Kd.R_mono HO527.out (fun _ hk => hk.2)⟩, ⟨by (with_reducible repeat (first | apply Kd.R_alloc | apply Kd.R_drewN | apply Kd.R_drew)); exact Kd.R_mono HO531.out (fun _ hk => hk.2)⟩, ⟨by (with_reducible repeat (first | apply Kd.R_alloc | apply Kd.R_drewN | apply Kd.R_drew)); exact Kd.R_mono HO535.out (fun _ hk => hk.2)⟩, ⟨by (with_reducible repeat (first | refine blk_drewN ?_ _ | refine blk_drew ?_ | refine blk_alloc ?_ _)); exact BK510.out⟩, ⟨by repeat (first | (with_reducible first | exact HB.out | apply below_alloc | apply pw_below_drewN | apply below_drew1 | refine below_set ?_ GE510.out) | exact HB.out)⟩⟩
    rw [if_pos c44] at H
    have c44b0 : ((t532.length : Int) == a0) = true := beq_iff_eq.mpr c44
    have c44b1 : ((t532.length : Int) != a0) = false := bne_eq_false_iff_eq.mpr c44
    clear c44
    replace H := Option.bind_eq_some_iff.mp H
    obtain ⟨t536, A450, H⟩ := H
    replace H : ((orreryref19_Size.f kj3 t528).bind fun t537 => (if t536 < t537 then (orrerylaw19_MatchMore.j1 kj3 a0 l1 y525 t528 t532 true) else ((orreryref19_Size.f kj3 t532).bind fun t538 => ((orreryref19_Size.f kj3 t528).bind fun t539 => (orrerylaw19_MatchMore.j1 kj3 a0 l1 y525 t528 t532 (decide (t538 > (wrap64 (t539 + 1))))))))) = some r := H
    have A45 := Aside0.mk A450
    clear A450
    replace H := Option.bind_eq_some_iff.mp H
    obtain ⟨t537, A460, H⟩ := H
    replace H : (if t536 < t537 then (orrerylaw19_MatchMore.j1 kj3 a0 l1 y525 t528 t532 true) else ((orreryref19_Size.f kj3 t532).bind fun t538 => ((orreryref19_Size.f kj3 t528).bind fun t539 => (orrerylaw19_MatchMore.j1 kj3 a0 l1 y525 t528 t532 (decide (t538 > (wrap64 (t539 + 1)))))))) = some r := H
    have A46 := Aside0.mk A460
    clear A460
    by_cases c47 : t536 < t537
    case pos =>
     rw [if_pos c47] at H
     have c47b0 : decide (t536 < t537) = true := decide_eq_true c47
     clear c47
     have H' := Aside0.mk H
     clear H
     obtain ⟨Ao48, co48, eo48⟩ := Kd.R_slice HO531.out
     subst eo48
     obtain ⟨Ao49, co49, eo49⟩ := Kd.R_slice HO535.out
     subst eo49
     go_wp2_with (first | (go_at_call 24; (with_reducible refine (orreryref19_Size.calls kj3 _ _ t532 t536 _ ?side1 ?side2 A45.out).mono ?_); (case side1 => repeat (first | exact (Kd.R_reads' HO535.out).2.2 | (with_reducible refine Kd.C_alloc ?_ _) | (with_reducible refine Kd.C_drewN ?_ _) | (with_reducible refine Kd.C_drew ?_))); (case side2 => exact (Kd.R_reads' HO535.out).2.1); rintro e w' ⟨rfl, ⟨nd, rfl⟩⟩) | (go_at_call 24; (with_reducible refine (orreryref19_Size.calls kj3 _ _ t528 t537 _ ?side1 ?side2 A46.out).mono ?_); (case side1 => repeat (first | exact (Kd.R_reads' HO531.out).2.2 | (with_reducible refine Kd.C_alloc ?_ _) | (with_reducible refine Kd.C_drewN ?_ _) | (with_reducible refine Kd.C_drew ?_))); (case side2 => exact (Kd.R_reads' HO531.out).2.1); rintro e w' ⟨rfl, ⟨nd, rfl⟩⟩))
     go_meet
     case rel => exact ⟨_, (true), (by first | rfl | (simp; done) | (simp [*]; done)), H', ⟨by have := HJ3.out; first | omega | exact Nat.le_refl _⟩, ⟨by (with_reducible repeat (first | apply Kd.R_alloc | apply Kd.R_drewN | apply Kd.R_drew)); exact Kd.R_mono HO527.out (fun _ hk => hk.2)⟩, ⟨by (with_reducible repeat (first | apply Kd.R_alloc | apply Kd.R_drewN | apply Kd.R_drew)); exact Kd.R_mono HO531.out (fun _ hk => hk.2)⟩, ⟨by (with_reducible repeat (first | apply Kd.R_alloc | apply Kd.R_drewN | apply Kd.R_drew)); exact Kd.R_mono HO535.out (fun _ hk => hk.2)⟩, ⟨by (with_reducible repeat (first | refine blk_drewN ?_ _ | refine blk_drew ?_ | refine blk_alloc ?_ _)); exact BK510.out⟩, ⟨by repeat (first | (with_reducible first | exact HB.out | apply below_alloc | apply pw_below_drewN | apply below_drew1 | refine below_set ?_ GE510.out) | exact HB.out)⟩⟩
    rw [if_neg c47] at H
    have c47b0 : decide (t536 < t537) = false := decide_eq_false c47
    clear c47
    replace H := Option.bind_eq_some_iff.mp H
    obtain ⟨t538, A500, H⟩ := H
    replace H : ((orreryref19_Size.f kj3 t528).bind fun t539 => (orrerylaw19_MatchMore.j1 kj3 a0 l1 y525 t528 t532 (decide (t538 > (wrap64 (t539 + 1)))))) = some r := H
    have A50 := Aside0.mk A500
    clear A500
    replace H := Option.bind_eq_some_iff.mp H
    obtain ⟨t539, A510, H⟩ := H
    replace H : (orrerylaw19_MatchMore.j1 kj3 a0 l1 y525 t528 t532 (decide (t538 > (wrap64 (t539 + 1))))) = some r := H
    have A51 := Aside0.mk A510
    have e1_ : t538 = t536 := Option.some.inj (A50.out.symm.trans A45.out)
    subst e1_
    have e2_ : t539 = t537 := Option.some.inj (A51.out.symm.trans A46.out)
    subst e2_
    clear A510
    have H' := Aside0.mk H
    clear H
    obtain ⟨Ao52, co52, eo52⟩ := Kd.R_slice HO531.out
    subst eo52
    obtain ⟨Ao53, co53, eo53⟩ := Kd.R_slice HO535.out
    subst eo53
    go_wp2_with (first | (go_at_call 24; (with_reducible refine (orreryref19_Size.calls kj3 _ _ t532 t536 _ ?side1 ?side2 A45.out).mono ?_); (case side1 => repeat (first | exact (Kd.R_reads' HO535.out).2.2 | (with_reducible refine Kd.C_alloc ?_ _) | (with_reducible refine Kd.C_drewN ?_ _) | (with_reducible refine Kd.C_drew ?_))); (case side2 => exact (Kd.R_reads' HO535.out).2.1); rintro e w' ⟨rfl, ⟨nd, rfl⟩⟩) | (go_at_call 24; (with_reducible refine (orreryref19_Size.calls kj3 _ _ t528 t537 _ ?side1 ?side2 A46.out).mono ?_); (case side1 => repeat (first | exact (Kd.R_reads' HO531.out).2.2 | (with_reducible refine Kd.C_alloc ?_ _) | (with_reducible refine Kd.C_drewN ?_ _) | (with_reducible refine Kd.C_drew ?_))); (case side2 => exact (Kd.R_reads' HO531.out).2.1); rintro e w' ⟨rfl, ⟨nd, rfl⟩⟩) | (go_at_call 24; (with_reducible refine (orreryref19_Size.calls kj3 _ _ t532 t538 _ ?side1 ?side2 A50.out).mono ?_); (case side1 => repeat (first | exact (Kd.R_reads' HO535.out).2.2 | (with_reducible refine Kd.C_alloc ?_ _) | (with_reducible refine Kd.C_drewN ?_ _) | (with_reducible refine Kd.C_drew ?_))); (case side2 => exact (Kd.R_reads' HO535.out).2.1); rintro e w' ⟨rfl, ⟨nd, rfl⟩⟩) | (go_at_call 24; (with_reducible refine (orreryref19_Size.calls kj3 _ _ t528 t539 _ ?side1 ?side2 A51.out).mono ?_); (case side1 => repeat (first | exact (Kd.R_reads' HO531.out).2.2 | (with_reducible refine Kd.C_alloc ?_ _) | (with_reducible refine Kd.C_drewN ?_ _) | (with_reducible refine Kd.C_drew ?_))); (case side2 => exact (Kd.R_reads' HO531.out).2.1); rintro e w' ⟨rfl, ⟨nd, rfl⟩⟩))
    go_meet
    case rel => exact ⟨_, (decide (t538 > (wrap64 (t539 + 1)))), (by first | rfl | (simp; done) | (simp [*]; done)), H', ⟨by have := HJ3.out; first | omega | exact Nat.le_refl _⟩, ⟨by (with_reducible repeat (first | apply Kd.R_alloc | apply Kd.R_drewN | apply Kd.R_drew)); exact Kd.R_mono HO527.out (fun _ hk => hk.2)⟩, ⟨by (with_reducible repeat (first | apply Kd.R_alloc | apply Kd.R_drewN | apply Kd.R_drew)); exact Kd.R_mono HO531.out (fun _ hk => hk.2)⟩, ⟨by (with_reducible repeat (first | apply Kd.R_alloc | apply Kd.R_drewN | apply Kd.R_drew)); exact Kd.R_mono HO535.out (fun _ hk => hk.2)⟩, ⟨by (with_reducible repeat (first | refine blk_drewN ?_ _ | refine blk_drew ?_ | refine blk_alloc ?_ _)); exact BK510.out⟩, ⟨by repeat (first | (with_reducible first | exact HB.out | apply below_alloc | apply pw_below_drewN | apply below_drew1 | refine below_set ?_ GE510.out) | exact HB.out)⟩⟩
   case rest =>
    clear HC28
    try clear c1
    try clear c2
    try clear p2
    try clear c3
    try clear c4
    try clear p6
    try clear c7
    try clear c9
    try clear c13
    try clear c14
    try clear c23
    try clear c24
    try clear c25
    try clear c41
    try clear c41b0
    try clear c41b1
    try clear c42
    try clear c42b0
    try clear c42b1
    try clear c43
    try clear c43b0
    try clear c43b1
    try clear c44
    try clear c44b0
    try clear c44b1
    try clear c47
    try clear c47b0
    try clear hcz11_0
    try clear hcz11_1
    try clear hcz11_2
    try clear hcz17_0
    try clear hcz17_1
    try clear hcz17_2
    try clear hfz11_0
    try clear hfz11_1
    try clear hfz11_2
    try clear hfz17_0
    try clear hfz17_1
    try clear hfz17_2
    try clear p2
    obtain ⟨kq, x88_27, rfl, HA, HJ27, HO_7, HO_8, HO_10, BK510, HB⟩ := hcut
    cases kq with
    | zero => exact absurd HA.out (by simp [orrerylaw19_MatchMore.j1])
    | succ kj27 =>
     have H := HA.out
     clear HA
     simp only [orrerylaw19_MatchMore.j1] at H
     by_cases c57 : x88_27 = true
     case pos =>
      subst c57
      have H1 : (some false) = some r := by rw [if_pos rfl] at H; exact H
      clear H
      have H := H1
      clear H1
      obtain rfl := Option.some.inj H
      go_wp2
      go_ret
      exact ⟨by first | rfl | (simp [errW_none, errW_some] <;> rfl) | (simp [*, errW_none, errW_some] <;> rfl), by repeat (first | (with_reducible first | exact HB.out | apply below_alloc | apply pw_below_drewN | apply below_drew1 | refine below_set ?_ GE510.out) | exact HB.out)⟩
     replace c57 := Bool.eq_false_iff.mpr c57
     subst c57
     have H1 : ((match_Assign.f kj27 a0 l1).bind fun bt540 => ((match_Assign.f kj27 a0 y525).bind fun bt544 => ((orreryref19_Size.f kj27 t528).bind fun t548 => (if ((bt540.2 == 0) != (t548 == a0)) = true then (orrerylaw19_MatchMore.j2 kj27 a0 l1 y525 bt540.1 bt540.2 bt544.1 true) else ((orreryref19_Size.f kj27 t532).bind fun t549 => (if ((bt544.2 == 0) != (t549 == a0)) = true then (orrerylaw19_MatchMore.j2 kj27 a0 l1 y525 bt540.1 bt540.2 bt544.1 true) else (if bt540.2 = 0 then (orrerylaw19_MatchMore.j2 kj27 a0 l1 y525 bt540.1 bt540.2 bt544.1 (bt544.2 != 0)) else (orrerylaw19_MatchMore.j2 kj27 a0 l1 y525 bt540.1 bt540.2 bt544.1 false)))))))) = some r := by rw [if_neg (show ¬ (false = true) by decide)] at H; exact H
     clear H
     have H := H1
     clear H1
     replace H := Option.bind_eq_some_iff.mp H
     obtain ⟨⟨t540, t541⟩, A580, H⟩ := H
     replace H : ((match_Assign.f kj27 a0 y525).bind fun bt544 => ((orreryref19_Size.f kj27 t528).bind fun t548 => (if ((t541 == 0) != (t548 == a0)) = true then (orrerylaw19_MatchMore.j2 kj27 a0 l1 y525 t540 t541 bt544.1 true) else ((orreryref19_Size.f kj27 t532).bind fun t549 => (if ((bt544.2 == 0) != (t549 == a0)) = true then (orrerylaw19_MatchMore.j2 kj27 a0 l1 y525 t540 t541 bt544.1 true) else (if t541 = 0 then (orrerylaw19_MatchMore.j2 kj27 a0 l1 y525 t540 t541 bt544.1 (bt544.2 != 0)) else (orrerylaw19_MatchMore.j2 kj27 a0 l1 y525 t540 t541 bt544.1 false))))))) = some r := H
     have A58 := Aside0.mk A580
     clear A580
     replace H := Option.bind_eq_some_iff.mp H
     obtain ⟨⟨t544, t545⟩, A590, H⟩ := H
     replace H : ((orreryref19_Size.f kj27 t528).bind fun t548 => (if ((t541 == 0) != (t548 == a0)) = true then (orrerylaw19_MatchMore.j2 kj27 a0 l1 y525 t540 t541 t544 true) else ((orreryref19_Size.f kj27 t532).bind fun t549 => (if ((t545 == 0) != (t549 == a0)) = true then (orrerylaw19_MatchMore.j2 kj27 a0 l1 y525 t540 t541 t544 true) else (if t541 = 0 then (orrerylaw19_MatchMore.j2 kj27 a0 l1 y525 t540 t541 t544 (t545 != 0)) else (orrerylaw19_MatchMore.j2 kj27 a0 l1 y525 t540 t541 t544 false)))))) = some r := H
     have A59 := Aside0.mk A590
     clear A590
     have HC60 := Aside0.mk H
     clear H
     go_upto_region 10 with (first | ((with_reducible refine gate_callee (f := 23) rfl ?_); refine goesL_ (some 92) rfl rfl Try.func23 (by kernel_rfl) rfl #[.int .i64 a0, .slice A1 l1.length c1] rfl (by (try simp only [List.map_toArray, List.map_cons, List.map_nil]); first | done | rfl | (simp only [List.length_drop, List.length_take]; rfl)) ?_; (with_reducible refine (match_Assign.calls kj27 a0 _ _ l1 t540 t541 _ ?side1 ?side2 A58.out).mono ?_); (case side1 => repeat (first | exact (Kd.C_below HR1.out HB.out) | (with_reducible refine Kd.C_alloc ?_ _) | (with_reducible refine Kd.C_drewN ?_ _) | (with_reducible refine Kd.C_drew ?_))); (case side2 => exact HC1.out); rintro e w61 ⟨v542, rfl, ho0, hb⟩; refine ⟨_, rfl, ?_⟩; have n0_ := Aside0.mk (Kd.R_below (by (with_reducible repeat (first | apply Kd.R_alloc | apply Kd.R_drewN | apply Kd.R_drew)); exact HO_7.out) hb); have n1_ := Aside0.mk (Kd.R_elder' (by (with_reducible repeat (first | apply Kd.R_alloc | apply Kd.R_drewN | apply Kd.R_drew)); exact HO_8.out) (Kd.R_base ho0) hb); have n2_ := Aside0.mk (Kd.R_elder' (by (with_reducible repeat (first | apply Kd.R_alloc | apply Kd.R_drewN | apply Kd.R_drew)); exact HO_10.out) (Kd.R_base ho0) hb); have n3_ := Aside0.mk (Kd.R_lower (Kd.R_new' (Kd.R_new' ho0 (Kd.R_lt (by (with_reducible repeat (first | apply Kd.R_alloc | apply Kd.R_drewN | apply Kd.R_drew)); exact HO_8.out))) (Kd.R_lt (by (with_reducible repeat (first | apply Kd.R_alloc | apply Kd.R_drewN | apply Kd.R_drew)); exact HO_10.out))) (below_size (by repeat (first | (with_reducible first | exact HB.out | apply below_alloc | apply pw_below_drewN | apply below_drew1 | refine below_set ?_ GE510.out) | exact HB.out)))); have n4_ := Aside0.mk (blk_below (g := gb510) (o := .cells #[.int .i64 a2_0, .int .i64 a2_1, .int .i64 a2_2] 40 (0, 0)) (by (with_reducible repeat (first | refine blk_drewN ?_ _ | refine blk_drew ?_ | refine blk_alloc ?_ _)); exact BK510.out) hb); have n5_ := Aside0.mk (below_step (by repeat (first | (with_reducible first | exact HB.out | apply below_alloc | apply pw_below_drewN | apply below_drew1 | refine below_set ?_ GE510.out) | exact HB.out)) hb); clear HO_7; clear HO_8; clear HO_10; clear BK510; clear HB; have HO_7 := n0_; have HO_8 := n1_; have HO_10 := n2_; have HO543 := n3_; have BK510 := n4_; have HB := n5_; clear n0_ n1_ n2_ n3_ n4_ n5_; (try clear hb); (try clear hb2); (try clear hk); (try clear hi); (try clear ho0)) | ((with_reducible refine gate_callee (f := 23) rfl ?_); refine goesL_ (some 98) rfl rfl Try.func23 (by kernel_rfl) rfl #[.int .i64 a0, .slice Ao39 y525.length co39] rfl (by (try simp only [List.map_toArray, List.map_cons, List.map_nil]); first | done | rfl | (simp only [List.length_drop, List.length_take]; rfl)) ?_; (with_reducible refine (match_Assign.calls kj27 a0 _ _ y525 t544 t545 _ ?side1 ?side2 A59.out).mono ?_); (case side1 => repeat (first | exact (Kd.R_reads' HO_7.out).2.2 | (with_reducible refine Kd.C_alloc ?_ _) | (with_reducible refine Kd.C_drewN ?_ _) | (with_reducible refine Kd.C_drew ?_))); (case side2 => exact (Kd.R_reads' HO_7.out).2.1); rintro e w62 ⟨v546, rfl, ho0, hb⟩; refine ⟨_, rfl, ?_⟩; have n0_ := Aside0.mk (Kd.R_below (by (with_reducible repeat (first | apply Kd.R_alloc | apply Kd.R_drewN | apply Kd.R_drew)); exact HO_7.out) hb); have n1_ := Aside0.mk (Kd.R_elder' (by (with_reducible repeat (first | apply Kd.R_alloc | apply Kd.R_drewN | apply Kd.R_drew)); exact HO_8.out) (Kd.R_base ho0) hb); have n2_ := Aside0.mk (Kd.R_elder' (by (with_reducible repeat (first | apply Kd.R_alloc | apply Kd.R_drewN | apply Kd.R_drew)); exact HO_10.out) (Kd.R_base ho0) hb); have n3_ := Aside0.mk (Kd.R_elder' (by (with_reducible repeat (first | apply Kd.R_alloc | apply Kd.R_drewN | apply Kd.R_drew)); exact HO543.out) (Kd.R_base ho0) hb); have n4_ := Aside0.mk (Kd.R_lower (Kd.R_new' (Kd.R_new' (Kd.R_new' ho0 (Kd.R_lt (by (with_reducible repeat (first | apply Kd.R_alloc | apply Kd.R_drewN | apply Kd.R_drew)); exact HO_8.out))) (Kd.R_lt (by (with_reducible repeat (first | apply Kd.R_alloc | apply Kd.R_drewN | apply Kd.R_drew)); exact HO_10.out))) (Kd.R_lt (by (with_reducible repeat (first | apply Kd.R_alloc | apply Kd.R_drewN | apply Kd.R_drew)); exact HO543.out))) (below_size (by repeat (first | (with_reducible first | exact HB.out | apply below_alloc | apply pw_below_drewN | apply below_drew1 | refine below_set ?_ GE510.out) | exact HB.out)))); have n5_ := Aside0.mk (blk_below (g := gb510) (o := .cells #[.int .i64 a2_0, .int .i64 a2_1, .int .i64 a2_2] 40 (0, 0)) (by (with_reducible repeat (first | refine blk_drewN ?_ _ | refine blk_drew ?_ | refine blk_alloc ?_ _)); exact BK510.out) hb); have n6_ := Aside0.mk (below_step (by repeat (first | (with_reducible first | exact HB.out | apply below_alloc | apply pw_below_drewN | apply below_drew1 | refine below_set ?_ GE510.out) | exact HB.out)) hb); clear HO_7; clear HO_8; clear HO_10; clear HO543; clear BK510; clear HB; have HO_7 := n0_; have HO_8 := n1_; have HO_10 := n2_; have HO543 := n3_; have HO547 := n4_; have BK510 := n5_; have HB := n6_; clear n0_ n1_ n2_ n3_ n4_ n5_ n6_; (try clear hb); (try clear hb2); (try clear hk); (try clear hi); (try clear ho0)))
     (try simp only [Act.put, List.setIfInBounds_toArray, List.set_cons_zero, List.set_cons_succ])
     go_cut [124] (fun v124 wc => ∃ (kq : Nat) (x124_59 : Bool), v124 = .bool x124_59 ∧ Aside0 (orrerylaw19_MatchMore.j2 kq a0 l1 y525 t540 t541 t544 x124_59 = some r) ∧ Aside0 (kq ≤ kj27) ∧ Aside0 (Kd.R k40 40 wc w.heap.size (fun k_ => k_ ≠ gb510) (.slice Ao39 y525.length co39) y525) ∧ Aside0 (Kd.R (Kd.int .i64) 3 wc w.heap.size (fun k_ => some k_ ≠ (v546 : Value).ownBlock) v542 t540) ∧ Aside0 (Kd.R (Kd.int .i64) 3 wc w.heap.size (fun k_ => some k_ ≠ (v542 : Value).ownBlock) v546 t544) ∧ Aside0 (wc.heap[gb510]? = some (.cells #[.int .i64 a2_0, .int .i64 a2_1, .int .i64 a2_2] 40 (0, 0))) ∧ Aside0 (Below w.heap.size w wc))
     case first =>
      have H := HC60.out
      clear HC60
      replace H := Option.bind_eq_some_iff.mp H
      obtain ⟨t548, A630, H⟩ := H
      replace H : (if ((t541 == 0) != (t548 == a0)) = true then (orrerylaw19_MatchMore.j2 kj27 a0 l1 y525 t540 t541 t544 true) else ((orreryref19_Size.f kj27 t532).bind fun t549 => (if ((t545 == 0) != (t549 == a0)) = true then (orrerylaw19_MatchMore.j2 kj27 a0 l1 y525 t540 t541 t544 true) else (if t541 = 0 then (orrerylaw19_MatchMore.j2 kj27 a0 l1 y525 t540 t541 t544 (t545 != 0)) else (orrerylaw19_MatchMore.j2 kj27 a0 l1 y525 t540 t541 t544 false))))) = some r := H
      have A63 := Aside0.mk A630
      clear A630
      by_cases c64 : ((t541 == 0) != (t548 == a0)) = true
      case pos =>
       rw [if_pos c64] at H
       have c64b0 : ((t541 == 0) != (t548 == a0)) = true := c64
       (try (have c64b1 : decide ((t541 == 0) = (t548 == a0)) = false := by simpa using c64))
       (try (have c64b2 : ((t541 == 0) == (t548 == a0)) = false := by simpa using c64))
       (try (have c64b3 : ¬ ((t541 == 0) = (t548 == a0)) := by simpa using c64))
       clear c64
       (first | rw [c64b0] | (simp only [i64_w, i32_w]; rw [c64b0]) | skip)
       have H' := Aside0.mk H
       clear H
       obtain ⟨Ao65, co65, eo65⟩ := Kd.R_slice HO_8.out
       subst eo65
       go_wp2_with (first | ((with_reducible refine gate_callee (f := 24) rfl ?_); refine goesL_ (some 104) rfl rfl Try.func24 (by kernel_rfl) rfl #[.slice Ao65 t528.length co65] rfl (by (try simp only [List.map_toArray, List.map_cons, List.map_nil]); first | done | rfl | (simp only [List.length_drop, List.length_take]; rfl)) ?_; (with_reducible refine (orreryref19_Size.calls kj27 _ _ t528 t548 _ ?side1 ?side2 A63.out).mono ?_); (case side1 => repeat (first | exact (Kd.R_reads' HO_8.out).2.2 | (with_reducible refine Kd.C_alloc ?_ _) | (with_reducible refine Kd.C_drewN ?_ _) | (with_reducible refine Kd.C_drew ?_))); (case side2 => exact (Kd.R_reads' HO_8.out).2.1); rintro e w' ⟨rfl, ⟨nd, rfl⟩⟩; refine ⟨_, rfl, ?_⟩))
       go_meet
       case rel => exact ⟨_, (true), (by first | rfl | (simp; done) | (simp [*]; done)), H', ⟨by have := HJ3.out; have := HJ27.out; first | omega | exact Nat.le_refl _⟩, ⟨by (with_reducible repeat (first | apply Kd.R_alloc | apply Kd.R_drewN | apply Kd.R_drew)); exact HO_7.out⟩, ⟨by (with_reducible repeat (first | apply Kd.R_alloc | apply Kd.R_drewN | apply Kd.R_drew)); exact Kd.R_mono HO543.out (fun _ hk => hk.2)⟩, ⟨by (with_reducible repeat (first | apply Kd.R_alloc | apply Kd.R_drewN | apply Kd.R_drew)); exact Kd.R_mono HO547.out (fun _ hk => hk.2)⟩, ⟨by (with_reducible repeat (first | refine blk_drewN ?_ _ | refine blk_drew ?_ | refine blk_alloc ?_ _)); exact BK510.out⟩, ⟨by repeat (first | (with_reducible first | exact HB.out | apply below_alloc | apply pw_below_drewN | apply below_drew1 | refine below_set ?_ GE510.out) | exact HB.out)⟩⟩
      rw [if_neg c64] at H
      have c64b0 : ((t541 == 0) != (t548 == a0)) = false := by simpa using c64
      (try (have c64b1 : decide ((t541 == 0) = (t548 == a0)) = true := by simpa using c64))
      (try (have c64b2 : ((t541 == 0) == (t548 == a0)) = true := by simpa using c64))
      clear c64
      (first | rw [c64b0] | (simp only [i64_w, i32_w]; rw [c64b0]) | skip)
      replace H := Option.bind_eq_some_iff.mp H
      obtain ⟨t549, A660, H⟩ := H
      replace H : (if ((t545 == 0) != (t549 == a0)) = true then (orrerylaw19_MatchMore.j2 kj27 a0 l1 y525 t540 t541 t544 true) else (if t541 = 0 then (orrerylaw19_MatchMore.j2 kj27 a0 l1 y525 t540 t541 t544 (t545 != 0)) else (orrerylaw19_MatchMore.j2 kj27 a0 l1 y525 t540 t541 t544 false))) = some r := H
      have A66 := Aside0.mk A660
      clear A660
      by_cases c67 : ((t545 == 0) != (t549 == a0)) = true
      case pos =>
       rw [if_pos c67] at H
       have c67b0 : ((t545 == 0) != (t549 == a0)) = true := c67
       (try (have c67b1 : decide ((t545 == 0) = (t549 == a0)) = false := by simpa using c67))
       (try (have c67b2 : ((t545 == 0) == (t549 == a0)) = false := by simpa using c67))
       (try (have c67b3 : ¬ ((t545 == 0) = (t549 == a0)) := by simpa using c67))
       clear c67
       have H' := Aside0.mk H
       clear H
       obtain ⟨Ao68, co68, eo68⟩ := Kd.R_slice HO_8.out
       subst eo68
       go_wp2_with (first | ((with_reducible refine gate_callee (f := 24) rfl ?_); refine goesL_ (some 104) rfl rfl Try.func24 (by kernel_rfl) rfl #[.slice Ao68 t528.length co68] rfl (by (try simp only [List.map_toArray, List.map_cons, List.map_nil]); first | done | rfl | (simp only [List.length_drop, List.length_take]; rfl)) ?_; (with_reducible refine (orreryref19_Size.calls kj27 _ _ t528 t548 _ ?side1 ?side2 A63.out).mono ?_); (case side1 => repeat (first | exact (Kd.R_reads' HO_8.out).2.2 | (with_reducible refine Kd.C_alloc ?_ _) | (with_reducible refine Kd.C_drewN ?_ _) | (with_reducible refine Kd.C_drew ?_))); (case side2 => exact (Kd.R_reads' HO_8.out).2.1); rintro e w' ⟨rfl, ⟨nd, rfl⟩⟩; refine ⟨_, rfl, ?_⟩; obtain ⟨Ao69, co69, eo69⟩ := Kd.R_slice HO_10.out; subst eo69) | (go_at_call 24; (with_reducible refine (orreryref19_Size.calls kj27 _ _ t532 t549 _ ?side1 ?side2 A66.out).mono ?_); (case side1 => repeat (first | exact (Kd.R_reads' HO_10.out).2.2 | (with_reducible refine Kd.C_alloc ?_ _) | (with_reducible refine Kd.C_drewN ?_ _) | (with_reducible refine Kd.C_drew ?_))); (case side2 => exact (Kd.R_reads' HO_10.out).2.1); rintro e w' ⟨rfl, ⟨nd, rfl⟩⟩))
       go_meet
       case rel => exact ⟨_, (true), (by first | rfl | (simp; done) | (simp [*]; done)), H', ⟨by have := HJ3.out; have := HJ27.out; first | omega | exact Nat.le_refl _⟩, ⟨by (with_reducible repeat (first | apply Kd.R_alloc | apply Kd.R_drewN | apply Kd.R_drew)); exact HO_7.out⟩, ⟨by (with_reducible repeat (first | apply Kd.R_alloc | apply Kd.R_drewN | apply Kd.R_drew)); exact Kd.R_mono HO543.out (fun _ hk => hk.2)⟩, ⟨by (with_reducible repeat (first | apply Kd.R_alloc | apply Kd.R_drewN | apply Kd.R_drew)); exact Kd.R_mono HO547.out (fun _ hk => hk.2)⟩, ⟨by (with_reducible repeat (first | refine blk_drewN ?_ _ | refine blk_drew ?_ | refine blk_alloc ?_ _)); exact BK510.out⟩, ⟨by repeat (first | (with_reducible first | exact HB.out | apply below_alloc | apply pw_below_drewN | apply below_drew1 | refine below_set ?_ GE510.out) | exact HB.out)⟩⟩
      rw [if_neg c67] at H
      have c67b0 : ((t545 == 0) != (t549 == a0)) = false := by simpa using c67
      (try (have c67b1 : decide ((t545 == 0) = (t549 == a0)) = true := by simpa using c67))
      (try (have c67b2 : ((t545 == 0) == (t549 == a0)) = true := by simpa using c67))
      clear c67
      by_cases c70 : t541 = 0
      case neg =>
       rw [if_neg c70] at H
       have c70b0 : (t541 == 0) = false := beq_eq_false_iff_ne.mpr c70
       have c70b1 : (t541 != 0) = true := bne_iff_ne.mpr c70
       have cx_ : (t548 == a0) = false := by have h_ := c64b0; rw [c70b0] at h_; simpa using h_
       have cz_ : decide (t548 = a0) = false := by simpa using cx_
       have H' := Aside0.mk H
       clear H
       obtain ⟨Ao73, co73, eo73⟩ := Kd.R_slice HO_8.out
       subst eo73
       go_wp2_with (first | ((with_reducible refine gate_callee (f := 24) rfl ?_); refine goesL_ (some 104) rfl rfl Try.func24 (by kernel_rfl) rfl #[.slice Ao73 t528.length co73] rfl (by (try simp only [List.map_toArray, List.map_cons, List.map_nil]); first | done | rfl | (simp only [List.length_drop, List.length_take]; rfl)) ?_; (with_reducible refine (orreryref19_Size.calls kj27 _ _ t528 t548 _ ?side1 ?side2 A63.out).mono ?_); (case side1 => repeat (first | exact (Kd.R_reads' HO_8.out).2.2 | (with_reducible refine Kd.C_alloc ?_ _) | (with_reducible refine Kd.C_drewN ?_ _) | (with_reducible refine Kd.C_drew ?_))); (case side2 => exact (Kd.R_reads' HO_8.out).2.1); rintro e w' ⟨rfl, ⟨nd, rfl⟩⟩; refine ⟨_, rfl, ?_⟩; obtain ⟨Ao74, co74, eo74⟩ := Kd.R_slice HO_10.out; subst eo74) | (go_at_call 24; (with_reducible refine (orreryref19_Size.calls kj27 _ _ t532 t549 _ ?side1 ?side2 A66.out).mono ?_); (case side1 => repeat (first | exact (Kd.R_reads' HO_10.out).2.2 | (with_reducible refine Kd.C_alloc ?_ _) | (with_reducible refine Kd.C_drewN ?_ _) | (with_reducible refine Kd.C_drew ?_))); (case side2 => exact (Kd.R_reads' HO_10.out).2.1); rintro e w' ⟨rfl, ⟨nd, rfl⟩⟩))
       go_meet
       case rel => exact ⟨_, (false), (by first | rfl | (simp; done) | (simp [*]; done)), H', ⟨by have := HJ3.out; have := HJ27.out; first | omega | exact Nat.le_refl _⟩, ⟨by (with_reducible repeat (first | apply Kd.R_alloc | apply Kd.R_drewN | apply Kd.R_drew)); exact HO_7.out⟩, ⟨by (with_reducible repeat (first | apply Kd.R_alloc | apply Kd.R_drewN | apply Kd.R_drew)); exact Kd.R_mono HO543.out (fun _ hk => hk.2)⟩, ⟨by (with_reducible repeat (first | apply Kd.R_alloc | apply Kd.R_drewN | apply Kd.R_drew)); exact Kd.R_mono HO547.out (fun _ hk => hk.2)⟩, ⟨by (with_reducible repeat (first | refine blk_drewN ?_ _ | refine blk_drew ?_ | refine blk_alloc ?_ _)); exact BK510.out⟩, ⟨by repeat (first | (with_reducible first | exact HB.out | apply below_alloc | apply pw_below_drewN | apply below_drew1 | refine below_set ?_ GE510.out) | exact HB.out)⟩⟩
      rw [if_pos c70] at H
      have c70b0 : (t541 == 0) = true := beq_iff_eq.mpr c70
      have c70b1 : (t541 != 0) = false := bne_eq_false_iff_eq.mpr c70
      have cx_ : (t548 == a0) = true := by have h_ := c64b0; rw [c70b0] at h_; simpa using h_
      have cz_ : decide (t548 = a0) = true := by simpa using cx_
      clear c70
      have H' := Aside0.mk H
      clear H
      obtain ⟨Ao71, co71, eo71⟩ := Kd.R_slice HO_8.out
      subst eo71
      go_wp2_with (first | ((with_reducible refine gate_callee (f := 24) rfl ?_); refine goesL_ (some 104) rfl rfl Try.func24 (by kernel_rfl) rfl #[.slice Ao71 t528.length co71] rfl (by (try simp only [List.map_toArray, List.map_cons, List.map_nil]); first | done | rfl | (simp only [List.length_drop, List.length_take]; rfl)) ?_; (with_reducible refine (orreryref19_Size.calls kj27 _ _ t528 t548 _ ?side1 ?side2 A63.out).mono ?_); (case side1 => repeat (first | exact (Kd.R_reads' HO_8.out).2.2 | (with_reducible refine Kd.C_alloc ?_ _) | (with_reducible refine Kd.C_drewN ?_ _) | (with_reducible refine Kd.C_drew ?_))); (case side2 => exact (Kd.R_reads' HO_8.out).2.1); rintro e w' ⟨rfl, ⟨nd, rfl⟩⟩; refine ⟨_, rfl, ?_⟩; obtain ⟨Ao72, co72, eo72⟩ := Kd.R_slice HO_10.out; subst eo72) | (go_at_call 24; (with_reducible refine (orreryref19_Size.calls kj27 _ _ t532 t549 _ ?side1 ?side2 A66.out).mono ?_); (case side1 => repeat (first | exact (Kd.R_reads' HO_10.out).2.2 | (with_reducible refine Kd.C_alloc ?_ _) | (with_reducible refine Kd.C_drewN ?_ _) | (with_reducible refine Kd.C_drew ?_))); (case side2 => exact (Kd.R_reads' HO_10.out).2.1); rintro e w' ⟨rfl, ⟨nd, rfl⟩⟩))
      go_meet
      case rel => exact ⟨_, ((t545 != 0)), (by first | rfl | (simp; done) | (simp [*]; done)), H', ⟨by have := HJ3.out; have := HJ27.out; first | omega | exact Nat.le_refl _⟩, ⟨by (with_reducible repeat (first | apply Kd.R_alloc | apply Kd.R_drewN | apply Kd.R_drew)); exact HO_7.out⟩, ⟨by (with_reducible repeat (first | apply Kd.R_alloc | apply Kd.R_drewN | apply Kd.R_drew)); exact Kd.R_mono HO543.out (fun _ hk => hk.2)⟩, ⟨by (with_reducible repeat (first | apply Kd.R_alloc | apply Kd.R_drewN | apply Kd.R_drew)); exact Kd.R_mono HO547.out (fun _ hk => hk.2)⟩, ⟨by (with_reducible repeat (first | refine blk_drewN ?_ _ | refine blk_drew ?_ | refine blk_alloc ?_ _)); exact BK510.out⟩, ⟨by repeat (first | (with_reducible first | exact HB.out | apply below_alloc | apply pw_below_drewN | apply below_drew1 | refine below_set ?_ GE510.out) | exact HB.out)⟩⟩
     case rest =>
      clear HC60
      try clear c1
      try clear c2
      try clear p2
      try clear c3
      try clear c4
      try clear c5
      try clear c6
      try clear p6
      try clear c7
      try clear c9
      try clear c13
      try clear c14
      try clear c23
      try clear c24
      try clear c25
      try clear c41
      try clear c41b0
      try clear c41b1
      try clear c42
      try clear c42b0
      try clear c42b1
      try clear c43
      try clear c43b0
      try clear c43b1
      try clear c44
      try clear c44b0
      try clear c44b1
      try clear c47
      try clear c47b0
      try clear c57
      try clear c64
      try clear c64b0
      try clear c64b1
      try clear c64b2
      try clear p64
      try clear c67
      try clear c67b0
      try clear c67b1
      try clear c67b2
      try clear c70
      try clear c70b0
      try clear c70b1
      try clear hcz11_0
      try clear hcz11_1
      try clear hcz11_2
      try clear hcz17_0
      try clear hcz17_1
      try clear hcz17_2
      try clear hfz11_0
      try clear hfz11_1
      try clear hfz11_2
      try clear hfz17_0
      try clear hfz17_1
      try clear hfz17_2
      try clear p2
      try clear p6
      obtain ⟨kq, x124_59, rfl, HA, HJ59, HO_7, HO_12, HO_14, BK510, HB⟩ := hcut
      cases kq with
      | zero => exact absurd HA.out (by simp [orrerylaw19_MatchMore.j2])
      | succ kj59 =>
       have H := HA.out
       clear HA
       simp only [orrerylaw19_MatchMore.j2] at H
       by_cases c75 : x124_59 = true
       case pos =>
        subst c75
        have H1 : (some false) = some r := by rw [if_pos rfl] at H; exact H
        clear H
        have H := H1
        clear H1
        obtain rfl := Option.some.inj H
        go_wp2
        go_ret
        exact ⟨by first | rfl | (simp [errW_none, errW_some] <;> rfl) | (simp [*, errW_none, errW_some] <;> rfl), by repeat (first | (with_reducible first | exact HB.out | apply below_alloc | apply pw_below_drewN | apply below_drew1 | refine below_set ?_ GE510.out) | exact HB.out)⟩
       replace c75 := Bool.eq_false_iff.mpr c75
       subst c75
       have H1 : (if t541 = 0 then ((orreryref19_Table.f kj59 a0 a0 l1).bind fun t550 => ((orreryref19_Table.f kj59 a0 a0 y525).bind fun t553 => ((orreryref19_Matching.f kj59 t550 a0 t540).bind fun t556 => (if t556 = true then ((orreryref19_Matching.f kj59 t553 a0 t544).bind fun t557 => (if t557 = true then ((orreryref19_Size.f kj59 t540).bind fun t558 => (if t558 = a0 then ((orreryref19_Size.f kj59 t544).bind fun t559 => (if t559 = a0 then ((orreryref19_Sum.f kj59 t553 t544).bind fun t560 => ((orreryref19_Sum.f kj59 t550 t540).bind fun t561 => (some (decide (t560 ≥ t561))))) else (some false))) else (some false))) else (some false))) else (some false))))) else (some true)) = some r := by rw [if_neg (show ¬ (false = true) by decide)] at H; exact H
       clear H
       have H := H1
       clear H1
       by_cases c76 : t541 = 0
       case neg =>
        rw [if_neg c76] at H
        have c76b0 : (t541 == 0) = false := beq_eq_false_iff_ne.mpr c76
        have c76b1 : (t541 != 0) = true := bne_iff_ne.mpr c76
        obtain rfl := Option.some.inj H
        go_wp2
        go_ret
        exact ⟨by first | rfl | (simp [errW_none, errW_some] <;> rfl) | (simp [*, errW_none, errW_some] <;> rfl), by repeat (first | (with_reducible first | exact HB.out | apply below_alloc | apply pw_below_drewN | apply below_drew1 | refine below_set ?_ GE510.out) | exact HB.out)⟩
       rw [if_pos c76] at H
       have c76b0 : (t541 == 0) = true := beq_iff_eq.mpr c76
       have c76b1 : (t541 != 0) = false := bne_eq_false_iff_eq.mpr c76
       clear c76
       replace H := Option.bind_eq_some_iff.mp H
       obtain ⟨t550, A770, H⟩ := H
       replace H : ((orreryref19_Table.f kj59 a0 a0 y525).bind fun t553 => ((orreryref19_Matching.f kj59 t550 a0 t540).bind fun t556 => (if t556 = true then ((orreryref19_Matching.f kj59 t553 a0 t544).bind fun t557 => (if t557 = true then ((orreryref19_Size.f kj59 t540).bind fun t558 => (if t558 = a0 then ((orreryref19_Size.f kj59 t544).bind fun t559 => (if t559 = a0 then ((orreryref19_Sum.f kj59 t553 t544).bind fun t560 => ((orreryref19_Sum.f kj59 t550 t540).bind fun t561 => (some (decide (t560 ≥ t561))))) else (some false))) else (some false))) else (some false))) else (some false)))) = some r := H
       have A77 := Aside0.mk A770
       clear A770
       replace H := Option.bind_eq_some_iff.mp H
       obtain ⟨t553, A780, H⟩ := H
       replace H : ((orreryref19_Matching.f kj59 t550 a0 t540).bind fun t556 => (if t556 = true then ((orreryref19_Matching.f kj59 t553 a0 t544).bind fun t557 => (if t557 = true then ((orreryref19_Size.f kj59 t540).bind fun t558 => (if t558 = a0 then ((orreryref19_Size.f kj59 t544).bind fun t559 => (if t559 = a0 then ((orreryref19_Sum.f kj59 t553 t544).bind fun t560 => ((orreryref19_Sum.f kj59 t550 t540).bind fun t561 => (some (decide (t560 ≥ t561))))) else (some false))) else (some false))) else (some false))) else (some false))) = some r := H
       have A78 := Aside0.mk A780
       clear A780
       replace H := Option.bind_eq_some_iff.mp H
       obtain ⟨t556, A790, H⟩ := H
       replace H : (if t556 = true then ((orreryref19_Matching.f kj59 t553 a0 t544).bind fun t557 => (if t557 = true then ((orreryref19_Size.f kj59 t540).bind fun t558 => (if t558 = a0 then ((orreryref19_Size.f kj59 t544).bind fun t559 => (if t559 = a0 then ((orreryref19_Sum.f kj59 t553 t544).bind fun t560 => ((orreryref19_Sum.f kj59 t550 t540).bind fun t561 => (some (decide (t560 ≥ t561))))) else (some false))) else (some false))) else (some false))) else (some false)) = some r := H
       have A79 := Aside0.mk A790
       clear A790
       by_cases c80 : t556 = true
       case neg =>
        replace c80 := Bool.eq_false_iff.mpr c80
        subst c80
        have H1 : (some false) = some r := by rw [if_neg (show ¬ (false = true) by decide)] at H; exact H
        clear H
        have H := H1
        clear H1
        obtain rfl := Option.some.inj H
        go_wp2_with (first | ((with_reducible refine gate_callee (f := 15) rfl ?_); refine goesL_ (some 130) rfl rfl Try.func15 (by kernel_rfl) rfl #[.int .i64 a0, .int .i64 a0, .slice A1 l1.length c1] rfl (by (try simp only [List.map_toArray, List.map_cons, List.map_nil]); first | done | rfl | (simp only [List.length_drop, List.length_take]; rfl)) ?_; (with_reducible refine (orreryref19_Table.calls kj59 a0 a0 _ _ l1 t550 _ ?side1 ?side2 A77.out).mono ?_); (case side1 => repeat (first | exact (Kd.C_below HR1.out HB.out) | (with_reducible refine Kd.C_alloc ?_ _) | (with_reducible refine Kd.C_drewN ?_ _) | (with_reducible refine Kd.C_drew ?_))); (case side2 => exact HC1.out); rintro e w121 ⟨v551, rfl, ho0, hb⟩; refine ⟨_, rfl, ?_⟩; have n0_ := Aside0.mk (Kd.R_below (by (with_reducible repeat (first | apply Kd.R_alloc | apply Kd.R_drewN | apply Kd.R_drew)); exact HO_7.out) hb); have n1_ := Aside0.mk (Kd.R_below (by (with_reducible repeat (first | apply Kd.R_alloc | apply Kd.R_drewN | apply Kd.R_drew)); exact HO_12.out) hb); have n2_ := Aside0.mk (Kd.R_below (by (with_reducible repeat (first | apply Kd.R_alloc | apply Kd.R_drewN | apply Kd.R_drew)); exact HO_14.out) hb); have n3_ := Aside0.mk (Kd.S_lower (Kd.S_new' (Kd.S_new' ho0 (Kd.R_lt (by (with_reducible repeat (first | apply Kd.R_alloc | apply Kd.R_drewN | apply Kd.R_drew)); exact HO_12.out))) (Kd.R_lt (by (with_reducible repeat (first | apply Kd.R_alloc | apply Kd.R_drewN | apply Kd.R_drew)); exact HO_14.out))) (below_size (by repeat (first | (with_reducible first | exact HB.out | apply below_alloc | apply pw_below_drewN | apply below_drew1 | refine below_set ?_ GE510.out) | exact HB.out)))); have n4_ := Aside0.mk (blk_below (g := gb510) (o := .cells #[.int .i64 a2_0, .int .i64 a2_1, .int .i64 a2_2] 40 (0, 0)) (by (with_reducible repeat (first | refine blk_drewN ?_ _ | refine blk_drew ?_ | refine blk_alloc ?_ _)); exact BK510.out) hb); have n5_ := Aside0.mk (below_step (by repeat (first | (with_reducible first | exact HB.out | apply below_alloc | apply pw_below_drewN | apply below_drew1 | refine below_set ?_ GE510.out) | exact HB.out)) hb); clear HO_7; clear HO_12; clear HO_14; clear BK510; clear HB; have HO_7 := n0_; have HO_12 := n1_; have HO_14 := n2_; have HO552 := n3_; have BK510 := n4_; have HB := n5_; clear n0_ n1_ n2_ n3_ n4_ n5_; (try clear hb); (try clear hb2); (try clear hk); (try clear hi); (try clear ho0)) | ((with_reducible refine gate_callee (f := 15) rfl ?_); refine goesL_ (some 134) rfl rfl Try.func15 (by kernel_rfl) rfl #[.int .i64 a0, .int .i64 a0, .slice Ao39 y525.length co39] rfl (by (try simp only [List.map_toArray, List.map_cons, List.map_nil]); first | done | rfl | (simp only [List.length_drop, List.length_take]; rfl)) ?_; (with_reducible refine (orreryref19_Table.calls kj59 a0 a0 _ _ y525 t553 _ ?side1 ?side2 A78.out).mono ?_); (case side1 => repeat (first | exact (Kd.R_reads' HO_7.out).2.2 | (with_reducible refine Kd.C_alloc ?_ _) | (with_reducible refine Kd.C_drewN ?_ _) | (with_reducible refine Kd.C_drew ?_))); (case side2 => exact (Kd.R_reads' HO_7.out).2.1); rintro e w122 ⟨v554, rfl, ho0, hb⟩; refine ⟨_, rfl, ?_⟩; have n0_ := Aside0.mk (Kd.R_below (by (with_reducible repeat (first | apply Kd.R_alloc | apply Kd.R_drewN | apply Kd.R_drew)); exact HO_7.out) hb); have n1_ := Aside0.mk (Kd.R_below (by (with_reducible repeat (first | apply Kd.R_alloc | apply Kd.R_drewN | apply Kd.R_drew)); exact HO_12.out) hb); have n2_ := Aside0.mk (Kd.R_below (by (with_reducible repeat (first | apply Kd.R_alloc | apply Kd.R_drewN | apply Kd.R_drew)); exact HO_14.out) hb); have n3_ := Aside0.mk (Kd.S_elder' (by (with_reducible repeat (first | apply Kd.S_alloc | apply Kd.S_drewN | apply Kd.S_drew)); exact HO552.out) (Kd.S_base ho0) hb); have n4_ := Aside0.mk (Kd.S_lower (Kd.S_new' (Kd.S_new' (Kd.S_new' ho0 (Kd.R_lt (by (with_reducible repeat (first | apply Kd.R_alloc | apply Kd.R_drewN | apply Kd.R_drew)); exact HO_12.out))) (Kd.R_lt (by (with_reducible repeat (first | apply Kd.R_alloc | apply Kd.R_drewN | apply Kd.R_drew)); exact HO_14.out))) (Kd.S_lt (by (with_reducible repeat (first | apply Kd.S_alloc | apply Kd.S_drewN | apply Kd.S_drew)); exact HO552.out))) (below_size (by repeat (first | (with_reducible first | exact HB.out | apply below_alloc | apply pw_below_drewN | apply below_drew1 | refine below_set ?_ GE510.out) | exact HB.out)))); have n5_ := Aside0.mk (blk_below (g := gb510) (o := .cells #[.int .i64 a2_0, .int .i64 a2_1, .int .i64 a2_2] 40 (0, 0)) (by (with_reducible repeat (first | refine blk_drewN ?_ _ | refine blk_drew ?_ | refine blk_alloc ?_ _)); exact BK510.out) hb); have n6_ := Aside0.mk (below_step (by repeat (first | (with_reducible first | exact HB.out | apply below_alloc | apply pw_below_drewN | apply below_drew1 | refine below_set ?_ GE510.out) | exact HB.out)) hb); clear HO_7; clear HO_12; clear HO_14; clear HO552; clear BK510; clear HB; have HO_7 := n0_; have HO_12 := n1_; have HO_14 := n2_; have HO552 := n3_; have HO555 := n4_; have BK510 := n5_; have HB := n6_; clear n0_ n1_ n2_ n3_ n4_ n5_ n6_; (try clear hb); (try clear hb2); (try clear hk); (try clear hi); (try clear ho0); obtain ⟨Ao123, co123, eo123⟩ := Kd.S_slice HO552.out; subst eo123; obtain ⟨Ao124, co124, eo124⟩ := Kd.R_slice HO_12.out; subst eo124) | ((with_reducible refine gate_callee (f := 16) rfl ?_); refine goesL_ (some 138) rfl rfl Try.func16 (by kernel_rfl) rfl #[.slice Ao123 t550.length co123, .int .i64 a0, .slice Ao124 t540.length co124] rfl (by (try simp only [List.map_toArray, List.map_cons, List.map_nil]); first | done | rfl | (simp only [List.length_drop, List.length_take]; rfl)) ?_; (with_reducible refine (orreryref19_Matching.calls kj59 _ _ t550 a0 _ _ t540 false _ ?side1 ?side2 ?side3 ?side4 A79.out).mono ?_); (case side1 => repeat (first | exact (Kd.S_reads' HO552.out).2.2 | (with_reducible refine Kd.C_alloc ?_ _) | (with_reducible refine Kd.C_drewN ?_ _) | (with_reducible refine Kd.C_drew ?_))); (case side2 => exact (Kd.S_reads' HO552.out).2.1); (case side3 => repeat (first | exact (Kd.R_reads' HO_12.out).2.2 | (with_reducible refine Kd.C_alloc ?_ _) | (with_reducible refine Kd.C_drewN ?_ _) | (with_reducible refine Kd.C_drew ?_))); (case side4 => exact (Kd.R_reads' HO_12.out).2.1); rintro e w125 ⟨rfl, hb⟩; refine ⟨_, rfl, ?_⟩; have n0_ := Aside0.mk (Kd.R_below (by (with_reducible repeat (first | apply Kd.R_alloc | apply Kd.R_drewN | apply Kd.R_drew)); exact HO_7.out) hb); have n1_ := Aside0.mk (Kd.R_below (by (with_reducible repeat (first | apply Kd.R_alloc | apply Kd.R_drewN | apply Kd.R_drew)); exact HO_12.out) hb); have n2_ := Aside0.mk (Kd.R_below (by (with_reducible repeat (first | apply Kd.R_alloc | apply Kd.R_drewN | apply Kd.R_drew)); exact HO_14.out) hb); have n3_ := Aside0.mk (Kd.S_below (by (with_reducible repeat (first | apply Kd.S_alloc | apply Kd.S_drewN | apply Kd.S_drew)); exact HO552.out) hb); have n4_ := Aside0.mk (Kd.S_below (by (with_reducible repeat (first | apply Kd.S_alloc | apply Kd.S_drewN | apply Kd.S_drew)); exact HO555.out) hb); have n5_ := Aside0.mk (blk_below (g := gb510) (o := .cells #[.int .i64 a2_0, .int .i64 a2_1, .int .i64 a2_2] 40 (0, 0)) (by (with_reducible repeat (first | refine blk_drewN ?_ _ | refine blk_drew ?_ | refine blk_alloc ?_ _)); exact BK510.out) hb); have n6_ := Aside0.mk (below_step (by repeat (first | (with_reducible first | exact HB.out | apply below_alloc | apply pw_below_drewN | apply below_drew1 | refine below_set ?_ GE510.out) | exact HB.out)) hb); clear HO_7; clear HO_12; clear HO_14; clear HO552; clear HO555; clear BK510; clear HB; have HO_7 := n0_; have HO_12 := n1_; have HO_14 := n2_; have HO552 := n3_; have HO555 := n4_; have BK510 := n5_; have HB := n6_; clear n0_ n1_ n2_ n3_ n4_ n5_ n6_; (try clear hb); (try clear hb2); (try clear hk); (try clear hi)))
        go_ret
        exact ⟨by first | rfl | (simp [errW_none, errW_some] <;> rfl) | (simp [*, errW_none, errW_some] <;> rfl), by repeat (first | (with_reducible first | exact HB.out | apply below_alloc | apply pw_below_drewN | apply below_drew1 | refine below_set ?_ GE510.out) | exact HB.out)⟩
       subst c80
       have H1 : ((orreryref19_Matching.f kj59 t553 a0 t544).bind fun t557 => (if t557 = true then ((orreryref19_Size.f kj59 t540).bind fun t558 => (if t558 = a0 then ((orreryref19_Size.f kj59 t544).bind fun t559 => (if t559 = a0 then ((orreryref19_Sum.f kj59 t553 t544).bind fun t560 => ((orreryref19_Sum.f kj59 t550 t540).bind fun t561 => (some (decide (t560 ≥ t561))))) else (some false))) else (some false))) else (some false))) = some r := by rw [if_pos rfl] at H; exact H
       clear H
       have H := H1
       clear H1
       replace H := Option.bind_eq_some_iff.mp H
       obtain ⟨t557, A810, H⟩ := H
       replace H : (if t557 = true then ((orreryref19_Size.f kj59 t540).bind fun t558 => (if t558 = a0 then ((orreryref19_Size.f kj59 t544).bind fun t559 => (if t559 = a0 then ((orreryref19_Sum.f kj59 t553 t544).bind fun t560 => ((orreryref19_Sum.f kj59 t550 t540).bind fun t561 => (some (decide (t560 ≥ t561))))) else (some false))) else (some false))) else (some false)) = some r := H
       have A81 := Aside0.mk A810
       clear A810
       by_cases c82 : t557 = true
       case neg =>
        replace c82 := Bool.eq_false_iff.mpr c82
        subst c82
        have H1 : (some false) = some r := by rw [if_neg (show ¬ (false = true) by decide)] at H; exact H
        clear H
        have H := H1
        clear H1
        obtain rfl := Option.some.inj H
        go_wp2_with (first | ((with_reducible refine gate_callee (f := 15) rfl ?_); refine goesL_ (some 130) rfl rfl Try.func15 (by kernel_rfl) rfl #[.int .i64 a0, .int .i64 a0, .slice A1 l1.length c1] rfl (by (try simp only [List.map_toArray, List.map_cons, List.map_nil]); first | done | rfl | (simp only [List.length_drop, List.length_take]; rfl)) ?_; (with_reducible refine (orreryref19_Table.calls kj59 a0 a0 _ _ l1 t550 _ ?side1 ?side2 A77.out).mono ?_); (case side1 => repeat (first | exact (Kd.C_below HR1.out HB.out) | (with_reducible refine Kd.C_alloc ?_ _) | (with_reducible refine Kd.C_drewN ?_ _) | (with_reducible refine Kd.C_drew ?_))); (case side2 => exact HC1.out); rintro e w113 ⟨v551, rfl, ho0, hb⟩; refine ⟨_, rfl, ?_⟩; have n0_ := Aside0.mk (Kd.R_below (by (with_reducible repeat (first | apply Kd.R_alloc | apply Kd.R_drewN | apply Kd.R_drew)); exact HO_7.out) hb); have n1_ := Aside0.mk (Kd.R_below (by (with_reducible repeat (first | apply Kd.R_alloc | apply Kd.R_drewN | apply Kd.R_drew)); exact HO_12.out) hb); have n2_ := Aside0.mk (Kd.R_below (by (with_reducible repeat (first | apply Kd.R_alloc | apply Kd.R_drewN | apply Kd.R_drew)); exact HO_14.out) hb); have n3_ := Aside0.mk (Kd.S_lower (Kd.S_new' (Kd.S_new' ho0 (Kd.R_lt (by (with_reducible repeat (first | apply Kd.R_alloc | apply Kd.R_drewN | apply Kd.R_drew)); exact HO_12.out))) (Kd.R_lt (by (with_reducible repeat (first | apply Kd.R_alloc | apply Kd.R_drewN | apply Kd.R_drew)); exact HO_14.out))) (below_size (by repeat (first | (with_reducible first | exact HB.out | apply below_alloc | apply pw_below_drewN | apply below_drew1 | refine below_set ?_ GE510.out) | exact HB.out)))); have n4_ := Aside0.mk (blk_below (g := gb510) (o := .cells #[.int .i64 a2_0, .int .i64 a2_1, .int .i64 a2_2] 40 (0, 0)) (by (with_reducible repeat (first | refine blk_drewN ?_ _ | refine blk_drew ?_ | refine blk_alloc ?_ _)); exact BK510.out) hb); have n5_ := Aside0.mk (below_step (by repeat (first | (with_reducible first | exact HB.out | apply below_alloc | apply pw_below_drewN | apply below_drew1 | refine below_set ?_ GE510.out) | exact HB.out)) hb); clear HO_7; clear HO_12; clear HO_14; clear BK510; clear HB; have HO_7 := n0_; have HO_12 := n1_; have HO_14 := n2_; have HO552 := n3_; have BK510 := n4_; have HB := n5_; clear n0_ n1_ n2_ n3_ n4_ n5_; (try clear hb); (try clear hb2); (try clear hk); (try clear hi); (try clear ho0)) | ((with_reducible refine gate_callee (f := 15) rfl ?_); refine goesL_ (some 134) rfl rfl Try.func15 (by kernel_rfl) rfl #[.int .i64 a0, .int .i64 a0, .slice Ao39 y525.length co39] rfl (by (try simp only [List.map_toArray, List.map_cons, List.map_nil]); first | done | rfl | (simp only [List.length_drop, List.length_take]; rfl)) ?_; (with_reducible refine (orreryref19_Table.calls kj59 a0 a0 _ _ y525 t553 _ ?side1 ?side2 A78.out).mono ?_); (case side1 => repeat (first | exact (Kd.R_reads' HO_7.out).2.2 | (with_reducible refine Kd.C_alloc ?_ _) | (with_reducible refine Kd.C_drewN ?_ _) | (with_reducible refine Kd.C_drew ?_))); (case side2 => exact (Kd.R_reads' HO_7.out).2.1); rintro e w114 ⟨v554, rfl, ho0, hb⟩; refine ⟨_, rfl, ?_⟩; have n0_ := Aside0.mk (Kd.R_below (by (with_reducible repeat (first | apply Kd.R_alloc | apply Kd.R_drewN | apply Kd.R_drew)); exact HO_7.out) hb); have n1_ := Aside0.mk (Kd.R_below (by (with_reducible repeat (first | apply Kd.R_alloc | apply Kd.R_drewN | apply Kd.R_drew)); exact HO_12.out) hb); have n2_ := Aside0.mk (Kd.R_below (by (with_reducible repeat (first | apply Kd.R_alloc | apply Kd.R_drewN | apply Kd.R_drew)); exact HO_14.out) hb); have n3_ := Aside0.mk (Kd.S_elder' (by (with_reducible repeat (first | apply Kd.S_alloc | apply Kd.S_drewN | apply Kd.S_drew)); exact HO552.out) (Kd.S_base ho0) hb); have n4_ := Aside0.mk (Kd.S_lower (Kd.S_new' (Kd.S_new' (Kd.S_new' ho0 (Kd.R_lt (by (with_reducible repeat (first | apply Kd.R_alloc | apply Kd.R_drewN | apply Kd.R_drew)); exact HO_12.out))) (Kd.R_lt (by (with_reducible repeat (first | apply Kd.R_alloc | apply Kd.R_drewN | apply Kd.R_drew)); exact HO_14.out))) (Kd.S_lt (by (with_reducible repeat (first | apply Kd.S_alloc | apply Kd.S_drewN | apply Kd.S_drew)); exact HO552.out))) (below_size (by repeat (first | (with_reducible first | exact HB.out | apply below_alloc | apply pw_below_drewN | apply below_drew1 | refine below_set ?_ GE510.out) | exact HB.out)))); have n5_ := Aside0.mk (blk_below (g := gb510) (o := .cells #[.int .i64 a2_0, .int .i64 a2_1, .int .i64 a2_2] 40 (0, 0)) (by (with_reducible repeat (first | refine blk_drewN ?_ _ | refine blk_drew ?_ | refine blk_alloc ?_ _)); exact BK510.out) hb); have n6_ := Aside0.mk (below_step (by repeat (first | (with_reducible first | exact HB.out | apply below_alloc | apply pw_below_drewN | apply below_drew1 | refine below_set ?_ GE510.out) | exact HB.out)) hb); clear HO_7; clear HO_12; clear HO_14; clear HO552; clear BK510; clear HB; have HO_7 := n0_; have HO_12 := n1_; have HO_14 := n2_; have HO552 := n3_; have HO555 := n4_; have BK510 := n5_; have HB := n6_; clear n0_ n1_ n2_ n3_ n4_ n5_ n6_; (try clear hb); (try clear hb2); (try clear hk); (try clear hi); (try clear ho0); obtain ⟨Ao115, co115, eo115⟩ := Kd.S_slice HO552.out; subst eo115; obtain ⟨Ao116, co116, eo116⟩ := Kd.R_slice HO_12.out; subst eo116) | ((with_reducible refine gate_callee (f := 16) rfl ?_); refine goesL_ (some 138) rfl rfl Try.func16 (by kernel_rfl) rfl #[.slice Ao115 t550.length co115, .int .i64 a0, .slice Ao116 t540.length co116] rfl (by (try simp only [List.map_toArray, List.map_cons, List.map_nil]); first | done | rfl | (simp only [List.length_drop, List.length_take]; rfl)) ?_; (with_reducible refine (orreryref19_Matching.calls kj59 _ _ t550 a0 _ _ t540 true _ ?side1 ?side2 ?side3 ?side4 A79.out).mono ?_); (case side1 => repeat (first | exact (Kd.S_reads' HO552.out).2.2 | (with_reducible refine Kd.C_alloc ?_ _) | (with_reducible refine Kd.C_drewN ?_ _) | (with_reducible refine Kd.C_drew ?_))); (case side2 => exact (Kd.S_reads' HO552.out).2.1); (case side3 => repeat (first | exact (Kd.R_reads' HO_12.out).2.2 | (with_reducible refine Kd.C_alloc ?_ _) | (with_reducible refine Kd.C_drewN ?_ _) | (with_reducible refine Kd.C_drew ?_))); (case side4 => exact (Kd.R_reads' HO_12.out).2.1); rintro e w117 ⟨rfl, hb⟩; refine ⟨_, rfl, ?_⟩; have n0_ := Aside0.mk (Kd.R_below (by (with_reducible repeat (first | apply Kd.R_alloc | apply Kd.R_drewN | apply Kd.R_drew)); exact HO_7.out) hb); have n1_ := Aside0.mk (Kd.R_below (by (with_reducible repeat (first | apply Kd.R_alloc | apply Kd.R_drewN | apply Kd.R_drew)); exact HO_12.out) hb); have n2_ := Aside0.mk (Kd.R_below (by (with_reducible repeat (first | apply Kd.R_alloc | apply Kd.R_drewN | apply Kd.R_drew)); exact HO_14.out) hb); have n3_ := Aside0.mk (Kd.S_below (by (with_reducible repeat (first | apply Kd.S_alloc | apply Kd.S_drewN | apply Kd.S_drew)); exact HO552.out) hb); have n4_ := Aside0.mk (Kd.S_below (by (with_reducible repeat (first | apply Kd.S_alloc | apply Kd.S_drewN | apply Kd.S_drew)); exact HO555.out) hb); have n5_ := Aside0.mk (blk_below (g := gb510) (o := .cells #[.int .i64 a2_0, .int .i64 a2_1, .int .i64 a2_2] 40 (0, 0)) (by (with_reducible repeat (first | refine blk_drewN ?_ _ | refine blk_drew ?_ | refine blk_alloc ?_ _)); exact BK510.out) hb); have n6_ := Aside0.mk (below_step (by repeat (first | (with_reducible first | exact HB.out | apply below_alloc | apply pw_below_drewN | apply below_drew1 | refine below_set ?_ GE510.out) | exact HB.out)) hb); clear HO_7; clear HO_12; clear HO_14; clear HO552; clear HO555; clear BK510; clear HB; have HO_7 := n0_; have HO_12 := n1_; have HO_14 := n2_; have HO552 := n3_; have HO555 := n4_; have BK510 := n5_; have HB := n6_; clear n0_ n1_ n2_ n3_ n4_ n5_ n6_; (try clear hb); (try clear hb2); (try clear hk); (try clear hi); obtain ⟨Ao118, co118, eo118⟩ := Kd.S_slice HO555.out; subst eo118; obtain ⟨Ao119, co119, eo119⟩ := Kd.R_slice HO_14.out; subst eo119) | (go_at_call 16; (with_reducible refine (orreryref19_Matching.calls kj59 _ _ t553 a0 _ _ t544 false _ ?side1 ?side2 ?side3 ?side4 A81.out).mono ?_); (case side1 => repeat (first | exact (Kd.S_reads' HO555.out).2.2 | (with_reducible refine Kd.C_alloc ?_ _) | (with_reducible refine Kd.C_drewN ?_ _) | (with_reducible refine Kd.C_drew ?_))); (case side2 => exact (Kd.S_reads' HO555.out).2.1); (case side3 => repeat (first | exact (Kd.R_reads' HO_14.out).2.2 | (with_reducible refine Kd.C_alloc ?_ _) | (with_reducible refine Kd.C_drewN ?_ _) | (with_reducible refine Kd.C_drew ?_))); (case side4 => exact (Kd.R_reads' HO_14.out).2.1); rintro e w120 ⟨rfl, hb⟩; have n0_ := Aside0.mk (Kd.R_below (by (with_reducible repeat (first | apply Kd.R_alloc | apply Kd.R_drewN | apply Kd.R_drew)); exact HO_7.out) hb); have n1_ := Aside0.mk (Kd.R_below (by (with_reducible repeat (first | apply Kd.R_alloc | apply Kd.R_drewN | apply Kd.R_drew)); exact HO_12.out) hb); have n2_ := Aside0.mk (Kd.R_below (by (with_reducible repeat (first | apply Kd.R_alloc | apply Kd.R_drewN | apply Kd.R_drew)); exact HO_14.out) hb); have n3_ := Aside0.mk (Kd.S_below (by (with_reducible repeat (first | apply Kd.S_alloc | apply Kd.S_drewN | apply Kd.S_drew)); exact HO552.out) hb); have n4_ := Aside0.mk (Kd.S_below (by (with_reducible repeat (first | apply Kd.S_alloc | apply Kd.S_drewN | apply Kd.S_drew)); exact HO555.out) hb); have n5_ := Aside0.mk (blk_below (g := gb510) (o := .cells #[.int .i64 a2_0, .int .i64 a2_1, .int .i64 a2_2] 40 (0, 0)) (by (with_reducible repeat (first | refine blk_drewN ?_ _ | refine blk_drew ?_ | refine blk_alloc ?_ _)); exact BK510.out) hb); have n6_ := Aside0.mk (below_step (by repeat (first | (with_reducible first | exact HB.out | apply below_alloc | apply pw_below_drewN | apply below_drew1 | refine below_set ?_ GE510.out) | exact HB.out)) hb); clear HO_7; clear HO_12; clear HO_14; clear HO552; clear HO555; clear BK510; clear HB; have HO_7 := n0_; have HO_12 := n1_; have HO_14 := n2_; have HO552 := n3_; have HO555 := n4_; have BK510 := n5_; have HB := n6_; clear n0_ n1_ n2_ n3_ n4_ n5_ n6_; (try clear hb); (try clear hb2); (try clear hk); (try clear hi)))
        go_ret
        exact ⟨by first | rfl | (simp [errW_none, errW_some] <;> rfl) | (simp [*, errW_none, errW_some] <;> rfl), by repeat (first | (with_reducible first | exact HB.out | apply below_alloc | apply pw_below_drewN | apply below_drew1 | refine below_set ?_ GE510.out) | exact HB.out)⟩
       subst c82
       have H1 : ((orreryref19_Size.f kj59 t540).bind fun t558 => (if t558 = a0 then ((orreryref19_Size.f kj59 t544).bind fun t559 => (if t559 = a0 then ((orreryref19_Sum.f kj59 t553 t544).bind fun t560 => ((orreryref19_Sum.f kj59 t550 t540).bind fun t561 => (some (decide (t560 ≥ t561))))) else (some false))) else (some false))) = some r := by rw [if_pos rfl] at H; exact H
       clear H
       have H := H1
       clear H1
       replace H := Option.bind_eq_some_iff.mp H
       obtain ⟨t558, A830, H⟩ := H
       replace H : (if t558 = a0 then ((orreryref19_Size.f kj59 t544).bind fun t559 => (if t559 = a0 then ((orreryref19_Sum.f kj59 t553 t544).bind fun t560 => ((orreryref19_Sum.f kj59 t550 t540).bind fun t561 => (some (decide (t560 ≥ t561))))) else (some false))) else (some false)) = some r := H
       have A83 := Aside0.mk A830
       clear A830
       by_cases c84 : t558 = a0
       case neg =>
        rw [if_neg c84] at H
        have c84b0 : (t558 == a0) = false := beq_eq_false_iff_ne.mpr c84
        have c84b1 : (t558 != a0) = true := bne_iff_ne.mpr c84
        obtain rfl := Option.some.inj H
        go_wp2_with (first | ((with_reducible refine gate_callee (f := 15) rfl ?_); refine goesL_ (some 130) rfl rfl Try.func15 (by kernel_rfl) rfl #[.int .i64 a0, .int .i64 a0, .slice A1 l1.length c1] rfl (by (try simp only [List.map_toArray, List.map_cons, List.map_nil]); first | done | rfl | (simp only [List.length_drop, List.length_take]; rfl)) ?_; (with_reducible refine (orreryref19_Table.calls kj59 a0 a0 _ _ l1 t550 _ ?side1 ?side2 A77.out).mono ?_); (case side1 => repeat (first | exact (Kd.C_below HR1.out HB.out) | (with_reducible refine Kd.C_alloc ?_ _) | (with_reducible refine Kd.C_drewN ?_ _) | (with_reducible refine Kd.C_drew ?_))); (case side2 => exact HC1.out); rintro e w105 ⟨v551, rfl, ho0, hb⟩; refine ⟨_, rfl, ?_⟩; have n0_ := Aside0.mk (Kd.R_below (by (with_reducible repeat (first | apply Kd.R_alloc | apply Kd.R_drewN | apply Kd.R_drew)); exact HO_7.out) hb); have n1_ := Aside0.mk (Kd.R_below (by (with_reducible repeat (first | apply Kd.R_alloc | apply Kd.R_drewN | apply Kd.R_drew)); exact HO_12.out) hb); have n2_ := Aside0.mk (Kd.R_below (by (with_reducible repeat (first | apply Kd.R_alloc | apply Kd.R_drewN | apply Kd.R_drew)); exact HO_14.out) hb); have n3_ := Aside0.mk (Kd.S_lower (Kd.S_new' (Kd.S_new' ho0 (Kd.R_lt (by (with_reducible repeat (first | apply Kd.R_alloc | apply Kd.R_drewN | apply Kd.R_drew)); exact HO_12.out))) (Kd.R_lt (by (with_reducible repeat (first | apply Kd.R_alloc | apply Kd.R_drewN | apply Kd.R_drew)); exact HO_14.out))) (below_size (by repeat (first | (with_reducible first | exact HB.out | apply below_alloc | apply pw_below_drewN | apply below_drew1 | refine below_set ?_ GE510.out) | exact HB.out)))); have n4_ := Aside0.mk (blk_below (g := gb510) (o := .cells #[.int .i64 a2_0, .int .i64 a2_1, .int .i64 a2_2] 40 (0, 0)) (by (with_reducible repeat (first | refine blk_drewN ?_ _ | refine blk_drew ?_ | refine blk_alloc ?_ _)); exact BK510.out) hb); have n5_ := Aside0.mk (below_step (by repeat (first | (with_reducible first | exact HB.out | apply below_alloc | apply pw_below_drewN | apply below_drew1 | refine below_set ?_ GE510.out) | exact HB.out)) hb); clear HO_7; clear HO_12; clear HO_14; clear BK510; clear HB; have HO_7 := n0_; have HO_12 := n1_; have HO_14 := n2_; have HO552 := n3_; have BK510 := n4_; have HB := n5_; clear n0_ n1_ n2_ n3_ n4_ n5_; (try clear hb); (try clear hb2); (try clear hk); (try clear hi); (try clear ho0)) | ((with_reducible refine gate_callee (f := 15) rfl ?_); refine goesL_ (some 134) rfl rfl Try.func15 (by kernel_rfl) rfl #[.int .i64 a0, .int .i64 a0, .slice Ao39 y525.length co39] rfl (by (try simp only [List.map_toArray, List.map_cons, List.map_nil]); first | done | rfl | (simp only [List.length_drop, List.length_take]; rfl)) ?_; (with_reducible refine (orreryref19_Table.calls kj59 a0 a0 _ _ y525 t553 _ ?side1 ?side2 A78.out).mono ?_); (case side1 => repeat (first | exact (Kd.R_reads' HO_7.out).2.2 | (with_reducible refine Kd.C_alloc ?_ _) | (with_reducible refine Kd.C_drewN ?_ _) | (with_reducible refine Kd.C_drew ?_))); (case side2 => exact (Kd.R_reads' HO_7.out).2.1); rintro e w106 ⟨v554, rfl, ho0, hb⟩; refine ⟨_, rfl, ?_⟩; have n0_ := Aside0.mk (Kd.R_below (by (with_reducible repeat (first | apply Kd.R_alloc | apply Kd.R_drewN | apply Kd.R_drew)); exact HO_7.out) hb); have n1_ := Aside0.mk (Kd.R_below (by (with_reducible repeat (first | apply Kd.R_alloc | apply Kd.R_drewN | apply Kd.R_drew)); exact HO_12.out) hb); have n2_ := Aside0.mk (Kd.R_below (by (with_reducible repeat (first | apply Kd.R_alloc | apply Kd.R_drewN | apply Kd.R_drew)); exact HO_14.out) hb); have n3_ := Aside0.mk (Kd.S_elder' (by (with_reducible repeat (first | apply Kd.S_alloc | apply Kd.S_drewN | apply Kd.S_drew)); exact HO552.out) (Kd.S_base ho0) hb); have n4_ := Aside0.mk (Kd.S_lower (Kd.S_new' (Kd.S_new' (Kd.S_new' ho0 (Kd.R_lt (by (with_reducible repeat (first | apply Kd.R_alloc | apply Kd.R_drewN | apply Kd.R_drew)); exact HO_12.out))) (Kd.R_lt (by (with_reducible repeat (first | apply Kd.R_alloc | apply Kd.R_drewN | apply Kd.R_drew)); exact HO_14.out))) (Kd.S_lt (by (with_reducible repeat (first | apply Kd.S_alloc | apply Kd.S_drewN | apply Kd.S_drew)); exact HO552.out))) (below_size (by repeat (first | (with_reducible first | exact HB.out | apply below_alloc | apply pw_below_drewN | apply below_drew1 | refine below_set ?_ GE510.out) | exact HB.out)))); have n5_ := Aside0.mk (blk_below (g := gb510) (o := .cells #[.int .i64 a2_0, .int .i64 a2_1, .int .i64 a2_2] 40 (0, 0)) (by (with_reducible repeat (first | refine blk_drewN ?_ _ | refine blk_drew ?_ | refine blk_alloc ?_ _)); exact BK510.out) hb); have n6_ := Aside0.mk (below_step (by repeat (first | (with_reducible first | exact HB.out | apply below_alloc | apply pw_below_drewN | apply below_drew1 | refine below_set ?_ GE510.out) | exact HB.out)) hb); clear HO_7; clear HO_12; clear HO_14; clear HO552; clear BK510; clear HB; have HO_7 := n0_; have HO_12 := n1_; have HO_14 := n2_; have HO552 := n3_; have HO555 := n4_; have BK510 := n5_; have HB := n6_; clear n0_ n1_ n2_ n3_ n4_ n5_ n6_; (try clear hb); (try clear hb2); (try clear hk); (try clear hi); (try clear ho0); obtain ⟨Ao107, co107, eo107⟩ := Kd.S_slice HO552.out; subst eo107; obtain ⟨Ao108, co108, eo108⟩ := Kd.R_slice HO_12.out; subst eo108) | ((with_reducible refine gate_callee (f := 16) rfl ?_); refine goesL_ (some 138) rfl rfl Try.func16 (by kernel_rfl) rfl #[.slice Ao107 t550.length co107, .int .i64 a0, .slice Ao108 t540.length co108] rfl (by (try simp only [List.map_toArray, List.map_cons, List.map_nil]); first | done | rfl | (simp only [List.length_drop, List.length_take]; rfl)) ?_; (with_reducible refine (orreryref19_Matching.calls kj59 _ _ t550 a0 _ _ t540 true _ ?side1 ?side2 ?side3 ?side4 A79.out).mono ?_); (case side1 => repeat (first | exact (Kd.S_reads' HO552.out).2.2 | (with_reducible refine Kd.C_alloc ?_ _) | (with_reducible refine Kd.C_drewN ?_ _) | (with_reducible refine Kd.C_drew ?_))); (case side2 => exact (Kd.S_reads' HO552.out).2.1); (case side3 => repeat (first | exact (Kd.R_reads' HO_12.out).2.2 | (with_reducible refine Kd.C_alloc ?_ _) | (with_reducible refine Kd.C_drewN ?_ _) | (with_reducible refine Kd.C_drew ?_))); (case side4 => exact (Kd.R_reads' HO_12.out).2.1); rintro e w109 ⟨rfl, hb⟩; refine ⟨_, rfl, ?_⟩; have n0_ := Aside0.mk (Kd.R_below (by (with_reducible repeat (first | apply Kd.R_alloc | apply Kd.R_drewN | apply Kd.R_drew)); exact HO_7.out) hb); have n1_ := Aside0.mk (Kd.R_below (by (with_reducible repeat (first | apply Kd.R_alloc | apply Kd.R_drewN | apply Kd.R_drew)); exact HO_12.out) hb); have n2_ := Aside0.mk (Kd.R_below (by (with_reducible repeat (first | apply Kd.R_alloc | apply Kd.R_drewN | apply Kd.R_drew)); exact HO_14.out) hb); have n3_ := Aside0.mk (Kd.S_below (by (with_reducible repeat (first | apply Kd.S_alloc | apply Kd.S_drewN | apply Kd.S_drew)); exact HO552.out) hb); have n4_ := Aside0.mk (Kd.S_below (by (with_reducible repeat (first | apply Kd.S_alloc | apply Kd.S_drewN | apply Kd.S_drew)); exact HO555.out) hb); have n5_ := Aside0.mk (blk_below (g := gb510) (o := .cells #[.int .i64 a2_0, .int .i64 a2_1, .int .i64 a2_2] 40 (0, 0)) (by (with_reducible repeat (first | refine blk_drewN ?_ _ | refine blk_drew ?_ | refine blk_alloc ?_ _)); exact BK510.out) hb); have n6_ := Aside0.mk (below_step (by repeat (first | (with_reducible first | exact HB.out | apply below_alloc | apply pw_below_drewN | apply below_drew1 | refine below_set ?_ GE510.out) | exact HB.out)) hb); clear HO_7; clear HO_12; clear HO_14; clear HO552; clear HO555; clear BK510; clear HB; have HO_7 := n0_; have HO_12 := n1_; have HO_14 := n2_; have HO552 := n3_; have HO555 := n4_; have BK510 := n5_; have HB := n6_; clear n0_ n1_ n2_ n3_ n4_ n5_ n6_; (try clear hb); (try clear hb2); (try clear hk); (try clear hi); obtain ⟨Ao110, co110, eo110⟩ := Kd.S_slice HO555.out; subst eo110; obtain ⟨Ao111, co111, eo111⟩ := Kd.R_slice HO_14.out; subst eo111) | (go_at_call 16; (with_reducible refine (orreryref19_Matching.calls kj59 _ _ t553 a0 _ _ t544 true _ ?side1 ?side2 ?side3 ?side4 A81.out).mono ?_); (case side1 => repeat (first | exact (Kd.S_reads' HO555.out).2.2 | (with_reducible refine Kd.C_alloc ?_ _) | (with_reducible refine Kd.C_drewN ?_ _) | (with_reducible refine Kd.C_drew ?_))); (case side2 => exact (Kd.S_reads' HO555.out).2.1); (case side3 => repeat (first | exact (Kd.R_reads' HO_14.out).2.2 | (with_reducible refine Kd.C_alloc ?_ _) | (with_reducible refine Kd.C_drewN ?_ _) | (with_reducible refine Kd.C_drew ?_))); (case side4 => exact (Kd.R_reads' HO_14.out).2.1); rintro e w112 ⟨rfl, hb⟩; have n0_ := Aside0.mk (Kd.R_below (by (with_reducible repeat (first | apply Kd.R_alloc | apply Kd.R_drewN | apply Kd.R_drew)); exact HO_7.out) hb); have n1_ := Aside0.mk (Kd.R_below (by (with_reducible repeat (first | apply Kd.R_alloc | apply Kd.R_drewN | apply Kd.R_drew)); exact HO_12.out) hb); have n2_ := Aside0.mk (Kd.R_below (by (with_reducible repeat (first | apply Kd.R_alloc | apply Kd.R_drewN | apply Kd.R_drew)); exact HO_14.out) hb); have n3_ := Aside0.mk (Kd.S_below (by (with_reducible repeat (first | apply Kd.S_alloc | apply Kd.S_drewN | apply Kd.S_drew)); exact HO552.out) hb); have n4_ := Aside0.mk (Kd.S_below (by (with_reducible repeat (first | apply Kd.S_alloc | apply Kd.S_drewN | apply Kd.S_drew)); exact HO555.out) hb); have n5_ := Aside0.mk (blk_below (g := gb510) (o := .cells #[.int .i64 a2_0, .int .i64 a2_1, .int .i64 a2_2] 40 (0, 0)) (by (with_reducible repeat (first | refine blk_drewN ?_ _ | refine blk_drew ?_ | refine blk_alloc ?_ _)); exact BK510.out) hb); have n6_ := Aside0.mk (below_step (by repeat (first | (with_reducible first | exact HB.out | apply below_alloc | apply pw_below_drewN | apply below_drew1 | refine below_set ?_ GE510.out) | exact HB.out)) hb); clear HO_7; clear HO_12; clear HO_14; clear HO552; clear HO555; clear BK510; clear HB; have HO_7 := n0_; have HO_12 := n1_; have HO_14 := n2_; have HO552 := n3_; have HO555 := n4_; have BK510 := n5_; have HB := n6_; clear n0_ n1_ n2_ n3_ n4_ n5_ n6_; (try clear hb); (try clear hb2); (try clear hk); (try clear hi)) | (go_at_call 24; (with_reducible refine (orreryref19_Size.calls kj59 _ _ t540 t558 _ ?side1 ?side2 A83.out).mono ?_); (case side1 => repeat (first | exact (Kd.R_reads' HO_12.out).2.2 | (with_reducible refine Kd.C_alloc ?_ _) | (with_reducible refine Kd.C_drewN ?_ _) | (with_reducible refine Kd.C_drew ?_))); (case side2 => exact (Kd.R_reads' HO_12.out).2.1); rintro e w' ⟨rfl, ⟨nd, rfl⟩⟩))
        go_ret
        exact ⟨by first | rfl | (simp [errW_none, errW_some] <;> rfl) | (simp [*, errW_none, errW_some] <;> rfl), by repeat (first | (with_reducible first | exact HB.out | apply below_alloc | apply pw_below_drewN | apply below_drew1 | refine below_set ?_ GE510.out) | exact HB.out)⟩
       rw [if_pos c84] at H
       have c84b0 : (t558 == a0) = true := beq_iff_eq.mpr c84
       have c84b1 : (t558 != a0) = false := bne_eq_false_iff_eq.mpr c84
       clear c84
       replace H := Option.bind_eq_some_iff.mp H
       obtain ⟨t559, A850, H⟩ := H
       replace H : (if t559 = a0 then ((orreryref19_Sum.f kj59 t553 t544).bind fun t560 => ((orreryref19_Sum.f kj59 t550 t540).bind fun t561 => (some (decide (t560 ≥ t561))))) else (some false)) = some r := H
       have A85 := Aside0.mk A850
       clear A850
       by_cases c86 : t559 = a0
       case neg =>
        rw [if_neg c86] at H
        have c86b0 : (t559 == a0) = false := beq_eq_false_iff_ne.mpr c86
        have c86b1 : (t559 != a0) = true := bne_iff_ne.mpr c86
        obtain rfl := Option.some.inj H
        go_wp2_with (first | ((with_reducible refine gate_callee (f := 15) rfl ?_); refine goesL_ (some 130) rfl rfl Try.func15 (by kernel_rfl) rfl #[.int .i64 a0, .int .i64 a0, .slice A1 l1.length c1] rfl (by (try simp only [List.map_toArray, List.map_cons, List.map_nil]); first | done | rfl | (simp only [List.length_drop, List.length_take]; rfl)) ?_; (with_reducible refine (orreryref19_Table.calls kj59 a0 a0 _ _ l1 t550 _ ?side1 ?side2 A77.out).mono ?_); (case side1 => repeat (first | exact (Kd.C_below HR1.out HB.out) | (with_reducible refine Kd.C_alloc ?_ _) | (with_reducible refine Kd.C_drewN ?_ _) | (with_reducible refine Kd.C_drew ?_))); (case side2 => exact HC1.out); rintro e w97 ⟨v551, rfl, ho0, hb⟩; refine ⟨_, rfl, ?_⟩; have n0_ := Aside0.mk (Kd.R_below (by (with_reducible repeat (first | apply Kd.R_alloc | apply Kd.R_drewN | apply Kd.R_drew)); exact HO_7.out) hb); have n1_ := Aside0.mk (Kd.R_below (by (with_reducible repeat (first | apply Kd.R_alloc | apply Kd.R_drewN | apply Kd.R_drew)); exact HO_12.out) hb); have n2_ := Aside0.mk (Kd.R_below (by (with_reducible repeat (first | apply Kd.R_alloc | apply Kd.R_drewN | apply Kd.R_drew)); exact HO_14.out) hb); have n3_ := Aside0.mk (Kd.S_lower (Kd.S_new' (Kd.S_new' ho0 (Kd.R_lt (by (with_reducible repeat (first | apply Kd.R_alloc | apply Kd.R_drewN | apply Kd.R_drew)); exact HO_12.out))) (Kd.R_lt (by (with_reducible repeat (first | apply Kd.R_alloc | apply Kd.R_drewN | apply Kd.R_drew)); exact HO_14.out))) (below_size (by repeat (first | (with_reducible first | exact HB.out | apply below_alloc | apply pw_below_drewN | apply below_drew1 | refine below_set ?_ GE510.out) | exact HB.out)))); have n4_ := Aside0.mk (blk_below (g := gb510) (o := .cells #[.int .i64 a2_0, .int .i64 a2_1, .int .i64 a2_2] 40 (0, 0)) (by (with_reducible repeat (first | refine blk_drewN ?_ _ | refine blk_drew ?_ | refine blk_alloc ?_ _)); exact BK510.out) hb); have n5_ := Aside0.mk (below_step (by repeat (first | (with_reducible first | exact HB.out | apply below_alloc | apply pw_below_drewN | apply below_drew1 | refine below_set ?_ GE510.out) | exact HB.out)) hb); clear HO_7; clear HO_12; clear HO_14; clear BK510; clear HB; have HO_7 := n0_; have HO_12 := n1_; have HO_14 := n2_; have HO552 := n3_; have BK510 := n4_; have HB := n5_; clear n0_ n1_ n2_ n3_ n4_ n5_; (try clear hb); (try clear hb2); (try clear hk); (try clear hi); (try clear ho0)) | ((with_reducible refine gate_callee (f := 15) rfl ?_); refine goesL_ (some 134) rfl rfl Try.func15 (by kernel_rfl) rfl #[.int .i64 a0, .int .i64 a0, .slice Ao39 y525.length co39] rfl (by (try simp only [List.map_toArray, List.map_cons, List.map_nil]); first | done | rfl | (simp only [List.length_drop, List.length_take]; rfl)) ?_; (with_reducible refine (orreryref19_Table.calls kj59 a0 a0 _ _ y525 t553 _ ?side1 ?side2 A78.out).mono ?_); (case side1 => repeat (first | exact (Kd.R_reads' HO_7.out).2.2 | (with_reducible refine Kd.C_alloc ?_ _) | (with_reducible refine Kd.C_drewN ?_ _) | (with_reducible refine Kd.C_drew ?_))); (case side2 => exact (Kd.R_reads' HO_7.out).2.1); rintro e w98 ⟨v554, rfl, ho0, hb⟩; refine ⟨_, rfl, ?_⟩; have n0_ := Aside0.mk (Kd.R_below (by (with_reducible repeat (first | apply Kd.R_alloc | apply Kd.R_drewN | apply Kd.R_drew)); exact HO_7.out) hb); have n1_ := Aside0.mk (Kd.R_below (by (with_reducible repeat (first | apply Kd.R_alloc | apply Kd.R_drewN | apply Kd.R_drew)); exact HO_12.out) hb); have n2_ := Aside0.mk (Kd.R_below (by (with_reducible repeat (first | apply Kd.R_alloc | apply Kd.R_drewN | apply Kd.R_drew)); exact HO_14.out) hb); have n3_ := Aside0.mk (Kd.S_elder' (by (with_reducible repeat (first | apply Kd.S_alloc | apply Kd.S_drewN | apply Kd.S_drew)); exact HO552.out) (Kd.S_base ho0) hb); have n4_ := Aside0.mk (Kd.S_lower (Kd.S_new' (Kd.S_new' (Kd.S_new' ho0 (Kd.R_lt (by (with_reducible repeat (first | apply Kd.R_alloc | apply Kd.R_drewN | apply Kd.R_drew)); exact HO_12.out))) (Kd.R_lt (by (with_reducible repeat (first | apply Kd.R_alloc | apply Kd.R_drewN | apply Kd.R_drew)); exact HO_14.out))) (Kd.S_lt (by (with_reducible repeat (first | apply Kd.S_alloc | apply Kd.S_drewN | apply Kd.S_drew)); exact HO552.out))) (below_size (by repeat (first | (with_reducible first | exact HB.out | apply below_alloc | apply pw_below_drewN | apply below_drew1 | refine below_set ?_ GE510.out) | exact HB.out)))); have n5_ := Aside0.mk (blk_below (g := gb510) (o := .cells #[.int .i64 a2_0, .int .i64 a2_1, .int .i64 a2_2] 40 (0, 0)) (by (with_reducible repeat (first | refine blk_drewN ?_ _ | refine blk_drew ?_ | refine blk_alloc ?_ _)); exact BK510.out) hb); have n6_ := Aside0.mk (below_step (by repeat (first | (with_reducible first | exact HB.out | apply below_alloc | apply pw_below_drewN | apply below_drew1 | refine below_set ?_ GE510.out) | exact HB.out)) hb); clear HO_7; clear HO_12; clear HO_14; clear HO552; clear BK510; clear HB; have HO_7 := n0_; have HO_12 := n1_; have HO_14 := n2_; have HO552 := n3_; have HO555 := n4_; have BK510 := n5_; have HB := n6_; clear n0_ n1_ n2_ n3_ n4_ n5_ n6_; (try clear hb); (try clear hb2); (try clear hk); (try clear hi); (try clear ho0); obtain ⟨Ao99, co99, eo99⟩ := Kd.S_slice HO552.out; subst eo99; obtain ⟨Ao100, co100, eo100⟩ := Kd.R_slice HO_12.out; subst eo100) | ((with_reducible refine gate_callee (f := 16) rfl ?_); refine goesL_ (some 138) rfl rfl Try.func16 (by kernel_rfl) rfl #[.slice Ao99 t550.length co99, .int .i64 a0, .slice Ao100 t540.length co100] rfl (by (try simp only [List.map_toArray, List.map_cons, List.map_nil]); first | done | rfl | (simp only [List.length_drop, List.length_take]; rfl)) ?_; (with_reducible refine (orreryref19_Matching.calls kj59 _ _ t550 a0 _ _ t540 true _ ?side1 ?side2 ?side3 ?side4 A79.out).mono ?_); (case side1 => repeat (first | exact (Kd.S_reads' HO552.out).2.2 | (with_reducible refine Kd.C_alloc ?_ _) | (with_reducible refine Kd.C_drewN ?_ _) | (with_reducible refine Kd.C_drew ?_))); (case side2 => exact (Kd.S_reads' HO552.out).2.1); (case side3 => repeat (first | exact (Kd.R_reads' HO_12.out).2.2 | (with_reducible refine Kd.C_alloc ?_ _) | (with_reducible refine Kd.C_drewN ?_ _) | (with_reducible refine Kd.C_drew ?_))); (case side4 => exact (Kd.R_reads' HO_12.out).2.1); rintro e w101 ⟨rfl, hb⟩; refine ⟨_, rfl, ?_⟩; have n0_ := Aside0.mk (Kd.R_below (by (with_reducible repeat (first | apply Kd.R_alloc | apply Kd.R_drewN | apply Kd.R_drew)); exact HO_7.out) hb); have n1_ := Aside0.mk (Kd.R_below (by (with_reducible repeat (first | apply Kd.R_alloc | apply Kd.R_drewN | apply Kd.R_drew)); exact HO_12.out) hb); have n2_ := Aside0.mk (Kd.R_below (by (with_reducible repeat (first | apply Kd.R_alloc | apply Kd.R_drewN | apply Kd.R_drew)); exact HO_14.out) hb); have n3_ := Aside0.mk (Kd.S_below (by (with_reducible repeat (first | apply Kd.S_alloc | apply Kd.S_drewN | apply Kd.S_drew)); exact HO552.out) hb); have n4_ := Aside0.mk (Kd.S_below (by (with_reducible repeat (first | apply Kd.S_alloc | apply Kd.S_drewN | apply Kd.S_drew)); exact HO555.out) hb); have n5_ := Aside0.mk (blk_below (g := gb510) (o := .cells #[.int .i64 a2_0, .int .i64 a2_1, .int .i64 a2_2] 40 (0, 0)) (by (with_reducible repeat (first | refine blk_drewN ?_ _ | refine blk_drew ?_ | refine blk_alloc ?_ _)); exact BK510.out) hb); have n6_ := Aside0.mk (below_step (by repeat (first | (with_reducible first | exact HB.out | apply below_alloc | apply pw_below_drewN | apply below_drew1 | refine below_set ?_ GE510.out) | exact HB.out)) hb); clear HO_7; clear HO_12; clear HO_14; clear HO552; clear HO555; clear BK510; clear HB; have HO_7 := n0_; have HO_12 := n1_; have HO_14 := n2_; have HO552 := n3_; have HO555 := n4_; have BK510 := n5_; have HB := n6_; clear n0_ n1_ n2_ n3_ n4_ n5_ n6_; (try clear hb); (try clear hb2); (try clear hk); (try clear hi); obtain ⟨Ao102, co102, eo102⟩ := Kd.S_slice HO555.out; subst eo102; obtain ⟨Ao103, co103, eo103⟩ := Kd.R_slice HO_14.out; subst eo103) | (go_at_call 16; (with_reducible refine (orreryref19_Matching.calls kj59 _ _ t553 a0 _ _ t544 true _ ?side1 ?side2 ?side3 ?side4 A81.out).mono ?_); (case side1 => repeat (first | exact (Kd.S_reads' HO555.out).2.2 | (with_reducible refine Kd.C_alloc ?_ _) | (with_reducible refine Kd.C_drewN ?_ _) | (with_reducible refine Kd.C_drew ?_))); (case side2 => exact (Kd.S_reads' HO555.out).2.1); (case side3 => repeat (first | exact (Kd.R_reads' HO_14.out).2.2 | (with_reducible refine Kd.C_alloc ?_ _) | (with_reducible refine Kd.C_drewN ?_ _) | (with_reducible refine Kd.C_drew ?_))); (case side4 => exact (Kd.R_reads' HO_14.out).2.1); rintro e w104 ⟨rfl, hb⟩; have n0_ := Aside0.mk (Kd.R_below (by (with_reducible repeat (first | apply Kd.R_alloc | apply Kd.R_drewN | apply Kd.R_drew)); exact HO_7.out) hb); have n1_ := Aside0.mk (Kd.R_below (by (with_reducible repeat (first | apply Kd.R_alloc | apply Kd.R_drewN | apply Kd.R_drew)); exact HO_12.out) hb); have n2_ := Aside0.mk (Kd.R_below (by (with_reducible repeat (first | apply Kd.R_alloc | apply Kd.R_drewN | apply Kd.R_drew)); exact HO_14.out) hb); have n3_ := Aside0.mk (Kd.S_below (by (with_reducible repeat (first | apply Kd.S_alloc | apply Kd.S_drewN | apply Kd.S_drew)); exact HO552.out) hb); have n4_ := Aside0.mk (Kd.S_below (by (with_reducible repeat (first | apply Kd.S_alloc | apply Kd.S_drewN | apply Kd.S_drew)); exact HO555.out) hb); have n5_ := Aside0.mk (blk_below (g := gb510) (o := .cells #[.int .i64 a2_0, .int .i64 a2_1, .int .i64 a2_2] 40 (0, 0)) (by (with_reducible repeat (first | refine blk_drewN ?_ _ | refine blk_drew ?_ | refine blk_alloc ?_ _)); exact BK510.out) hb); have n6_ := Aside0.mk (below_step (by repeat (first | (with_reducible first | exact HB.out | apply below_alloc | apply pw_below_drewN | apply below_drew1 | refine below_set ?_ GE510.out) | exact HB.out)) hb); clear HO_7; clear HO_12; clear HO_14; clear HO552; clear HO555; clear BK510; clear HB; have HO_7 := n0_; have HO_12 := n1_; have HO_14 := n2_; have HO552 := n3_; have HO555 := n4_; have BK510 := n5_; have HB := n6_; clear n0_ n1_ n2_ n3_ n4_ n5_ n6_; (try clear hb); (try clear hb2); (try clear hk); (try clear hi)) | (go_at_call 24; (with_reducible refine (orreryref19_Size.calls kj59 _ _ t540 t558 _ ?side1 ?side2 A83.out).mono ?_); (case side1 => repeat (first | exact (Kd.R_reads' HO_12.out).2.2 | (with_reducible refine Kd.C_alloc ?_ _) | (with_reducible refine Kd.C_drewN ?_ _) | (with_reducible refine Kd.C_drew ?_))); (case side2 => exact (Kd.R_reads' HO_12.out).2.1); rintro e w' ⟨rfl, ⟨nd, rfl⟩⟩) | (go_at_call 24; (with_reducible refine (orreryref19_Size.calls kj59 _ _ t544 t559 _ ?side1 ?side2 A85.out).mono ?_); (case side1 => repeat (first | exact (Kd.R_reads' HO_14.out).2.2 | (with_reducible refine Kd.C_alloc ?_ _) | (with_reducible refine Kd.C_drewN ?_ _) | (with_reducible refine Kd.C_drew ?_))); (case side2 => exact (Kd.R_reads' HO_14.out).2.1); rintro e w' ⟨rfl, ⟨nd, rfl⟩⟩))
        go_ret
        exact ⟨by first | rfl | (simp [errW_none, errW_some] <;> rfl) | (simp [*, errW_none, errW_some] <;> rfl), by repeat (first | (with_reducible first | exact HB.out | apply below_alloc | apply pw_below_drewN | apply below_drew1 | refine below_set ?_ GE510.out) | exact HB.out)⟩
       rw [if_pos c86] at H
       have c86b0 : (t559 == a0) = true := beq_iff_eq.mpr c86
       have c86b1 : (t559 != a0) = false := bne_eq_false_iff_eq.mpr c86
       clear c86
       replace H := Option.bind_eq_some_iff.mp H
       obtain ⟨t560, A870, H⟩ := H
       replace H : ((orreryref19_Sum.f kj59 t550 t540).bind fun t561 => (some (decide (t560 ≥ t561)))) = some r := H
       have A87 := Aside0.mk A870
       clear A870
       replace H := Option.bind_eq_some_iff.mp H
       obtain ⟨t561, A880, H⟩ := H
       replace H : (some (decide (t560 ≥ t561))) = some r := H
       have A88 := Aside0.mk A880
       clear A880
       obtain rfl := Option.some.inj H
       go_wp2_with (first | ((with_reducible refine gate_callee (f := 15) rfl ?_); refine goesL_ (some 130) rfl rfl Try.func15 (by kernel_rfl) rfl #[.int .i64 a0, .int .i64 a0, .slice A1 l1.length c1] rfl (by (try simp only [List.map_toArray, List.map_cons, List.map_nil]); first | done | rfl | (simp only [List.length_drop, List.length_take]; rfl)) ?_; (with_reducible refine (orreryref19_Table.calls kj59 a0 a0 _ _ l1 t550 _ ?side1 ?side2 A77.out).mono ?_); (case side1 => repeat (first | exact (Kd.C_below HR1.out HB.out) | (with_reducible refine Kd.C_alloc ?_ _) | (with_reducible refine Kd.C_drewN ?_ _) | (with_reducible refine Kd.C_drew ?_))); (case side2 => exact HC1.out); rintro e w89 ⟨v551, rfl, ho0, hb⟩; refine ⟨_, rfl, ?_⟩; have n0_ := Aside0.mk (Kd.R_below (by (with_reducible repeat (first | apply Kd.R_alloc | apply Kd.R_drewN | apply Kd.R_drew)); exact HO_7.out) hb); have n1_ := Aside0.mk (Kd.R_below (by (with_reducible repeat (first | apply Kd.R_alloc | apply Kd.R_drewN | apply Kd.R_drew)); exact HO_12.out) hb); have n2_ := Aside0.mk (Kd.R_below (by (with_reducible repeat (first | apply Kd.R_alloc | apply Kd.R_drewN | apply Kd.R_drew)); exact HO_14.out) hb); have n3_ := Aside0.mk (Kd.S_lower (Kd.S_new' (Kd.S_new' ho0 (Kd.R_lt (by (with_reducible repeat (first | apply Kd.R_alloc | apply Kd.R_drewN | apply Kd.R_drew)); exact HO_12.out))) (Kd.R_lt (by (with_reducible repeat (first | apply Kd.R_alloc | apply Kd.R_drewN | apply Kd.R_drew)); exact HO_14.out))) (below_size (by repeat (first | (with_reducible first | exact HB.out | apply below_alloc | apply pw_below_drewN | apply below_drew1 | refine below_set ?_ GE510.out) | exact HB.out)))); have n4_ := Aside0.mk (blk_below (g := gb510) (o := .cells #[.int .i64 a2_0, .int .i64 a2_1, .int .i64 a2_2] 40 (0, 0)) (by (with_reducible repeat (first | refine blk_drewN ?_ _ | refine blk_drew ?_ | refine blk_alloc ?_ _)); exact BK510.out) hb); have n5_ := Aside0.mk (below_step (by repeat (first | (with_reducible first | exact HB.out | apply below_alloc | apply pw_below_drewN | apply below_drew1 | refine below_set ?_ GE510.out) | exact HB.out)) hb); clear HO_7; clear HO_12; clear HO_14; clear BK510; clear HB; have HO_7 := n0_; have HO_12 := n1_; have HO_14 := n2_; have HO552 := n3_; have BK510 := n4_; have HB := n5_; clear n0_ n1_ n2_ n3_ n4_ n5_; (try clear hb); (try clear hb2); (try clear hk); (try clear hi); (try clear ho0)) | ((with_reducible refine gate_callee (f := 15) rfl ?_); refine goesL_ (some 134) rfl rfl Try.func15 (by kernel_rfl) rfl #[.int .i64 a0, .int .i64 a0, .slice Ao39 y525.length co39] rfl (by (try simp only [List.map_toArray, List.map_cons, List.map_nil]); first | done | rfl | (simp only [List.length_drop, List.length_take]; rfl)) ?_; (with_reducible refine (orreryref19_Table.calls kj59 a0 a0 _ _ y525 t553 _ ?side1 ?side2 A78.out).mono ?_); (case side1 => repeat (first | exact (Kd.R_reads' HO_7.out).2.2 | (with_reducible refine Kd.C_alloc ?_ _) | (with_reducible refine Kd.C_drewN ?_ _) | (with_reducible refine Kd.C_drew ?_))); (case side2 => exact (Kd.R_reads' HO_7.out).2.1); rintro e w90 ⟨v554, rfl, ho0, hb⟩; refine ⟨_, rfl, ?_⟩; have n0_ := Aside0.mk (Kd.R_below (by (with_reducible repeat (first | apply Kd.R_alloc | apply Kd.R_drewN | apply Kd.R_drew)); exact HO_7.out) hb); have n1_ := Aside0.mk (Kd.R_below (by (with_reducible repeat (first | apply Kd.R_alloc | apply Kd.R_drewN | apply Kd.R_drew)); exact HO_12.out) hb); have n2_ := Aside0.mk (Kd.R_below (by (with_reducible repeat (first | apply Kd.R_alloc | apply Kd.R_drewN | apply Kd.R_drew)); exact HO_14.out) hb); have n3_ := Aside0.mk (Kd.S_elder' (by (with_reducible repeat (first | apply Kd.S_alloc | apply Kd.S_drewN | apply Kd.S_drew)); exact HO552.out) (Kd.S_base ho0) hb); have n4_ := Aside0.mk (Kd.S_lower (Kd.S_new' (Kd.S_new' (Kd.S_new' ho0 (Kd.R_lt (by (with_reducible repeat (first | apply Kd.R_alloc | apply Kd.R_drewN | apply Kd.R_drew)); exact HO_12.out))) (Kd.R_lt (by (with_reducible repeat (first | apply Kd.R_alloc | apply Kd.R_drewN | apply Kd.R_drew)); exact HO_14.out))) (Kd.S_lt (by (with_reducible repeat (first | apply Kd.S_alloc | apply Kd.S_drewN | apply Kd.S_drew)); exact HO552.out))) (below_size (by repeat (first | (with_reducible first | exact HB.out | apply below_alloc | apply pw_below_drewN | apply below_drew1 | refine below_set ?_ GE510.out) | exact HB.out)))); have n5_ := Aside0.mk (blk_below (g := gb510) (o := .cells #[.int .i64 a2_0, .int .i64 a2_1, .int .i64 a2_2] 40 (0, 0)) (by (with_reducible repeat (first | refine blk_drewN ?_ _ | refine blk_drew ?_ | refine blk_alloc ?_ _)); exact BK510.out) hb); have n6_ := Aside0.mk (below_step (by repeat (first | (with_reducible first | exact HB.out | apply below_alloc | apply pw_below_drewN | apply below_drew1 | refine below_set ?_ GE510.out) | exact HB.out)) hb); clear HO_7; clear HO_12; clear HO_14; clear HO552; clear BK510; clear HB; have HO_7 := n0_; have HO_12 := n1_; have HO_14 := n2_; have HO552 := n3_; have HO555 := n4_; have BK510 := n5_; have HB := n6_; clear n0_ n1_ n2_ n3_ n4_ n5_ n6_; (try clear hb); (try clear hb2); (try clear hk); (try clear hi); (try clear ho0); obtain ⟨Ao91, co91, eo91⟩ := Kd.S_slice HO552.out; subst eo91; obtain ⟨Ao92, co92, eo92⟩ := Kd.R_slice HO_12.out; subst eo92) | ((with_reducible refine gate_callee (f := 16) rfl ?_); refine goesL_ (some 138) rfl rfl Try.func16 (by kernel_rfl) rfl #[.slice Ao91 t550.length co91, .int .i64 a0, .slice Ao92 t540.length co92] rfl (by (try simp only [List.map_toArray, List.map_cons, List.map_nil]); first | done | rfl | (simp only [List.length_drop, List.length_take]; rfl)) ?_; (with_reducible refine (orreryref19_Matching.calls kj59 _ _ t550 a0 _ _ t540 true _ ?side1 ?side2 ?side3 ?side4 A79.out).mono ?_); (case side1 => repeat (first | exact (Kd.S_reads' HO552.out).2.2 | (with_reducible refine Kd.C_alloc ?_ _) | (with_reducible refine Kd.C_drewN ?_ _) | (with_reducible refine Kd.C_drew ?_))); (case side2 => exact (Kd.S_reads' HO552.out).2.1); (case side3 => repeat (first | exact (Kd.R_reads' HO_12.out).2.2 | (with_reducible refine Kd.C_alloc ?_ _) | (with_reducible refine Kd.C_drewN ?_ _) | (with_reducible refine Kd.C_drew ?_))); (case side4 => exact (Kd.R_reads' HO_12.out).2.1); rintro e w93 ⟨rfl, hb⟩; refine ⟨_, rfl, ?_⟩; have n0_ := Aside0.mk (Kd.R_below (by (with_reducible repeat (first | apply Kd.R_alloc | apply Kd.R_drewN | apply Kd.R_drew)); exact HO_7.out) hb); have n1_ := Aside0.mk (Kd.R_below (by (with_reducible repeat (first | apply Kd.R_alloc | apply Kd.R_drewN | apply Kd.R_drew)); exact HO_12.out) hb); have n2_ := Aside0.mk (Kd.R_below (by (with_reducible repeat (first | apply Kd.R_alloc | apply Kd.R_drewN | apply Kd.R_drew)); exact HO_14.out) hb); have n3_ := Aside0.mk (Kd.S_below (by (with_reducible repeat (first | apply Kd.S_alloc | apply Kd.S_drewN | apply Kd.S_drew)); exact HO552.out) hb); have n4_ := Aside0.mk (Kd.S_below (by (with_reducible repeat (first | apply Kd.S_alloc | apply Kd.S_drewN | apply Kd.S_drew)); exact HO555.out) hb); have n5_ := Aside0.mk (blk_below (g := gb510) (o := .cells #[.int .i64 a2_0, .int .i64 a2_1, .int .i64 a2_2] 40 (0, 0)) (by (with_reducible repeat (first | refine blk_drewN ?_ _ | refine blk_drew ?_ | refine blk_alloc ?_ _)); exact BK510.out) hb); have n6_ := Aside0.mk (below_step (by repeat (first | (with_reducible first | exact HB.out | apply below_alloc | apply pw_below_drewN | apply below_drew1 | refine below_set ?_ GE510.out) | exact HB.out)) hb); clear HO_7; clear HO_12; clear HO_14; clear HO552; clear HO555; clear BK510; clear HB; have HO_7 := n0_; have HO_12 := n1_; have HO_14 := n2_; have HO552 := n3_; have HO555 := n4_; have BK510 := n5_; have HB := n6_; clear n0_ n1_ n2_ n3_ n4_ n5_ n6_; (try clear hb); (try clear hb2); (try clear hk); (try clear hi); obtain ⟨Ao94, co94, eo94⟩ := Kd.S_slice HO555.out; subst eo94; obtain ⟨Ao95, co95, eo95⟩ := Kd.R_slice HO_14.out; subst eo95) | (go_at_call 16; (with_reducible refine (orreryref19_Matching.calls kj59 _ _ t553 a0 _ _ t544 true _ ?side1 ?side2 ?side3 ?side4 A81.out).mono ?_); (case side1 => repeat (first | exact (Kd.S_reads' HO555.out).2.2 | (with_reducible refine Kd.C_alloc ?_ _) | (with_reducible refine Kd.C_drewN ?_ _) | (with_reducible refine Kd.C_drew ?_))); (case side2 => exact (Kd.S_reads' HO555.out).2.1); (case side3 => repeat (first | exact (Kd.R_reads' HO_14.out).2.2 | (with_reducible refine Kd.C_alloc ?_ _) | (with_reducible refine Kd.C_drewN ?_ _) | (with_reducible refine Kd.C_drew ?_))); (case side4 => exact (Kd.R_reads' HO_14.out).2.1); rintro e w96 ⟨rfl, hb⟩; have n0_ := Aside0.mk (Kd.R_below (by (with_reducible repeat (first | apply Kd.R_alloc | apply Kd.R_drewN | apply Kd.R_drew)); exact HO_7.out) hb); have n1_ := Aside0.mk (Kd.R_below (by (with_reducible repeat (first | apply Kd.R_alloc | apply Kd.R_drewN | apply Kd.R_drew)); exact HO_12.out) hb); have n2_ := Aside0.mk (Kd.R_below (by (with_reducible repeat (first | apply Kd.R_alloc | apply Kd.R_drewN | apply Kd.R_drew)); exact HO_14.out) hb); have n3_ := Aside0.mk (Kd.S_below (by (with_reducible repeat (first | apply Kd.S_alloc | apply Kd.S_drewN | apply Kd.S_drew)); exact HO552.out) hb); have n4_ := Aside0.mk (Kd.S_below (by (with_reducible repeat (first | apply Kd.S_alloc | apply Kd.S_drewN | apply Kd.S_drew)); exact HO555.out) hb); have n5_ := Aside0.mk (blk_below (g := gb510) (o := .cells #[.int .i64 a2_0, .int .i64 a2_1, .int .i64 a2_2] 40 (0, 0)) (by (with_reducible repeat (first | refine blk_drewN ?_ _ | refine blk_drew ?_ | refine blk_alloc ?_ _)); exact BK510.out) hb); have n6_ := Aside0.mk (below_step (by repeat (first | (with_reducible first | exact HB.out | apply below_alloc | apply pw_below_drewN | apply below_drew1 | refine below_set ?_ GE510.out) | exact HB.out)) hb); clear HO_7; clear HO_12; clear HO_14; clear HO552; clear HO555; clear BK510; clear HB; have HO_7 := n0_; have HO_12 := n1_; have HO_14 := n2_; have HO552 := n3_; have HO555 := n4_; have BK510 := n5_; have HB := n6_; clear n0_ n1_ n2_ n3_ n4_ n5_ n6_; (try clear hb); (try clear hb2); (try clear hk); (try clear hi)) | (go_at_call 24; (with_reducible refine (orreryref19_Size.calls kj59 _ _ t540 t558 _ ?side1 ?side2 A83.out).mono ?_); (case side1 => repeat (first | exact (Kd.R_reads' HO_12.out).2.2 | (with_reducible refine Kd.C_alloc ?_ _) | (with_reducible refine Kd.C_drewN ?_ _) | (with_reducible refine Kd.C_drew ?_))); (case side2 => exact (Kd.R_reads' HO_12.out).2.1); rintro e w' ⟨rfl, ⟨nd, rfl⟩⟩) | (go_at_call 24; (with_reducible refine (orreryref19_Size.calls kj59 _ _ t544 t559 _ ?side1 ?side2 A85.out).mono ?_); (case side1 => repeat (first | exact (Kd.R_reads' HO_14.out).2.2 | (with_reducible refine Kd.C_alloc ?_ _) | (with_reducible refine Kd.C_drewN ?_ _) | (with_reducible refine Kd.C_drew ?_))); (case side2 => exact (Kd.R_reads' HO_14.out).2.1); rintro e w' ⟨rfl, ⟨nd, rfl⟩⟩) | (go_at_call 26; (with_reducible refine (orreryref19_Sum.calls kj59 _ _ t553 _ _ t544 t560 _ ?side1 ?side2 ?side3 ?side4 A87.out).mono ?_); (case side1 => repeat (first | exact (Kd.S_reads' HO555.out).2.2 | (with_reducible refine Kd.C_alloc ?_ _) | (with_reducible refine Kd.C_drewN ?_ _) | (with_reducible refine Kd.C_drew ?_))); (case side2 => exact (Kd.S_reads' HO555.out).2.1); (case side3 => repeat (first | exact (Kd.R_reads' HO_14.out).2.2 | (with_reducible refine Kd.C_alloc ?_ _) | (with_reducible refine Kd.C_drewN ?_ _) | (with_reducible refine Kd.C_drew ?_))); (case side4 => exact (Kd.R_reads' HO_14.out).2.1); rintro e w' ⟨rfl, ⟨nd, rfl⟩⟩) | (go_at_call 26; (with_reducible refine (orreryref19_Sum.calls kj59 _ _ t550 _ _ t540 t561 _ ?side1 ?side2 ?side3 ?side4 A88.out).mono ?_); (case side1 => repeat (first | exact (Kd.S_reads' HO552.out).2.2 | (with_reducible refine Kd.C_alloc ?_ _) | (with_reducible refine Kd.C_drewN ?_ _) | (with_reducible refine Kd.C_drew ?_))); (case side2 => exact (Kd.S_reads' HO552.out).2.1); (case side3 => repeat (first | exact (Kd.R_reads' HO_12.out).2.2 | (with_reducible refine Kd.C_alloc ?_ _) | (with_reducible refine Kd.C_drewN ?_ _) | (with_reducible refine Kd.C_drew ?_))); (case side4 => exact (Kd.R_reads' HO_12.out).2.1); rintro e w' ⟨rfl, ⟨nd, rfl⟩⟩))
       go_ret
       exact ⟨by first | rfl | (simp [errW_none, errW_some] <;> rfl) | (simp [*, errW_none, errW_some] <;> rfl), by repeat (first | (with_reducible first | exact HB.out | apply below_alloc | apply pw_below_drewN | apply below_drew1 | refine below_set ?_ GE510.out) | exact HB.out)⟩

end Go.Proofs.Ytamloclgignfgaa.PA
