/- What the Go functions of this part compute, as Lean functions, and that the machine's calls come to just that; written for this claim by a program of the session (gen.sh, after the kit's printer). -/
import Derived.Test.YtlaneafplmbcnaaPOx0
namespace Go.Proofs.Ytlaneafplmbcnaa.PO
open Go.RowKit Go.Proofs.YtlaneafplmbcnaaW.PrintWords Go.Proofs.YtlaneafplmbcnaaW.PrintLast Go.Proofs.YtlaneafplmbcnaaW.PrintMore
attribute [local go_sem] max2_int min2_int max_two min_two max_three min_three max_four min_four   -- for this text's walks alone
set_option linter.unusedVariables false
set_option linter.unusedSimpArgs false

/-! ### orreryref19_Matching: function 21 -/
def orreryref19_Matching.l0 : Nat → List (List Int) → Int → List Int → List Int → Int → Int → Option (Bool)
  | 0, _, _, _, _, _, _ => none
  | k + 1, x0, x1, x7, x17, x18, x19 => if x19 < x18 then (if 0 ≤ x19 then (if x19 < (x17.length : Int) then (if (rd x17 x19) = (-1) then (orreryref19_Matching.l0 k x0 x1 x7 x17 x18 (wrap64 (x19 + 1))) else (if (rd x17 x19) < 0 then (some false) else (if (rd x17 x19) ≥ x1 then (some false) else (if x19 < (x0.length : Int) then (if 0 ≤ (rd x17 x19) then (if (rd x17 x19) < ((rd_L3 x0 x19).length : Int) then (if (rd (rd_L3 x0 x19) (rd x17 x19)) < 0 then (some false) else (if (rd x17 x19) < (x7.length : Int) then (if (rd x7 (rd x17 x19)) = 1 then (some false) else (orreryref19_Matching.l0 k x0 x1 (x7.set ((rd x17 x19) : Int).toNat 1) x17 x18 (wrap64 (x19 + 1)))) else (none))) else (none)) else (none)) else (none))))) else (none)) else (none)) else (some true)
def orreryref19_Matching.f (k : Nat) (l0 : List (List Int)) (a1 : Int) (l2 : List Int) : Option (Bool) := if (l2.length : Int) = (l0.length : Int) then (if 0 ≤ a1 then (if (a1 : Int).toNat ≤ 35184372088832 then (orreryref19_Matching.l0 k l0 a1 (List.replicate (a1 : Int).toNat 0) l2 (l2.length : Int) 0) else (none)) else (none)) else (some false)
theorem orreryref19_Matching.mono_l : ∀ k, (∀ y0 y1 y2 y3 y4 y5, LeO (orreryref19_Matching.l0 k y0 y1 y2 y3 y4 y5) (orreryref19_Matching.l0 (k + 1) y0 y1 y2 y3 y4 y5))
  | 0 => fun _ _ _ _ _ _ r h => by simp [orreryref19_Matching.l0] at h
  | k + 1 => by
    have ih0 := orreryref19_Matching.mono_l k
    · intro y0 y1 y2 y3 y4 y5
      unfold orreryref19_Matching.l0
      repeat' first
      | (with_reducible exact ih0 _ _ _ _ _ _)
      | (with_reducible exact LeO.refl _)
      | (with_reducible exact LeO.none _)
      | (with_reducible refine LeO.ite ?_ ?_)
      | (with_reducible refine LeO.bind ?_ (fun _ => ?_))
      | exact ih0 _ _ _ _ _ _
      | exact LeO.none _
      | refine LeO.ite ?_ ?_
      | refine LeO.bind ?_ (fun _ => ?_)
theorem orreryref19_Matching.mono : ∀ a0 a1 a2 k, LeO (orreryref19_Matching.f k a0 a1 a2) (orreryref19_Matching.f (k + 1) a0 a1 a2) := by
 intro a0 a1 a2 k
 have ih0 := orreryref19_Matching.mono_l k
 unfold orreryref19_Matching.f
 repeat' first
     | (with_reducible exact ih0 _ _ _ _ _ _)
     | (with_reducible exact LeO.refl _)
     | (with_reducible exact LeO.none _)
     | (with_reducible refine LeO.ite ?_ ?_)
     | (with_reducible refine LeO.bind ?_ (fun _ => ?_))
     | exact ih0 _ _ _ _ _ _
     | exact LeO.none _
     | refine LeO.ite ?_ ?_
     | refine LeO.bind ?_ (fun _ => ?_)
set_option maxHeartbeats 8000000 in
set_option maxRecDepth 100000 in
theorem orreryref19_Matching.calls (k : Nat) (A0 : Option Addr) (c0 : Nat) (l0 : List (List Int)) (a1 : Int) (A2 : Option Addr) (c2 : Nat) (l2 : List Int) (r : Bool) (w : World) (hr0 : Kd.C (Kd.slice 3 (Kd.int .i64)) w A0 l0.length l0) (hc0 : l0.length ≤ c0) (hr2 : Kd.C (Kd.int .i64) w A2 l2.length l2) (hc2 : l2.length ≤ c2) (h : orreryref19_Matching.f k l0 a1 l2 = some r) :
    Calls Try.prog 21 #[.slice A0 l0.length c0, .int .i64 a1, .slice A2 l2.length c2] w fun e w' => e = .returned (.bool r) ∧ Below w.heap.size w w' := by
 have HR0 := Aside0.mk hr0
 have HC0 := Aside0.mk hc0
 clear hr0 hc0
 have HR2 := Aside0.mk hr2
 have HC2 := Aside0.mk hc2
 clear hr2 hc2
 have HB := Aside0.mk (Below.refl w.heap.size w)
 have H : (if (l2.length : Int) = (l0.length : Int) then (if 0 ≤ a1 then (if (a1 : Int).toNat ≤ 35184372088832 then (orreryref19_Matching.l0 k l0 a1 (List.replicate (a1 : Int).toNat 0) l2 (l2.length : Int) 0) else (none)) else (none)) else (some false)) = some r := h
 clear h
 by_cases c4 : (l2.length : Int) = (l0.length : Int)
 case neg =>
  rw [if_neg c4] at H
  have c4b0 : ((l2.length : Int) == (l0.length : Int)) = false := beq_eq_false_iff_ne.mpr c4
  have c4b1 : ((l2.length : Int) != (l0.length : Int)) = true := bne_iff_ne.mpr c4
  have c4b2 : (l2.length == l0.length) = false := by first | simpa using c4 | (simp at c4 ⊢; omega)
  obtain rfl := Option.some.inj H
  go_enter Try.func21, Try.ntmps21
  go_wp2
  go_ret
  exact ⟨by first | rfl | (simp [errW_none, errW_some] <;> rfl) | (simp [*, errW_none, errW_some] <;> rfl), by repeat (first | (with_reducible first | exact HB.out | apply below_alloc | apply pw_below_drewN | apply below_drew1) | exact HB.out)⟩
 rw [if_pos c4] at H
 have c4b0 : ((l2.length : Int) == (l0.length : Int)) = true := beq_iff_eq.mpr c4
 have c4b1 : ((l2.length : Int) != (l0.length : Int)) = false := bne_eq_false_iff_eq.mpr c4
 have c4b2 : (l2.length == l0.length) = true := by first | simpa using c4 | (simp at c4 ⊢; omega)
 clear c4
 by_cases c5 : 0 ≤ a1
 case neg => rw [if_neg c5] at H; exact absurd H (by simp)
 rw [if_pos c5] at H
 have c5b0 := eq_true c5
 have c5b1 : decide (0 ≤ a1) = true := decide_eq_true c5
 clear c5
 by_cases c6 : (a1 : Int).toNat ≤ 35184372088832
 case neg => rw [if_neg c6] at H; exact absurd H (by simp)
 rw [if_pos c6] at H
 have c6b0 := eq_true c6
 have c6b1 : decide ((a1 : Int).toNat ≤ 35184372088832) = true := decide_eq_true c6
 clear c6
 obtain ⟨y246, hy246⟩ : ∃ y_ : List Int, y_ = (List.replicate (a1 : Int).toNat 0) := ⟨_, rfl⟩
 replace H : (orreryref19_Matching.l0 k l0 a1 y246 l2 (l2.length : Int) 0) = some r := by first | (rw [hy246]; with_reducible exact H) | (have H2_ := (Option.bind_some _ _).symm.trans H; rw [hy246]; with_reducible exact H2_) | (have H2_ := (Option.bind_some _ _).symm.trans H; with_reducible exact H2_) | with_reducible exact H | (rw [hy246]; exact H) | exact H
 have Ny246 := Aside0.mk hy246
 clear hy246
 have H' := Aside0.mk H
 clear H
 go_enter Try.func21, Try.ntmps21
 go_wp2_with (first | ((with_reducible refine gate_dst (N := 16) rfl ?_); refine Kd.R_make (Kd.int .i64) _ 3 rfl (N := 16) rfl 23 _ _ rfl a1 rfl rfl Try.underlying23 (.int .i64 0) 8 info3 rfl (by decide) (by omega) 0 (ok := fun _ => True) (okp := fun _ => True) rfl (fun _ hk => hk) trivial (of_decide_eq_true (by first | (with_reducible assumption) | assumption)) (Nat.le_trans (Nat.mul_le_mul_right _ (of_decide_eq_true (by first | (with_reducible assumption) | assumption) : a1.toNat ≤ 35184372088832)) (by omega)) (Below.refl _ _) (Nat.le_refl _) ?_; intro v247 w7 ho8 hb hg_ hnew_; clear hg_ hnew_; (first | rw [← Ny246.out] at ho8 | (simp only [Int.reduceToNat] at ho8; rw [← Ny246.out] at ho8)); have n0_ := Aside0.mk (Kd.R_lower ho8 (below_size (by repeat (first | (with_reducible first | exact HB.out | apply below_alloc | apply pw_below_drewN | apply below_drew1) | exact HB.out)))); have n1_ := Aside0.mk (below_step (by repeat (first | (with_reducible first | exact HB.out | apply below_alloc | apply pw_below_drewN | apply below_drew1) | exact HB.out)) hb); clear HB; have HO248 := n0_; have HB := n1_; clear n0_ n1_; clear hb ho8))
 go_loopg [19] k (fun kq v19 w' => ∃ (x7_1 : List Int) (x19_1 : Int), v19 = .int .i64 x19_1 ∧ Aside0 (orreryref19_Matching.l0 kq l0 a1 x7_1 l2 (l2.length : Int) x19_1 = some r) ∧ Aside0 (kq ≤ k) ∧ Aside0 (Kd.R (Kd.int .i64) 3 w' w.heap.size (fun _ => True) v247 x7_1) ∧ Aside0 (Below w.heap.size w w'))
 case atStart => exact ⟨(y246), (0), (by first | rfl | (simp; done) | (simp [*]; done)), H', ⟨Nat.le_refl _⟩, ⟨by (with_reducible repeat (first | apply Kd.R_alloc | apply Kd.R_drewN | apply Kd.R_drew)); exact HO248.out⟩, ⟨by repeat (first | (with_reducible first | exact HB.out | apply below_alloc | apply pw_below_drewN | apply below_drew1) | exact HB.out)⟩⟩
 case round =>
  clear H'
  try clear c2
  try clear p2
  try clear c4
  try clear c4b0
  try clear c4b1
  try clear c4b2
  try clear c5
  try clear c5b0
  try clear c5b1
  try clear c6
  try clear c6b0
  try clear c6b1
  obtain ⟨x7_1, x19_1, rfl, HA, HK1, HO_7, HB⟩ := hrel
  cases gk with
  | zero => exact absurd HA.out (by simp [orreryref19_Matching.l0])
  | succ k1 =>
   have H := HA.out
   clear HA
   simp only [orreryref19_Matching.l0] at H
   by_cases c9 : x19_1 < (l2.length : Int)
   case neg =>
    rw [if_neg c9] at H
    have c9b0 : decide (x19_1 < (l2.length : Int)) = false := decide_eq_false c9
    clear c9
    obtain rfl := Option.some.inj H
    go_wp2
    go_ret
    exact ⟨by first | rfl | (simp [errW_none, errW_some] <;> rfl) | (simp [*, errW_none, errW_some] <;> rfl), by repeat (first | (with_reducible first | exact HB.out | apply below_alloc | apply pw_below_drewN | apply below_drew1) | exact HB.out)⟩
   rw [if_pos c9] at H
   have c9b0 : decide (x19_1 < (l2.length : Int)) = true := decide_eq_true c9
   clear c9
   by_cases c10 : 0 ≤ x19_1
   case neg => rw [if_neg c10] at H; exact absurd H (by simp)
   rw [if_pos c10] at H
   have c10b0 : decide (0 ≤ x19_1) = true := decide_eq_true c10
   clear c10
   by_cases c11 : x19_1 < (l2.length : Int)
   case neg => rw [if_neg c11] at H; exact absurd H (by simp)
   rw [if_pos c11] at H
   have c11b0 : decide (x19_1 < (l2.length : Int)) = true := decide_eq_true c11
   clear c11
   by_cases c12 : (rd l2 x19_1) = (-1)
   case pos =>
    rw [if_pos c12] at H
    have c12b0 : ((rd l2 x19_1) == (-1)) = true := beq_iff_eq.mpr c12
    have c12b1 : ((rd l2 x19_1) != (-1)) = false := bne_eq_false_iff_eq.mpr c12
    clear c12
    have H' := Aside0.mk H
    clear H
    have p249 : 0 ≤ (x19_1 : Int) := of_decide_eq_true (by first | (with_reducible assumption) | assumption)
    have q249 : x19_1 < (l2.length : Int) := of_decide_eq_true (by first | (with_reducible assumption) | assumption)
    obtain ⟨ad249, e249, hx249_0⟩ := Kd.at_int HR2.out x19_1 p249 q249
    cases e249
    replace hx249_0 := (HB.out.cell (World.block_lt_of_cell? w _ hx249_0)).trans hx249_0
    replace p249 := eq_true p249
    replace q249 := eq_true q249
    go_wp2
    (first | go_roundg k1 | (refine Handed.intro k1 ?measure ?_; rotate_left; go_step; (repeat apply Exists.intro); (refine ⟨?rel, ?fr_⟩); (case fr_ => (simp only [add_plain]; rfl))))
    case measure => have := HK1.out; omega
    case rel => exact ⟨(x7_1), (wrap64 (x19_1 + 1)), (by first | rfl | (simp; done) | (simp [*]; done)), H', ⟨by have := HK1.out; omega⟩, ⟨by (with_reducible repeat (first | apply Kd.R_alloc | apply Kd.R_drewN | apply Kd.R_drew)); exact HO_7.out⟩, ⟨by repeat (first | (with_reducible first | exact HB.out | apply below_alloc | apply pw_below_drewN | apply below_drew1) | exact HB.out)⟩⟩
   rw [if_neg c12] at H
   have c12b0 : ((rd l2 x19_1) == (-1)) = false := beq_eq_false_iff_ne.mpr c12
   have c12b1 : ((rd l2 x19_1) != (-1)) = true := bne_iff_ne.mpr c12
   by_cases c13 : (rd l2 x19_1) < 0
   case pos =>
    rw [if_pos c13] at H
    have c13b0 : decide ((rd l2 x19_1) < 0) = true := decide_eq_true c13
    clear c13
    obtain rfl := Option.some.inj H
    have p249 : 0 ≤ (x19_1 : Int) := of_decide_eq_true (by first | (with_reducible assumption) | assumption)
    have q249 : x19_1 < (l2.length : Int) := of_decide_eq_true (by first | (with_reducible assumption) | assumption)
    obtain ⟨ad249, e249, hx249_0⟩ := Kd.at_int HR2.out x19_1 p249 q249
    cases e249
    replace hx249_0 := (HB.out.cell (World.block_lt_of_cell? w _ hx249_0)).trans hx249_0
    replace p249 := eq_true p249
    replace q249 := eq_true q249
    go_wp2
    go_ret
    exact ⟨by first | rfl | (simp [errW_none, errW_some] <;> rfl) | (simp [*, errW_none, errW_some] <;> rfl), by repeat (first | (with_reducible first | exact HB.out | apply below_alloc | apply pw_below_drewN | apply below_drew1) | exact HB.out)⟩
   rw [if_neg c13] at H
   have c13b0 : decide ((rd l2 x19_1) < 0) = false := decide_eq_false c13
   clear c13
   by_cases c14 : (rd l2 x19_1) ≥ a1
   case pos =>
    rw [if_pos c14] at H
    have c14b0 : decide (a1 ≤ (rd l2 x19_1)) = true := decide_eq_true c14
    clear c14
    obtain rfl := Option.some.inj H
    have p249 : 0 ≤ (x19_1 : Int) := of_decide_eq_true (by first | (with_reducible assumption) | assumption)
    have q249 : x19_1 < (l2.length : Int) := of_decide_eq_true (by first | (with_reducible assumption) | assumption)
    obtain ⟨ad249, e249, hx249_0⟩ := Kd.at_int HR2.out x19_1 p249 q249
    cases e249
    replace hx249_0 := (HB.out.cell (World.block_lt_of_cell? w _ hx249_0)).trans hx249_0
    replace p249 := eq_true p249
    replace q249 := eq_true q249
    go_wp2
    go_ret
    exact ⟨by first | rfl | (simp [errW_none, errW_some] <;> rfl) | (simp [*, errW_none, errW_some] <;> rfl), by repeat (first | (with_reducible first | exact HB.out | apply below_alloc | apply pw_below_drewN | apply below_drew1) | exact HB.out)⟩
   rw [if_neg c14] at H
   have c14b0 : decide (a1 ≤ (rd l2 x19_1)) = false := decide_eq_false c14
   clear c14
   by_cases c15 : x19_1 < (l0.length : Int)
   case neg => rw [if_neg c15] at H; exact absurd H (by simp)
   rw [if_pos c15] at H
   have c15b0 : decide (x19_1 < (l0.length : Int)) = true := decide_eq_true c15
   clear c15
   by_cases c16 : 0 ≤ (rd l2 x19_1)
   case neg => rw [if_neg c16] at H; exact absurd H (by simp)
   rw [if_pos c16] at H
   have c16b0 : decide (0 ≤ (rd l2 x19_1)) = true := decide_eq_true c16
   clear c16
   by_cases c17 : (rd l2 x19_1) < ((rd_L3 l0 x19_1).length : Int)
   case neg => rw [if_neg c17] at H; exact absurd H (by simp)
   rw [if_pos c17] at H
   have c17b0 : decide ((rd l2 x19_1) < ((rd_L3 l0 x19_1).length : Int)) = true := decide_eq_true c17
   clear c17
   by_cases c18 : (rd (rd_L3 l0 x19_1) (rd l2 x19_1)) < 0
   case pos =>
    rw [if_pos c18] at H
    have c18b0 : decide ((rd (rd_L3 l0 x19_1) (rd l2 x19_1)) < 0) = true := decide_eq_true c18
    clear c18
    obtain rfl := Option.some.inj H
    have p249 : 0 ≤ (x19_1 : Int) := of_decide_eq_true (by first | (with_reducible assumption) | assumption)
    have q249 : x19_1 < (l2.length : Int) := of_decide_eq_true (by first | (with_reducible assumption) | assumption)
    obtain ⟨ad249, e249, hx249_0⟩ := Kd.at_int HR2.out x19_1 p249 q249
    cases e249
    replace hx249_0 := (HB.out.cell (World.block_lt_of_cell? w _ hx249_0)).trans hx249_0
    replace p249 := eq_true p249
    replace q249 := eq_true q249
    have p250 : 0 ≤ (x19_1 : Int) := of_decide_eq_true (by first | (with_reducible assumption) | assumption)
    have q250 : x19_1 < (l0.length : Int) := of_decide_eq_true (by first | (with_reducible assumption) | assumption)
    obtain ⟨ad250, A250_0, c250_0, e250, hx250_0, hl250_0, hi250_0⟩ := at_L3 HR0.out x19_1 p250 q250
    cases e250
    replace hx250_0 := (HB.out.cell (World.block_lt_of_cell? w _ hx250_0)).trans hx250_0
    have HR250_0 := Aside0.mk hi250_0
    have HC250_0 := Aside0.mk hl250_0
    clear hi250_0 hl250_0
    replace p250 := eq_true p250
    replace q250 := eq_true q250
    have p251 : 0 ≤ ((rd l2 x19_1) : Int) := of_decide_eq_true (by first | (with_reducible assumption) | assumption)
    have q251 : (rd l2 x19_1) < ((rd_L3 l0 x19_1).length : Int) := of_decide_eq_true (by first | (with_reducible assumption) | assumption)
    obtain ⟨ad251, e251, hx251_0⟩ := Kd.at_int HR250_0.out (rd l2 x19_1) p251 q251
    cases e251
    replace hx251_0 := (HB.out.cell (World.block_lt_of_cell? w _ hx251_0)).trans hx251_0
    replace p251 := eq_true p251
    replace q251 := eq_true q251
    go_wp2
    go_ret
    exact ⟨by first | rfl | (simp [errW_none, errW_some] <;> rfl) | (simp [*, errW_none, errW_some] <;> rfl), by repeat (first | (with_reducible first | exact HB.out | apply below_alloc | apply pw_below_drewN | apply below_drew1) | exact HB.out)⟩
   rw [if_neg c18] at H
   have c18b0 : decide ((rd (rd_L3 l0 x19_1) (rd l2 x19_1)) < 0) = false := decide_eq_false c18
   clear c18
   by_cases c19 : (rd l2 x19_1) < (x7_1.length : Int)
   case neg => rw [if_neg c19] at H; exact absurd H (by simp)
   rw [if_pos c19] at H
   have c19b0 : decide ((rd l2 x19_1) < (x7_1.length : Int)) = true := decide_eq_true c19
   clear c19
   by_cases c20 : (rd x7_1 (rd l2 x19_1)) = 1
   case pos =>
    rw [if_pos c20] at H
    have c20b0 : ((rd x7_1 (rd l2 x19_1)) == 1) = true := beq_iff_eq.mpr c20
    have c20b1 : ((rd x7_1 (rd l2 x19_1)) != 1) = false := bne_eq_false_iff_eq.mpr c20
    clear c20
    obtain rfl := Option.some.inj H
    have p249 : 0 ≤ (x19_1 : Int) := of_decide_eq_true (by first | (with_reducible assumption) | assumption)
    have q249 : x19_1 < (l2.length : Int) := of_decide_eq_true (by first | (with_reducible assumption) | assumption)
    obtain ⟨ad249, e249, hx249_0⟩ := Kd.at_int HR2.out x19_1 p249 q249
    cases e249
    replace hx249_0 := (HB.out.cell (World.block_lt_of_cell? w _ hx249_0)).trans hx249_0
    replace p249 := eq_true p249
    replace q249 := eq_true q249
    have p250 : 0 ≤ (x19_1 : Int) := of_decide_eq_true (by first | (with_reducible assumption) | assumption)
    have q250 : x19_1 < (l0.length : Int) := of_decide_eq_true (by first | (with_reducible assumption) | assumption)
    obtain ⟨ad250, A250_0, c250_0, e250, hx250_0, hl250_0, hi250_0⟩ := at_L3 HR0.out x19_1 p250 q250
    cases e250
    replace hx250_0 := (HB.out.cell (World.block_lt_of_cell? w _ hx250_0)).trans hx250_0
    have HR250_0 := Aside0.mk hi250_0
    have HC250_0 := Aside0.mk hl250_0
    clear hi250_0 hl250_0
    replace p250 := eq_true p250
    replace q250 := eq_true q250
    have p251 : 0 ≤ ((rd l2 x19_1) : Int) := of_decide_eq_true (by first | (with_reducible assumption) | assumption)
    have q251 : (rd l2 x19_1) < ((rd_L3 l0 x19_1).length : Int) := of_decide_eq_true (by first | (with_reducible assumption) | assumption)
    obtain ⟨ad251, e251, hx251_0⟩ := Kd.at_int HR250_0.out (rd l2 x19_1) p251 q251
    cases e251
    replace hx251_0 := (HB.out.cell (World.block_lt_of_cell? w _ hx251_0)).trans hx251_0
    replace p251 := eq_true p251
    replace q251 := eq_true q251
    obtain ⟨Ao21, co21, eo21⟩ := Kd.R_slice HO_7.out
    subst eo21
    have p252 : 0 ≤ ((rd l2 x19_1) : Int) := of_decide_eq_true (by first | (with_reducible assumption) | assumption)
    have q252 : (rd l2 x19_1) < (x7_1.length : Int) := of_decide_eq_true (by first | (with_reducible assumption) | assumption)
    obtain ⟨ad252, e252, hx252_0⟩ := Kd.at_int (Kd.R_reads' HO_7.out).2.2 (rd l2 x19_1) p252 q252
    cases e252
    replace p252 := eq_true p252
    replace q252 := eq_true q252
    go_wp2
    go_ret
    exact ⟨by first | rfl | (simp [errW_none, errW_some] <;> rfl) | (simp [*, errW_none, errW_some] <;> rfl), by repeat (first | (with_reducible first | exact HB.out | apply below_alloc | apply pw_below_drewN | apply below_drew1) | exact HB.out)⟩
   rw [if_neg c20] at H
   have c20b0 : ((rd x7_1 (rd l2 x19_1)) == 1) = false := beq_eq_false_iff_ne.mpr c20
   have c20b1 : ((rd x7_1 (rd l2 x19_1)) != 1) = true := bne_iff_ne.mpr c20
   obtain ⟨y253, hy253⟩ : ∃ y_ : List Int, y_ = (x7_1.set ((rd l2 x19_1) : Int).toNat 1) := ⟨_, rfl⟩
   replace H : (orreryref19_Matching.l0 k1 l0 a1 y253 l2 (l2.length : Int) (wrap64 (x19_1 + 1))) = some r := by first | (rw [hy253]; with_reducible exact H) | (have H2_ := (Option.bind_some _ _).symm.trans H; rw [hy253]; with_reducible exact H2_) | (have H2_ := (Option.bind_some _ _).symm.trans H; with_reducible exact H2_) | with_reducible exact H | (rw [hy253]; exact H) | exact H
   have Ny253 := Aside0.mk hy253
   clear hy253
   have H' := Aside0.mk H
   clear H
   have p249 : 0 ≤ (x19_1 : Int) := of_decide_eq_true (by first | (with_reducible assumption) | assumption)
   have q249 : x19_1 < (l2.length : Int) := of_decide_eq_true (by first | (with_reducible assumption) | assumption)
   obtain ⟨ad249, e249, hx249_0⟩ := Kd.at_int HR2.out x19_1 p249 q249
   cases e249
   replace hx249_0 := (HB.out.cell (World.block_lt_of_cell? w _ hx249_0)).trans hx249_0
   replace p249 := eq_true p249
   replace q249 := eq_true q249
   have p250 : 0 ≤ (x19_1 : Int) := of_decide_eq_true (by first | (with_reducible assumption) | assumption)
   have q250 : x19_1 < (l0.length : Int) := of_decide_eq_true (by first | (with_reducible assumption) | assumption)
   obtain ⟨ad250, A250_0, c250_0, e250, hx250_0, hl250_0, hi250_0⟩ := at_L3 HR0.out x19_1 p250 q250
   cases e250
   replace hx250_0 := (HB.out.cell (World.block_lt_of_cell? w _ hx250_0)).trans hx250_0
   have HR250_0 := Aside0.mk hi250_0
   have HC250_0 := Aside0.mk hl250_0
   clear hi250_0 hl250_0
   replace p250 := eq_true p250
   replace q250 := eq_true q250
   have p251 : 0 ≤ ((rd l2 x19_1) : Int) := of_decide_eq_true (by first | (with_reducible assumption) | assumption)
   have q251 : (rd l2 x19_1) < ((rd_L3 l0 x19_1).length : Int) := of_decide_eq_true (by first | (with_reducible assumption) | assumption)
   obtain ⟨ad251, e251, hx251_0⟩ := Kd.at_int HR250_0.out (rd l2 x19_1) p251 q251
   cases e251
   replace hx251_0 := (HB.out.cell (World.block_lt_of_cell? w _ hx251_0)).trans hx251_0
   replace p251 := eq_true p251
   replace q251 := eq_true q251
   obtain ⟨Ao23, co23, eo23⟩ := Kd.R_slice HO_7.out
   subst eo23
   have p252 : 0 ≤ ((rd l2 x19_1) : Int) := of_decide_eq_true (by first | (with_reducible assumption) | assumption)
   have q252 : (rd l2 x19_1) < (x7_1.length : Int) := of_decide_eq_true (by first | (with_reducible assumption) | assumption)
   obtain ⟨ad252, e252, hx252_0⟩ := Kd.at_int (Kd.R_reads' HO_7.out).2.2 (rd l2 x19_1) p252 q252
   cases e252
   replace p252 := eq_true p252
   replace q252 := eq_true q252
   have p22 : 0 ≤ ((rd l2 x19_1) : Int) := of_decide_eq_true (by first | (with_reducible assumption) | assumption)
   have q22 : ((rd l2 x19_1) : Int) < ((x7_1.length : Int) : Int) := of_decide_eq_true (by first | (with_reducible assumption) | assumption)
   obtain ⟨go22, co22, eo22, gb22, gl22, cl22, HG22⟩ := Kd.R_form HO_7.out (by omega)
   (first | cases eo22 | (injection eo22 with ea_ en_ ec_; (first | subst ea_ | (injection ea_ with ea_; subst ea_)); subst ec_; clear en_))
   have GB22 := Aside0.mk gb22
   have GG22 := Aside0.mk HG22
   clear gb22 gl22 HG22
   (first | simp only [add_plain] at hx252_0 | skip)
   obtain ⟨hx22_0, hf22_0⟩ := Kd.R_celln 0 HO_7.out ((rd l2 x19_1) : Int) p22 q22
   replace p22 := eq_true p22
   replace q22 := eq_true q22
   have HP24 := Kd.R_putg HO_7.out ((rd l2 x19_1) : Int) 1
   go_wp2_with (first | ((with_reducible refine gate_store (t := 3) (p := 52) rfl ?_); refine store_event (t := 3) (p := 52) (v := ?vo_w25) (w1 := (wr.setCell ⟨go22, ((rd l2 x19_1) : Int).toNat, none⟩ (.int .i64 1))) ?hg ?ho ?hn ?hr ?_; (case ho => rfl); (case hg => rfl); (case hn => rfl); (case hr => first | (go_simp; done) | (go_simp; rfl)); intro w25 hw; have hg : wr.grownBy w25 (some go22) := (by rw [hw]; exact HP24.2); have hp_ : Kd.R (Kd.int .i64) 3 w25 w.heap.size (fun _ => True) (.slice (some ⟨go22, 0, none⟩) x7_1.length co23) y253 := (by rw [hw, Ny253.out]; exact HP24.1); clear HP24; have n0_ := Aside0.mk (hp_); have n1_ := Aside0.mk ((by rw [hw]; exact below_set (HB.out) GB22.out : Below w.heap.size w w25)); clear HO_7; clear HB; have HO_7 := n0_; have HB := n1_; clear n0_ n1_; clear hg hw hp_))
   (first | go_roundg k1 | (refine Handed.intro k1 ?measure ?_; rotate_left; go_step; (repeat apply Exists.intro); (refine ⟨?rel, ?fr_⟩); (case fr_ => (simp only [add_plain]; rfl))))
   case measure => have := HK1.out; omega
   case rel => exact ⟨(y253), (wrap64 (x19_1 + 1)), (by first | rfl | (simp; done) | (simp [*]; done)), H', ⟨by have := HK1.out; omega⟩, ⟨by (with_reducible repeat (first | apply Kd.R_alloc | apply Kd.R_drewN | apply Kd.R_drew)); exact HO_7.out⟩, ⟨by repeat (first | (with_reducible first | exact HB.out | apply below_alloc | apply pw_below_drewN | apply below_drew1) | exact HB.out)⟩⟩

end Go.Proofs.Ytlaneafplmbcnaa.PO
