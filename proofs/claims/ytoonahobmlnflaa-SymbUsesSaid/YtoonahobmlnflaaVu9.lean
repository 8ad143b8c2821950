/- Texts of this claim, one behind the other (PCx76 PCx77). -/
import Derived.Test.YtoonahobmlnflaaVu5
import Derived.Test.YtoonahobmlnflaaVu8
namespace Go.Proofs.Ytoonahobmlnflaa.PC
open Go.RowKit Go.Proofs.YtoonahobmlnflaaW.PrintWords Go.Proofs.YtoonahobmlnflaaW.PrintLast Go.Proofs.YtoonahobmlnflaaW.PrintMore
attribute [local go_sem] max2_int min2_int max_two min_two max_three min_three max_four min_four   -- for this text's walks alone
set_option linter.unusedVariables false
set_option linter.unusedSimpArgs false

/-! ### orreryref14_Needed: function 9 -/
mutual
def orreryref14_Needed.l0 : Nat → List (S37) → List Int → List Int → Int → Int → Option (List Int)
  | 0, _, _, _, _, _ => none
  | k + 1, x0, x5, x13, x14, x15 => if x15 < x14 then (if 0 ≤ x15 then (if x15 < (x13.length : Int) then (if 0 ≤ (rd x13 x15) then (if (rd x13 x15) < (x5.length : Int) then (orreryref14_Needed.l0 k x0 (x5.set ((rd x13 x15) : Int).toNat 1) x13 x14 (wrap64 (x15 + 1))) else (none)) else (none)) else (none)) else (none)) else (orreryref14_Needed.l1 k x0 x5 (wrap64 ((x0.length : Int) - 1)))
def orreryref14_Needed.l1 : Nat → List (S37) → List Int → Int → Option (List Int)
  | 0, _, _, _ => none
  | k + 1, x0, x5, x8 => if x8 ≥ 0 then (if 0 ≤ x8 then (if x8 < (x0.length : Int) then ((orreryref14_Args.f k ((rd_T37 x0 x8).f0)).bind fun t348 => (if x8 < (x5.length : Int) then (if (rd x5 x8) = 1 then (orreryref14_Needed.j2 k x0 x5 x8 t348 (decide (t348 > 0))) else (orreryref14_Needed.j2 k x0 x5 x8 t348 false)) else (none))) else (none)) else (none)) else (some x5)
def orreryref14_Needed.j2 : Nat → List (S37) → List Int → Int → Int → Bool → Option (List Int)
  | 0, _, _, _, _, _ => none
  | k + 1, x0, x5, x8, x9, x44 => if x44 = true then (if 0 ≤ x8 then (if x8 < (x0.length : Int) then (if 0 ≤ ((rd_T37 x0 x8).f1) then (if ((rd_T37 x0 x8).f1) < (x5.length : Int) then ((some (x5.set (((rd_T37 x0 x8).f1) : Int).toNat 1 : List Int)).bind fun y351 => (if x8 < (x5.length : Int) then (if (rd y351 x8) = 1 then (if x9 > 1 then (if 0 ≤ ((rd_T37 x0 x8).f2) then (if ((rd_T37 x0 x8).f2) < (x5.length : Int) then (orreryref14_Needed.l1 k x0 (y351.set (((rd_T37 x0 x8).f2) : Int).toNat 1) (wrap64 (x8 - 1))) else (none)) else (none)) else (orreryref14_Needed.l1 k x0 y351 (wrap64 (x8 - 1)))) else (orreryref14_Needed.l1 k x0 y351 (wrap64 (x8 - 1)))) else (none))) else (none)) else (none)) else (none)) else (none)) else (if 0 ≤ x8 then (if x8 < (x5.length : Int) then (if (rd x5 x8) = 1 then (if x9 > 1 then (if x8 < (x0.length : Int) then (if 0 ≤ ((rd_T37 x0 x8).f2) then (if ((rd_T37 x0 x8).f2) < (x5.length : Int) then (orreryref14_Needed.l1 k x0 (x5.set (((rd_T37 x0 x8).f2) : Int).toNat 1) (wrap64 (x8 - 1))) else (none)) else (none)) else (none)) else (orreryref14_Needed.l1 k x0 x5 (wrap64 (x8 - 1)))) else (orreryref14_Needed.l1 k x0 x5 (wrap64 (x8 - 1)))) else (none)) else (none))
end
def orreryref14_Needed.f (k : Nat) (l0 : List (S37)) (l1 : List Int) : Option (List Int) := if 0 ≤ (l0.length : Int) then (if ((l0.length : Int) : Int).toNat ≤ 35184372088832 then (orreryref14_Needed.l0 k l0 (List.replicate ((l0.length : Int) : Int).toNat 0) l1 (l1.length : Int) 0) else (none)) else (none)
theorem orreryref14_Needed.mono_l : ∀ k, (∀ y0 y1 y2 y3 y4, LeO (orreryref14_Needed.l0 k y0 y1 y2 y3 y4) (orreryref14_Needed.l0 (k + 1) y0 y1 y2 y3 y4)) ∧ (∀ y0 y1 y2, LeO (orreryref14_Needed.l1 k y0 y1 y2) (orreryref14_Needed.l1 (k + 1) y0 y1 y2)) ∧ (∀ y0 y1 y2 y3 y4, LeO (orreryref14_Needed.j2 k y0 y1 y2 y3 y4) (orreryref14_Needed.j2 (k + 1) y0 y1 y2 y3 y4))
  | 0 => ⟨fun _ _ _ _ _ r h => by simp [orreryref14_Needed.l0] at h, fun _ _ _ r h => by simp [orreryref14_Needed.l1] at h, fun _ _ _ _ _ r h => by simp [orreryref14_Needed.j2] at h⟩
  | k + 1 => by
    obtain ⟨ih0, ih1, ih2⟩ := orreryref14_Needed.mono_l k
    refine ⟨?_, ?_, ?_⟩
    · intro y0 y1 y2 y3 y4
      unfold orreryref14_Needed.l0
      repeat' first
      | (with_reducible exact ih0 _ _ _ _ _)
      | (with_reducible exact ih1 _ _ _)
      | (with_reducible exact ih2 _ _ _ _ _)
      | (with_reducible exact orreryref14_Args.mono _ _)
      | (with_reducible exact LeO.refl _)
      | (with_reducible exact LeO.none _)
      | (with_reducible refine LeO.ite ?_ ?_)
      | (with_reducible refine LeO.bind ?_ (fun _ => ?_))
      | exact ih0 _ _ _ _ _
      | exact ih1 _ _ _
      | exact ih2 _ _ _ _ _
      | exact orreryref14_Args.mono _ _
      | exact LeO.none _
      | refine LeO.ite ?_ ?_
      | refine LeO.bind ?_ (fun _ => ?_)
    · intro y0 y1 y2
      unfold orreryref14_Needed.l1
      repeat' first
      | (with_reducible exact ih0 _ _ _ _ _)
      | (with_reducible exact ih1 _ _ _)
      | (with_reducible exact ih2 _ _ _ _ _)
      | (with_reducible exact orreryref14_Args.mono _ _)
      | (with_reducible exact LeO.refl _)
      | (with_reducible exact LeO.none _)
      | (with_reducible refine LeO.ite ?_ ?_)
      | (with_reducible refine LeO.bind ?_ (fun _ => ?_))
      | exact ih0 _ _ _ _ _
      | exact ih1 _ _ _
      | exact ih2 _ _ _ _ _
      | exact orreryref14_Args.mono _ _
      | exact LeO.none _
      | refine LeO.ite ?_ ?_
      | refine LeO.bind ?_ (fun _ => ?_)
    · intro y0 y1 y2 y3 y4
      unfold orreryref14_Needed.j2
      repeat' first
      | (with_reducible exact ih0 _ _ _ _ _)
      | (with_reducible exact ih1 _ _ _)
      | (with_reducible exact ih2 _ _ _ _ _)
      | (with_reducible exact orreryref14_Args.mono _ _)
      | (with_reducible exact LeO.refl _)
      | (with_reducible exact LeO.none _)
      | (with_reducible refine LeO.ite ?_ ?_)
      | (with_reducible refine LeO.bind ?_ (fun _ => ?_))
      | exact ih0 _ _ _ _ _
      | exact ih1 _ _ _
      | exact ih2 _ _ _ _ _
      | exact orreryref14_Args.mono _ _
      | exact LeO.none _
      | refine LeO.ite ?_ ?_
      | refine LeO.bind ?_ (fun _ => ?_)
theorem orreryref14_Needed.mono : ∀ a0 a1 k, LeO (orreryref14_Needed.f k a0 a1) (orreryref14_Needed.f (k + 1) a0 a1) := by
 intro a0 a1 k
 obtain ⟨ih0, ih1, ih2⟩ := orreryref14_Needed.mono_l k
 unfold orreryref14_Needed.f
 repeat' first
     | (with_reducible exact ih0 _ _ _ _ _)
     | (with_reducible exact ih1 _ _ _)
     | (with_reducible exact ih2 _ _ _ _ _)
     | (with_reducible exact orreryref14_Args.mono _ _)
     | (with_reducible exact LeO.refl _)
     | (with_reducible exact LeO.none _)
     | (with_reducible refine LeO.ite ?_ ?_)
     | (with_reducible refine LeO.bind ?_ (fun _ => ?_))
     | exact ih0 _ _ _ _ _
     | exact ih1 _ _ _
     | exact ih2 _ _ _ _ _
     | exact orreryref14_Args.mono _ _
     | exact LeO.none _
     | refine LeO.ite ?_ ?_
     | refine LeO.bind ?_ (fun _ => ?_)
set_option maxHeartbeats 8000000 in
set_option maxRecDepth 100000 in
theorem orreryref14_Needed.calls (k : Nat) (A0 : Option Addr) (c0 : Nat) (l0 : List (S37)) (A1 : Option Addr) (c1 : Nat) (l1 : List Int) (r : List Int) (w : World) (hr0 : Kd.C k37 w A0 l0.length l0) (hc0 : l0.length ≤ c0) (hr1 : Kd.C (Kd.int .i64) w A1 l1.length l1) (hc1 : l1.length ≤ c1) (h : orreryref14_Needed.f k l0 l1 = some r) :
    Calls Try.prog 9 #[.slice A0 l0.length c0, .slice A1 l1.length c1] w fun e w' => ∃ v0_ : Value, e = .returned (v0_) ∧ Kd.R (Kd.int .i64) 3 w' w.heap.size (fun _ => True) v0_ r ∧ Below w.heap.size w w' := by
 have HR0 := Aside0.mk hr0
 have HC0 := Aside0.mk hc0
 clear hr0 hc0
 have HR1 := Aside0.mk hr1
 have HC1 := Aside0.mk hc1
 clear hr1 hc1
 have HB := Aside0.mk (Below.refl w.heap.size w)
 have H : (if 0 ≤ (l0.length : Int) then (if ((l0.length : Int) : Int).toNat ≤ 35184372088832 then (orreryref14_Needed.l0 k l0 (List.replicate ((l0.length : Int) : Int).toNat 0) l1 (l1.length : Int) 0) else (none)) else (none)) = some r := h
 clear h
 by_cases c3 : 0 ≤ (l0.length : Int)
 case neg => rw [if_neg c3] at H; exact absurd H (by simp)
 rw [if_pos c3] at H
 have c3b0 := eq_true c3
 have c3b1 : decide (0 ≤ (l0.length : Int)) = true := decide_eq_true c3
 clear c3
 by_cases c4 : ((l0.length : Int) : Int).toNat ≤ 35184372088832
 case neg => rw [if_neg c4] at H; exact absurd H (by simp)
 rw [if_pos c4] at H
 have c4b0 := eq_true c4
 have c4b1 : decide (((l0.length : Int) : Int).toNat ≤ 35184372088832) = true := decide_eq_true c4
 clear c4
 obtain ⟨y342, hy342⟩ : ∃ y_ : List Int, y_ = (List.replicate ((l0.length : Int) : Int).toNat 0) := ⟨_, rfl⟩
 replace H : (orreryref14_Needed.l0 k l0 y342 l1 (l1.length : Int) 0) = some r := by first | (rw [hy342]; with_reducible exact H) | (have H2_ := (Option.bind_some _ _).symm.trans H; rw [hy342]; with_reducible exact H2_) | (have H2_ := (Option.bind_some _ _).symm.trans H; with_reducible exact H2_) | with_reducible exact H | (rw [hy342]; exact H) | exact H
 have Ny342 := Aside0.mk hy342
 clear hy342
 have H' := Aside0.mk H
 clear H
 go_enter Try.func9, Try.ntmps9
 go_wp2_with (first | ((with_reducible refine gate_dst (N := 12) rfl ?_); refine Kd.R_make (Kd.int .i64) _ 3 rfl (N := 12) rfl 23 _ _ rfl (l0.length : Int) rfl rfl Try.underlying23 (.int .i64 0) 8 info3 rfl (by decide) (by omega) 0 (ok := fun _ => True) (okp := fun _ => True) rfl (fun _ hk => hk) trivial (of_decide_eq_true (by first | (with_reducible assumption) | assumption)) (Nat.le_trans (Nat.mul_le_mul_right _ (of_decide_eq_true (by first | (with_reducible assumption) | assumption) : (l0.length : Int).toNat ≤ 35184372088832)) (by omega)) (Below.refl _ _) (Nat.le_refl _) ?_; intro v343 w5 ho6 hb hg_ hnew_; clear hg_ hnew_; (first | rw [← Ny342.out] at ho6 | (simp only [Int.reduceToNat] at ho6; rw [← Ny342.out] at ho6)); have n0_ := Aside0.mk (Kd.R_lower ho6 (below_size (by repeat (first | (with_reducible first | exact HB.out | apply below_alloc | apply pw_below_drewN | apply below_drew1) | exact HB.out)))); have n1_ := Aside0.mk (below_step (by repeat (first | (with_reducible first | exact HB.out | apply below_alloc | apply pw_below_drewN | apply below_drew1) | exact HB.out)) hb); clear HB; have HO344 := n0_; have HB := n1_; clear n0_ n1_; clear hb ho6))
 go_loopg [15] k (fun kq v15 w' => ∃ (x5_1 : List Int) (x15_1 : Int), v15 = .int .i64 x15_1 ∧ Aside0 (orreryref14_Needed.l0 kq l0 x5_1 l1 (l1.length : Int) x15_1 = some r) ∧ Aside0 (kq ≤ k) ∧ Aside0 (Kd.R (Kd.int .i64) 3 w' w.heap.size (fun _ => True) v343 x5_1) ∧ Aside0 (Below w.heap.size w w'))
 case atStart => exact ⟨(y342), (0), (by first | rfl | (simp; done) | (simp [*]; done)), H', ⟨Nat.le_refl _⟩, ⟨by (with_reducible repeat (first | apply Kd.R_alloc | apply Kd.R_drewN | apply Kd.R_drew)); exact HO344.out⟩, ⟨by repeat (first | (with_reducible first | exact HB.out | apply below_alloc | apply pw_below_drewN | apply below_drew1) | exact HB.out)⟩⟩
 case round =>
  clear H'
  try clear c1
  try clear p2
  try clear c3
  try clear c3b0
  try clear c3b1
  try clear c4
  try clear c4b0
  try clear c4b1
  obtain ⟨x5_1, x15_1, rfl, HA, HK1, HO_5, HB⟩ := hrel
  cases gk with
  | zero => exact absurd HA.out (by simp [orreryref14_Needed.l0])
  | succ k1 =>
   have H := HA.out
   clear HA
   simp only [orreryref14_Needed.l0] at H
   by_cases c7 : x15_1 < (l1.length : Int)
   case pos =>
    rw [if_pos c7] at H
    have c7b0 : decide (x15_1 < (l1.length : Int)) = true := decide_eq_true c7
    clear c7
    by_cases c8 : 0 ≤ x15_1
    case neg => rw [if_neg c8] at H; exact absurd H (by simp)
    rw [if_pos c8] at H
    have c8b0 : decide (0 ≤ x15_1) = true := decide_eq_true c8
    clear c8
    by_cases c9 : x15_1 < (l1.length : Int)
    case neg => rw [if_neg c9] at H; exact absurd H (by simp)
    rw [if_pos c9] at H
    have c9b0 : decide (x15_1 < (l1.length : Int)) = true := decide_eq_true c9
    clear c9
    by_cases c10 : 0 ≤ (rd l1 x15_1)
    case neg => rw [if_neg c10] at H; exact absurd H (by simp)
    rw [if_pos c10] at H
    have c10b0 : decide (0 ≤ (rd l1 x15_1)) = true := decide_eq_true c10
    clear c10
    by_cases c11 : (rd l1 x15_1) < (x5_1.length : Int)
    case neg => rw [if_neg c11] at H; exact absurd H (by simp)
    rw [if_pos c11] at H
    have c11b0 : decide ((rd l1 x15_1) < (x5_1.length : Int)) = true := decide_eq_true c11
    clear c11
    obtain ⟨y346, hy346⟩ : ∃ y_ : List Int, y_ = (x5_1.set ((rd l1 x15_1) : Int).toNat 1) := ⟨_, rfl⟩
    replace H : (orreryref14_Needed.l0 k1 l0 y346 l1 (l1.length : Int) (wrap64 (x15_1 + 1))) = some r := by first | (rw [hy346]; with_reducible exact H) | (have H2_ := (Option.bind_some _ _).symm.trans H; rw [hy346]; with_reducible exact H2_) | (have H2_ := (Option.bind_some _ _).symm.trans H; with_reducible exact H2_) | with_reducible exact H | (rw [hy346]; exact H) | exact H
    have Ny346 := Aside0.mk hy346
    clear hy346
    have H' := Aside0.mk H
    clear H
    have p345 : 0 ≤ (x15_1 : Int) := of_decide_eq_true (by first | (with_reducible assumption) | assumption)
    have q345 : x15_1 < (l1.length : Int) := of_decide_eq_true (by first | (with_reducible assumption) | assumption)
    obtain ⟨ad345, e345, hx345_0⟩ := Kd.at_int HR1.out x15_1 p345 q345
    cases e345
    replace hx345_0 := (HB.out.cell (World.block_lt_of_cell? w _ hx345_0)).trans hx345_0
    replace p345 := eq_true p345
    replace q345 := eq_true q345
    have p12 : 0 ≤ ((rd l1 x15_1) : Int) := of_decide_eq_true (by first | (with_reducible assumption) | assumption)
    have q12 : ((rd l1 x15_1) : Int) < ((x5_1.length : Int) : Int) := of_decide_eq_true (by first | (with_reducible assumption) | assumption)
    obtain ⟨go12, co12, eo12, gb12, gl12, cl12, HG12⟩ := Kd.R_form HO_5.out (by omega)
    (first | cases eo12 | (injection eo12 with ea_ en_ ec_; (first | subst ea_ | (injection ea_ with ea_; subst ea_)); subst ec_; clear en_))
    have GB12 := Aside0.mk gb12
    have GG12 := Aside0.mk HG12
    clear gb12 gl12 HG12
    obtain ⟨hx12_0, hf12_0⟩ := Kd.R_celln 0 HO_5.out ((rd l1 x15_1) : Int) p12 q12
    replace p12 := eq_true p12
    replace q12 := eq_true q12
    have HP13 := Kd.R_putg HO_5.out ((rd l1 x15_1) : Int) 1
    go_wp2_with (first | ((with_reducible refine gate_store (t := 3) (p := 21) rfl ?_); refine store_event (t := 3) (p := 21) (v := ?vo_w14) (w1 := (wr.setCell ⟨go12, ((rd l1 x15_1) : Int).toNat, none⟩ (.int .i64 1))) ?hg ?ho ?hn ?hr ?_; (case ho => rfl); (case hg => rfl); (case hn => rfl); (case hr => first | (go_simp; done) | (go_simp; rfl)); intro w14 hw; have hg : wr.grownBy w14 (some go12) := (by rw [hw]; exact HP13.2); have hp_ : Kd.R (Kd.int .i64) 3 w14 w.heap.size (fun _ => True) (.slice (some ⟨go12, 0, none⟩) x5_1.length co12) y346 := (by rw [hw, Ny346.out]; exact HP13.1); clear HP13; have n0_ := Aside0.mk (hp_); have n1_ := Aside0.mk ((by rw [hw]; exact below_set (HB.out) GB12.out : Below w.heap.size w w14)); clear HO_5; clear HB; have HO_5 := n0_; have HB := n1_; clear n0_ n1_; clear hg hw hp_))
    (first | go_roundg k1 | (refine Handed.intro k1 ?measure ?_; rotate_left; go_step; (repeat apply Exists.intro); (refine ⟨?rel, ?fr_⟩); (case fr_ => (simp only [add_plain]; rfl))))
    case measure => have := HK1.out; omega
    case rel => exact ⟨(y346), (wrap64 (x15_1 + 1)), (by first | rfl | (simp; done) | (simp [*]; done)), H', ⟨by have := HK1.out; omega⟩, ⟨by (with_reducible repeat (first | apply Kd.R_alloc | apply Kd.R_drewN | apply Kd.R_drew)); exact HO_5.out⟩, ⟨by repeat (first | (with_reducible first | exact HB.out | apply below_alloc | apply pw_below_drewN | apply below_drew1) | exact HB.out)⟩⟩
   rw [if_neg c7] at H
   have c7b0 : decide (x15_1 < (l1.length : Int)) = false := decide_eq_false c7
   clear c7
   have H' := Aside0.mk H
   clear H
   go_wp2
   go_loopg [8] k1 (fun kq v8 w' => ∃ (x5_2 : List Int) (x8_2 : Int), v8 = .int .i64 x8_2 ∧ Aside0 (orreryref14_Needed.l1 kq l0 x5_2 x8_2 = some r) ∧ Aside0 (kq ≤ k1) ∧ Aside0 (Kd.R (Kd.int .i64) 3 w' w.heap.size (fun _ => True) v343 x5_2) ∧ Aside0 (Below w.heap.size w w'))
   case atStart => exact ⟨(x5_1), (wrap64 ((l0.length : Int) - 1)), (by first | rfl | (simp; done) | (simp [*]; done)), H', ⟨Nat.le_refl _⟩, ⟨by (with_reducible repeat (first | apply Kd.R_alloc | apply Kd.R_drewN | apply Kd.R_drew)); exact HO_5.out⟩, ⟨by repeat (first | (with_reducible first | exact HB.out | apply below_alloc | apply pw_below_drewN | apply below_drew1) | exact HB.out)⟩⟩
   case round =>
    clear H'
    try clear c1
    try clear p1
    try clear q1
    try clear hx1
    try clear p2
    try clear c3
    try clear c3b0
    try clear c3b1
    try clear p3
    try clear q3
    try clear hx3
    try clear c4
    try clear c4b0
    try clear c4b1
    try clear p6
    try clear c7
    try clear c7b0
    try clear c8
    try clear c8b0
    try clear c9
    try clear c9b0
    try clear c10
    try clear c10b0
    try clear c11
    try clear c11b0
    try clear p12
    try clear q12
    try clear hx12
    try clear hf12
    try clear hx12_0
    try clear hx345_0
    try clear p12
    try clear p2
    try clear p345
    try clear q12
    try clear q345
    obtain ⟨x5_2, x8_2, rfl, HA, HK2, HO_5, HB⟩ := hrel
    cases gk with
    | zero => exact absurd HA.out (by simp [orreryref14_Needed.l1])
    | succ k2 =>
     have H := HA.out
     clear HA
     simp only [orreryref14_Needed.l1] at H
     by_cases c15 : x8_2 ≥ 0
     case neg =>
      rw [if_neg c15] at H
      have c15b0 : decide (0 ≤ x8_2) = false := decide_eq_false c15
      clear c15
      obtain rfl := Option.some.inj H
      go_wp2
      go_ret
      exact ⟨_, by first | rfl | (simp [errW_none, errW_some] <;> rfl) | (simp [*, errW_none, errW_some] <;> rfl), by (with_reducible repeat (first | apply Kd.R_alloc | apply Kd.R_drewN | apply Kd.R_drew)); exact HO_5.out, by repeat (first | (with_reducible first | exact HB.out | apply below_alloc | apply pw_below_drewN | apply below_drew1) | exact HB.out)⟩
     rw [if_pos c15] at H
     have c15b0 : decide (0 ≤ x8_2) = true := decide_eq_true c15
     clear c15
     by_cases c16 : 0 ≤ x8_2
     case neg => rw [if_neg c16] at H; exact absurd H (by simp)
     rw [if_pos c16] at H
     have c16b0 : decide (0 ≤ x8_2) = true := decide_eq_true c16
     clear c16
     by_cases c17 : x8_2 < (l0.length : Int)
     case neg => rw [if_neg c17] at H; exact absurd H (by simp)
     rw [if_pos c17] at H
     have c17b0 : decide (x8_2 < (l0.length : Int)) = true := decide_eq_true c17
     clear c17
     replace H := Option.bind_eq_some_iff.mp H
     obtain ⟨t348, A180, H⟩ := H
     replace H : (if x8_2 < (x5_2.length : Int) then (if (rd x5_2 x8_2) = 1 then (orreryref14_Needed.j2 k2 l0 x5_2 x8_2 t348 (decide (t348 > 0))) else (orreryref14_Needed.j2 k2 l0 x5_2 x8_2 t348 false)) else (none)) = some r := H
     have A18 := Aside0.mk A180
     clear A180
     have HC19 := Aside0.mk H
     clear H
     have p347 : 0 ≤ (x8_2 : Int) := of_decide_eq_true (by first | (with_reducible assumption) | assumption)
     have q347 : x8_2 < (l0.length : Int) := of_decide_eq_true (by first | (with_reducible assumption) | assumption)
     obtain ⟨ad347, e347, hx347_0, hx347_1, hx347_2, hx347_3, hx347_4, hx347_5, hx347_6, hx347_7, hx347_8, hx347_9, hx347_10, hx347_11, hx347_12, hx347_13, hx347_14, hx347_15, hx347_16, hx347_17, hx347_18, hx347_19, hx347_20, hx347_21⟩ := at_T37 HR0.out x8_2 p347 q347
     cases e347
     replace hx347_0 := (HB.out.cell (World.block_lt_of_cell? w _ hx347_0)).trans hx347_0
     replace hx347_1 := (HB.out.cell (World.block_lt_of_cell? w _ hx347_1)).trans hx347_1
     replace hx347_2 := (HB.out.cell (World.block_lt_of_cell? w _ hx347_2)).trans hx347_2
     replace hx347_3 := (HB.out.cell (World.block_lt_of_cell? w _ hx347_3)).trans hx347_3
     replace hx347_4 := (HB.out.cell (World.block_lt_of_cell? w _ hx347_4)).trans hx347_4
     replace hx347_5 := (HB.out.cell (World.block_lt_of_cell? w _ hx347_5)).trans hx347_5
     replace hx347_6 := (HB.out.cell (World.block_lt_of_cell? w _ hx347_6)).trans hx347_6
     replace hx347_7 := (HB.out.cell (World.block_lt_of_cell? w _ hx347_7)).trans hx347_7
     replace hx347_8 := (HB.out.cell (World.block_lt_of_cell? w _ hx347_8)).trans hx347_8
     replace hx347_9 := (HB.out.cell (World.block_lt_of_cell? w _ hx347_9)).trans hx347_9
     replace hx347_10 := (HB.out.cell (World.block_lt_of_cell? w _ hx347_10)).trans hx347_10
     replace hx347_11 := (HB.out.cell (World.block_lt_of_cell? w _ hx347_11)).trans hx347_11
     replace hx347_12 := (HB.out.cell (World.block_lt_of_cell? w _ hx347_12)).trans hx347_12
     replace hx347_13 := (HB.out.cell (World.block_lt_of_cell? w _ hx347_13)).trans hx347_13
     replace hx347_14 := (HB.out.cell (World.block_lt_of_cell? w _ hx347_14)).trans hx347_14
     replace hx347_15 := (HB.out.cell (World.block_lt_of_cell? w _ hx347_15)).trans hx347_15
     replace hx347_16 := (HB.out.cell (World.block_lt_of_cell? w _ hx347_16)).trans hx347_16
     replace hx347_17 := (HB.out.cell (World.block_lt_of_cell? w _ hx347_17)).trans hx347_17
     replace hx347_18 := (HB.out.cell (World.block_lt_of_cell? w _ hx347_18)).trans hx347_18
     replace hx347_19 := (HB.out.cell (World.block_lt_of_cell? w _ hx347_19)).trans hx347_19
     replace hx347_20 := (HB.out.cell (World.block_lt_of_cell? w _ hx347_20)).trans hx347_20
     replace hx347_21 := (HB.out.cell (World.block_lt_of_cell? w _ hx347_21)).trans hx347_21
     replace p347 := eq_true p347
     replace q347 := eq_true q347
     go_upto_region 11 with (first | ((with_reducible refine gate_callee (f := 24) rfl ?_); refine goesL_ (some 35) rfl rfl Try.func24 (by kernel_rfl) rfl #[.int .i64 ((rd_T37 l0 x8_2).f0)] rfl (by (try simp only [List.map_toArray, List.map_cons, List.map_nil]); first | done | rfl | (simp only [List.length_drop, List.length_take]; rfl)) ?_; (with_reducible refine (orreryref14_Args.calls k2 ((rd_T37 l0 x8_2).f0) t348 _ A18.out).mono ?_); rintro e w' ⟨rfl, ⟨nd, rfl⟩⟩; refine ⟨_, rfl, ?_⟩))
     (try simp only [Act.put, List.setIfInBounds_toArray, List.set_cons_zero, List.set_cons_succ])
     go_cut [44] (fun v44 wc => ∃ (kq : Nat) (x44_18 : Bool), v44 = .bool x44_18 ∧ Aside0 (orreryref14_Needed.j2 kq l0 x5_2 x8_2 t348 x44_18 = some r) ∧ Aside0 (kq ≤ k2) ∧ Aside0 (Kd.R (Kd.int .i64) 3 wc w.heap.size (fun _ => True) v343 x5_2) ∧ Aside0 (Below w.heap.size w wc))
     case first =>
      have H := HC19.out
      clear HC19
      by_cases c20 : x8_2 < (x5_2.length : Int)
      case neg => rw [if_neg c20] at H; exact absurd H (by simp)
      rw [if_pos c20] at H
      have c20b0 : decide (x8_2 < (x5_2.length : Int)) = true := decide_eq_true c20
      clear c20
      (first | rw [c20b0] | (simp only [i64_w, i32_w]; rw [c20b0]) | skip)
      by_cases c21 : (rd x5_2 x8_2) = 1
      case neg =>
       rw [if_neg c21] at H
       have c21b0 : ((rd x5_2 x8_2) == 1) = false := beq_eq_false_iff_ne.mpr c21
       have c21b1 : ((rd x5_2 x8_2) != 1) = true := bne_iff_ne.mpr c21
       have H' := Aside0.mk H
       clear H
       obtain ⟨Ao23, co23, eo23⟩ := Kd.R_slice HO_5.out
       subst eo23
       have p349 : 0 ≤ (x8_2 : Int) := of_decide_eq_true (by first | (with_reducible assumption) | assumption)
       have q349 : x8_2 < (x5_2.length : Int) := of_decide_eq_true (by first | (with_reducible assumption) | assumption)
       obtain ⟨ad349, e349, hx349_0⟩ := Kd.at_int (Kd.R_reads' HO_5.out).2.2 x8_2 p349 q349
       cases e349
       replace p349 := eq_true p349
       replace q349 := eq_true q349
       go_wp2
       go_meet
       case rel => exact ⟨_, (false), (by first | rfl | (simp; done) | (simp [*]; done)), H', ⟨by have := HK1.out; have := HK2.out; first | omega | exact Nat.le_refl _⟩, ⟨by (with_reducible repeat (first | apply Kd.R_alloc | apply Kd.R_drewN | apply Kd.R_drew)); exact HO_5.out⟩, ⟨by repeat (first | (with_reducible first | exact HB.out | apply below_alloc | apply pw_below_drewN | apply below_drew1) | exact HB.out)⟩⟩
      rw [if_pos c21] at H
      have c21b0 : ((rd x5_2 x8_2) == 1) = true := beq_iff_eq.mpr c21
      have c21b1 : ((rd x5_2 x8_2) != 1) = false := bne_eq_false_iff_eq.mpr c21
      clear c21
      have H' := Aside0.mk H
      clear H
      obtain ⟨Ao22, co22, eo22⟩ := Kd.R_slice HO_5.out
      subst eo22
      have p349 : 0 ≤ (x8_2 : Int) := of_decide_eq_true (by first | (with_reducible assumption) | assumption)
      have q349 : x8_2 < (x5_2.length : Int) := of_decide_eq_true (by first | (with_reducible assumption) | assumption)
      obtain ⟨ad349, e349, hx349_0⟩ := Kd.at_int (Kd.R_reads' HO_5.out).2.2 x8_2 p349 q349
      cases e349
      replace p349 := eq_true p349
      replace q349 := eq_true q349
      go_wp2
      go_meet
      case rel => exact ⟨_, (decide (t348 > 0)), (by first | rfl | (simp; done) | (simp [*]; done)), H', ⟨by have := HK1.out; have := HK2.out; first | omega | exact Nat.le_refl _⟩, ⟨by (with_reducible repeat (first | apply Kd.R_alloc | apply Kd.R_drewN | apply Kd.R_drew)); exact HO_5.out⟩, ⟨by repeat (first | (with_reducible first | exact HB.out | apply below_alloc | apply pw_below_drewN | apply below_drew1) | exact HB.out)⟩⟩
     case rest =>
      clear HC19
      try clear c1
      try clear p1
      try clear q1
      try clear hx1
      try clear c2
      try clear p2
      try clear c3
      try clear c3b0
      try clear c3b1
      try clear p3
      try clear q3
      try clear hx3
      try clear c4
      try clear c4b0
      try clear c4b1
      try clear p6
      try clear c7
      try clear c7b0
      try clear c8
      try clear c8b0
      try clear c9
      try clear c9b0
      try clear c10
      try clear c10b0
      try clear c11
      try clear c11b0
      try clear p12
      try clear q12
      try clear hx12
      try clear hf12
      try clear c15
      try clear c15b0
      try clear c16
      try clear c16b0
      try clear c17
      try clear c17b0
      try clear c20
      try clear c20b0
      try clear c21
      try clear c21b0
      try clear c21b1
      try clear hx12_0
      try clear hx345_0
      try clear hx347_0
      try clear hx347_1
      try clear hx347_10
      try clear hx347_11
      try clear hx347_12
      try clear hx347_13
      try clear hx347_14
      try clear hx347_15
      try clear hx347_16
      try clear hx347_17
      try clear hx347_18
      try clear hx347_19
      try clear hx347_2
      try clear hx347_20
      try clear hx347_21
      try clear hx347_3
      try clear hx347_4
      try clear hx347_5
      try clear hx347_6
      try clear hx347_7
      try clear hx347_8
      try clear hx347_9
      try clear hx349_0
      try clear p1
      try clear p12
      try clear p2
      try clear p3
      try clear p345
      try clear p347
      try clear p349
      try clear p6
      try clear q1
      try clear q12
      try clear q3
      try clear q345
      try clear q347
      try clear q349
      obtain ⟨kq, x44_18, rfl, HA, HJ18, HO_5, HB⟩ := hcut
      cases kq with
      | zero => exact absurd HA.out (by simp [orreryref14_Needed.j2])
      | succ kj18 =>
       have H := HA.out
       clear HA
       simp only [orreryref14_Needed.j2] at H
       by_cases c24 : x44_18 = true
       case neg =>
        replace c24 := Bool.eq_false_iff.mpr c24
        subst c24
        have H1 : (if 0 ≤ x8_2 then (if x8_2 < (x5_2.length : Int) then (if (rd x5_2 x8_2) = 1 then (if t348 > 1 then (if x8_2 < (l0.length : Int) then (if 0 ≤ ((rd_T37 l0 x8_2).f2) then (if ((rd_T37 l0 x8_2).f2) < (x5_2.length : Int) then (orreryref14_Needed.l1 kj18 l0 (x5_2.set (((rd_T37 l0 x8_2).f2) : Int).toNat 1) (wrap64 (x8_2 - 1))) else (none)) else (none)) else (none)) else (orreryref14_Needed.l1 kj18 l0 x5_2 (wrap64 (x8_2 - 1)))) else (orreryref14_Needed.l1 kj18 l0 x5_2 (wrap64 (x8_2 - 1)))) else (none)) else (none)) = some r := by rw [if_neg (show ¬ (false = true) by decide)] at H; exact H
        clear H
        have H := H1
        clear H1
        by_cases c44 : 0 ≤ x8_2
        case neg => rw [if_neg c44] at H; exact absurd H (by simp)
        rw [if_pos c44] at H
        have c44b0 : decide (0 ≤ x8_2) = true := decide_eq_true c44
        clear c44
        by_cases c45 : x8_2 < (x5_2.length : Int)
        case neg => rw [if_neg c45] at H; exact absurd H (by simp)
        rw [if_pos c45] at H
        have c45b0 : decide (x8_2 < (x5_2.length : Int)) = true := decide_eq_true c45
        clear c45
        by_cases c46 : (rd x5_2 x8_2) = 1
        case neg =>
         rw [if_neg c46] at H
         have c46b0 : ((rd x5_2 x8_2) == 1) = false := beq_eq_false_iff_ne.mpr c46
         have c46b1 : ((rd x5_2 x8_2) != 1) = true := bne_iff_ne.mpr c46
         have H' := Aside0.mk H
         clear H
         obtain ⟨Ao56, co56, eo56⟩ := Kd.R_slice HO_5.out
         subst eo56
         have p355 : 0 ≤ (x8_2 : Int) := of_decide_eq_true (by first | (with_reducible assumption) | assumption)
         have q355 : x8_2 < (x5_2.length : Int) := of_decide_eq_true (by first | (with_reducible assumption) | assumption)
         obtain ⟨ad355, e355, hx355_0⟩ := Kd.at_int (Kd.R_reads' HO_5.out).2.2 x8_2 p355 q355
         cases e355
         replace p355 := eq_true p355
         replace q355 := eq_true q355
         go_wp2
         (first | go_roundg kj18 | (refine Handed.intro kj18 ?measure ?_; rotate_left; go_step; (repeat apply Exists.intro); (refine ⟨?rel, ?fr_⟩); (case fr_ => (simp only [add_plain]; rfl))))
         case measure => have := HK1.out; have := HK2.out; have := HJ18.out; omega
         case rel => exact ⟨(x5_2), (wrap64 (x8_2 - 1)), (by first | rfl | (simp; done) | (simp [*]; done)), H', ⟨by have := HK1.out; have := HK2.out; have := HJ18.out; omega⟩, ⟨by (with_reducible repeat (first | apply Kd.R_alloc | apply Kd.R_drewN | apply Kd.R_drew)); exact HO_5.out⟩, ⟨by repeat (first | (with_reducible first | exact HB.out | apply below_alloc | apply pw_below_drewN | apply below_drew1) | exact HB.out)⟩⟩
        rw [if_pos c46] at H
        have c46b0 : ((rd x5_2 x8_2) == 1) = true := beq_iff_eq.mpr c46
        have c46b1 : ((rd x5_2 x8_2) != 1) = false := bne_eq_false_iff_eq.mpr c46
        clear c46
        by_cases c47 : t348 > 1
        case neg =>
         rw [if_neg c47] at H
         have c47b0 : decide (1 < t348) = false := decide_eq_false c47
         clear c47
         have H' := Aside0.mk H
         clear H
         obtain ⟨Ao55, co55, eo55⟩ := Kd.R_slice HO_5.out
         subst eo55
         have p355 : 0 ≤ (x8_2 : Int) := of_decide_eq_true (by first | (with_reducible assumption) | assumption)
         have q355 : x8_2 < (x5_2.length : Int) := of_decide_eq_true (by first | (with_reducible assumption) | assumption)
         obtain ⟨ad355, e355, hx355_0⟩ := Kd.at_int (Kd.R_reads' HO_5.out).2.2 x8_2 p355 q355
         cases e355
         replace p355 := eq_true p355
         replace q355 := eq_true q355
         go_wp2
         (first | go_roundg kj18 | (refine Handed.intro kj18 ?measure ?_; rotate_left; go_step; (repeat apply Exists.intro); (refine ⟨?rel, ?fr_⟩); (case fr_ => (simp only [add_plain]; rfl))))
         case measure => have := HK1.out; have := HK2.out; have := HJ18.out; omega
         case rel => exact ⟨(x5_2), (wrap64 (x8_2 - 1)), (by first | rfl | (simp; done) | (simp [*]; done)), H', ⟨by have := HK1.out; have := HK2.out; have := HJ18.out; omega⟩, ⟨by (with_reducible repeat (first | apply Kd.R_alloc | apply Kd.R_drewN | apply Kd.R_drew)); exact HO_5.out⟩, ⟨by repeat (first | (with_reducible first | exact HB.out | apply below_alloc | apply pw_below_drewN | apply below_drew1) | exact HB.out)⟩⟩
        rw [if_pos c47] at H
        have c47b0 : decide (1 < t348) = true := decide_eq_true c47
        clear c47
        by_cases c48 : x8_2 < (l0.length : Int)
        case neg => rw [if_neg c48] at H; exact absurd H (by simp)
        rw [if_pos c48] at H
        have c48b0 : decide (x8_2 < (l0.length : Int)) = true := decide_eq_true c48
        clear c48
        by_cases c49 : 0 ≤ ((rd_T37 l0 x8_2).f2)
        case neg => rw [if_neg c49] at H; exact absurd H (by simp)
        rw [if_pos c49] at H
        have c49b0 : decide (0 ≤ ((rd_T37 l0 x8_2).f2)) = true := decide_eq_true c49
        clear c49
        by_cases c50 : ((rd_T37 l0 x8_2).f2) < (x5_2.length : Int)
        case neg => rw [if_neg c50] at H; exact absurd H (by simp)
        rw [if_pos c50] at H
        have c50b0 : decide (((rd_T37 l0 x8_2).f2) < (x5_2.length : Int)) = true := decide_eq_true c50
        clear c50
        obtain ⟨y357, hy357⟩ : ∃ y_ : List Int, y_ = (x5_2.set (((rd_T37 l0 x8_2).f2) : Int).toNat 1) := ⟨_, rfl⟩
        replace H : (orreryref14_Needed.l1 kj18 l0 y357 (wrap64 (x8_2 - 1))) = some r := by first | (rw [hy357]; with_reducible exact H) | (have H2_ := (Option.bind_some _ _).symm.trans H; rw [hy357]; with_reducible exact H2_) | (have H2_ := (Option.bind_some _ _).symm.trans H; with_reducible exact H2_) | with_reducible exact H | (rw [hy357]; exact H) | exact H
        have Ny357 := Aside0.mk hy357
        clear hy357
        have H' := Aside0.mk H
        clear H
        obtain ⟨Ao52, co52, eo52⟩ := Kd.R_slice HO_5.out
        subst eo52
        have p355 : 0 ≤ (x8_2 : Int) := of_decide_eq_true (by first | (with_reducible assumption) | assumption)
        have q355 : x8_2 < (x5_2.length : Int) := of_decide_eq_true (by first | (with_reducible assumption) | assumption)
        obtain ⟨ad355, e355, hx355_0⟩ := Kd.at_int (Kd.R_reads' HO_5.out).2.2 x8_2 p355 q355
        cases e355
        replace p355 := eq_true p355
        replace q355 := eq_true q355
        have p356 : 0 ≤ (x8_2 : Int) := of_decide_eq_true (by first | (with_reducible assumption) | assumption)
        have q356 : x8_2 < (l0.length : Int) := of_decide_eq_true (by first | (with_reducible assumption) | assumption)
        obtain ⟨ad356, e356, hx356_0, hx356_1, hx356_2, hx356_3, hx356_4, hx356_5, hx356_6, hx356_7, hx356_8, hx356_9, hx356_10, hx356_11, hx356_12, hx356_13, hx356_14, hx356_15, hx356_16, hx356_17, hx356_18, hx356_19, hx356_20, hx356_21⟩ := at_T37 HR0.out x8_2 p356 q356
        obtain rfl : ad347 = ad356 := (by injection e356)
        replace hx356_0 := (HB.out.cell (World.block_lt_of_cell? w _ hx356_0)).trans hx356_0
        replace hx356_1 := (HB.out.cell (World.block_lt_of_cell? w _ hx356_1)).trans hx356_1
        replace hx356_2 := (HB.out.cell (World.block_lt_of_cell? w _ hx356_2)).trans hx356_2
        replace hx356_3 := (HB.out.cell (World.block_lt_of_cell? w _ hx356_3)).trans hx356_3
        replace hx356_4 := (HB.out.cell (World.block_lt_of_cell? w _ hx356_4)).trans hx356_4
        replace hx356_5 := (HB.out.cell (World.block_lt_of_cell? w _ hx356_5)).trans hx356_5
        replace hx356_6 := (HB.out.cell (World.block_lt_of_cell? w _ hx356_6)).trans hx356_6
        replace hx356_7 := (HB.out.cell (World.block_lt_of_cell? w _ hx356_7)).trans hx356_7
        replace hx356_8 := (HB.out.cell (World.block_lt_of_cell? w _ hx356_8)).trans hx356_8
        replace hx356_9 := (HB.out.cell (World.block_lt_of_cell? w _ hx356_9)).trans hx356_9
        replace hx356_10 := (HB.out.cell (World.block_lt_of_cell? w _ hx356_10)).trans hx356_10
        replace hx356_11 := (HB.out.cell (World.block_lt_of_cell? w _ hx356_11)).trans hx356_11
        replace hx356_12 := (HB.out.cell (World.block_lt_of_cell? w _ hx356_12)).trans hx356_12
        replace hx356_13 := (HB.out.cell (World.block_lt_of_cell? w _ hx356_13)).trans hx356_13
        replace hx356_14 := (HB.out.cell (World.block_lt_of_cell? w _ hx356_14)).trans hx356_14
        replace hx356_15 := (HB.out.cell (World.block_lt_of_cell? w _ hx356_15)).trans hx356_15
        replace hx356_16 := (HB.out.cell (World.block_lt_of_cell? w _ hx356_16)).trans hx356_16
        replace hx356_17 := (HB.out.cell (World.block_lt_of_cell? w _ hx356_17)).trans hx356_17
        replace hx356_18 := (HB.out.cell (World.block_lt_of_cell? w _ hx356_18)).trans hx356_18
        replace hx356_19 := (HB.out.cell (World.block_lt_of_cell? w _ hx356_19)).trans hx356_19
        replace hx356_20 := (HB.out.cell (World.block_lt_of_cell? w _ hx356_20)).trans hx356_20
        replace hx356_21 := (HB.out.cell (World.block_lt_of_cell? w _ hx356_21)).trans hx356_21
        replace p356 := eq_true p356
        replace q356 := eq_true q356
        have p51 : 0 ≤ (((rd_T37 l0 x8_2).f2) : Int) := of_decide_eq_true (by first | (with_reducible assumption) | assumption)
        have q51 : (((rd_T37 l0 x8_2).f2) : Int) < ((x5_2.length : Int) : Int) := of_decide_eq_true (by first | (with_reducible assumption) | assumption)
        obtain ⟨go51, co51, eo51, gb51, gl51, cl51, HG51⟩ := Kd.R_form HO_5.out (by omega)
        (first | cases eo51 | (injection eo51 with ea_ en_ ec_; (first | subst ea_ | (injection ea_ with ea_; subst ea_)); subst ec_; clear en_))
        have GB51 := Aside0.mk gb51
        have GG51 := Aside0.mk HG51
        clear gb51 gl51 HG51
        (first | simp only [add_plain] at hx355_0 | skip)
        obtain ⟨hx51_0, hf51_0⟩ := Kd.R_celln 0 HO_5.out (((rd_T37 l0 x8_2).f2) : Int) p51 q51
        replace p51 := eq_true p51
        replace q51 := eq_true q51
        have HP53 := Kd.R_putg HO_5.out (((rd_T37 l0 x8_2).f2) : Int) 1
        go_wp2_with (first | ((with_reducible refine gate_store (t := 3) (p := 67) rfl ?_); refine store_event (t := 3) (p := 67) (v := ?vo_w54) (w1 := (wc.setCell ⟨go51, (((rd_T37 l0 x8_2).f2) : Int).toNat, none⟩ (.int .i64 1))) ?hg ?ho ?hn ?hr ?_; (case ho => rfl); (case hg => rfl); (case hn => rfl); (case hr => first | (go_simp; done) | (go_simp; rfl)); intro w54 hw; have hg : wc.grownBy w54 (some go51) := (by rw [hw]; exact HP53.2); have hp_ : Kd.R (Kd.int .i64) 3 w54 w.heap.size (fun _ => True) (.slice (some ⟨go51, 0, none⟩) x5_2.length co52) y357 := (by rw [hw, Ny357.out]; exact HP53.1); clear HP53; have n0_ := Aside0.mk (hp_); have n1_ := Aside0.mk ((by rw [hw]; exact below_set (HB.out) GB51.out : Below w.heap.size w w54)); clear HO_5; clear HB; have HO_5 := n0_; have HB := n1_; clear n0_ n1_; clear hg hw hp_))
        (first | go_roundg kj18 | (refine Handed.intro kj18 ?measure ?_; rotate_left; go_step; (repeat apply Exists.intro); (refine ⟨?rel, ?fr_⟩); (case fr_ => (simp only [add_plain]; rfl))))
        case measure => have := HK1.out; have := HK2.out; have := HJ18.out; omega
        case rel => exact ⟨(y357), (wrap64 (x8_2 - 1)), (by first | rfl | (simp; done) | (simp [*]; done)), H', ⟨by have := HK1.out; have := HK2.out; have := HJ18.out; omega⟩, ⟨by (with_reducible repeat (first | apply Kd.R_alloc | apply Kd.R_drewN | apply Kd.R_drew)); exact HO_5.out⟩, ⟨by repeat (first | (with_reducible first | exact HB.out | apply below_alloc | apply pw_below_drewN | apply below_drew1) | exact HB.out)⟩⟩
       subst c24
       have H1 : (if 0 ≤ x8_2 then (if x8_2 < (l0.length : Int) then (if 0 ≤ ((rd_T37 l0 x8_2).f1) then (if ((rd_T37 l0 x8_2).f1) < (x5_2.length : Int) then ((some (x5_2.set (((rd_T37 l0 x8_2).f1) : Int).toNat 1 : List Int)).bind fun y351 => (if x8_2 < (x5_2.length : Int) then (if (rd y351 x8_2) = 1 then (if t348 > 1 then (if 0 ≤ ((rd_T37 l0 x8_2).f2) then (if ((rd_T37 l0 x8_2).f2) < (x5_2.length : Int) then (orreryref14_Needed.l1 kj18 l0 (y351.set (((rd_T37 l0 x8_2).f2) : Int).toNat 1) (wrap64 (x8_2 - 1))) else (none)) else (none)) else (orreryref14_Needed.l1 kj18 l0 y351 (wrap64 (x8_2 - 1)))) else (orreryref14_Needed.l1 kj18 l0 y351 (wrap64 (x8_2 - 1)))) else (none))) else (none)) else (none)) else (none)) else (none)) = some r := by rw [if_pos rfl] at H; exact H
       clear H
       have H := H1
       clear H1
       by_cases c25 : 0 ≤ x8_2
       case neg => rw [if_neg c25] at H; exact absurd H (by simp)
       rw [if_pos c25] at H
       have c25b0 : decide (0 ≤ x8_2) = true := decide_eq_true c25
       clear c25
       by_cases c26 : x8_2 < (l0.length : Int)
       case neg => rw [if_neg c26] at H; exact absurd H (by simp)
       rw [if_pos c26] at H
       have c26b0 : decide (x8_2 < (l0.length : Int)) = true := decide_eq_true c26
       clear c26
       by_cases c27 : 0 ≤ ((rd_T37 l0 x8_2).f1)
       case neg => rw [if_neg c27] at H; exact absurd H (by simp)
       rw [if_pos c27] at H
       have c27b0 : decide (0 ≤ ((rd_T37 l0 x8_2).f1)) = true := decide_eq_true c27
       clear c27
       by_cases c28 : ((rd_T37 l0 x8_2).f1) < (x5_2.length : Int)
       case neg => rw [if_neg c28] at H; exact absurd H (by simp)
       rw [if_pos c28] at H
       have c28b0 : decide (((rd_T37 l0 x8_2).f1) < (x5_2.length : Int)) = true := decide_eq_true c28
       clear c28
       obtain ⟨y351, hy351⟩ : ∃ y_ : List Int, y_ = (x5_2.set (((rd_T37 l0 x8_2).f1) : Int).toNat 1) := ⟨_, rfl⟩
       replace H : (if x8_2 < (x5_2.length : Int) then (if (rd y351 x8_2) = 1 then (if t348 > 1 then (if 0 ≤ ((rd_T37 l0 x8_2).f2) then (if ((rd_T37 l0 x8_2).f2) < (x5_2.length : Int) then (orreryref14_Needed.l1 kj18 l0 (y351.set (((rd_T37 l0 x8_2).f2) : Int).toNat 1) (wrap64 (x8_2 - 1))) else (none)) else (none)) else (orreryref14_Needed.l1 kj18 l0 y351 (wrap64 (x8_2 - 1)))) else (orreryref14_Needed.l1 kj18 l0 y351 (wrap64 (x8_2 - 1)))) else (none)) = some r := by first | (rw [hy351]; with_reducible exact H) | (have H2_ := (Option.bind_some _ _).symm.trans H; rw [hy351]; with_reducible exact H2_) | (have H2_ := (Option.bind_some _ _).symm.trans H; with_reducible exact H2_) | with_reducible exact H | (rw [hy351]; exact H) | exact H
       have Ny351 := Aside0.mk hy351
       clear hy351
       by_cases c30 : x8_2 < (x5_2.length : Int)
       case neg => rw [if_neg c30] at H; exact absurd H (by simp)
       rw [if_pos c30] at H
       have c30b0 : decide (x8_2 < (x5_2.length : Int)) = true := decide_eq_true c30
       clear c30
       by_cases c31 : (rd y351 x8_2) = 1
       case neg =>
        rw [if_neg c31] at H
        have c31b0 : ((rd y351 x8_2) == 1) = false := beq_eq_false_iff_ne.mpr c31
        have c31b1 : ((rd y351 x8_2) != 1) = true := bne_iff_ne.mpr c31
        have H' := Aside0.mk H
        clear H
        have p350 : 0 ≤ (x8_2 : Int) := of_decide_eq_true (by first | (with_reducible assumption) | assumption)
        have q350 : x8_2 < (l0.length : Int) := of_decide_eq_true (by first | (with_reducible assumption) | assumption)
        obtain ⟨ad350, e350, hx350_0, hx350_1, hx350_2, hx350_3, hx350_4, hx350_5, hx350_6, hx350_7, hx350_8, hx350_9, hx350_10, hx350_11, hx350_12, hx350_13, hx350_14, hx350_15, hx350_16, hx350_17, hx350_18, hx350_19, hx350_20, hx350_21⟩ := at_T37 HR0.out x8_2 p350 q350
        obtain rfl : ad347 = ad350 := (by injection e350)
        replace hx350_0 := (HB.out.cell (World.block_lt_of_cell? w _ hx350_0)).trans hx350_0
        replace hx350_1 := (HB.out.cell (World.block_lt_of_cell? w _ hx350_1)).trans hx350_1
        replace hx350_2 := (HB.out.cell (World.block_lt_of_cell? w _ hx350_2)).trans hx350_2
        replace hx350_3 := (HB.out.cell (World.block_lt_of_cell? w _ hx350_3)).trans hx350_3
        replace hx350_4 := (HB.out.cell (World.block_lt_of_cell? w _ hx350_4)).trans hx350_4
        replace hx350_5 := (HB.out.cell (World.block_lt_of_cell? w _ hx350_5)).trans hx350_5
        replace hx350_6 := (HB.out.cell (World.block_lt_of_cell? w _ hx350_6)).trans hx350_6
        replace hx350_7 := (HB.out.cell (World.block_lt_of_cell? w _ hx350_7)).trans hx350_7
        replace hx350_8 := (HB.out.cell (World.block_lt_of_cell? w _ hx350_8)).trans hx350_8
        replace hx350_9 := (HB.out.cell (World.block_lt_of_cell? w _ hx350_9)).trans hx350_9
        replace hx350_10 := (HB.out.cell (World.block_lt_of_cell? w _ hx350_10)).trans hx350_10
        replace hx350_11 := (HB.out.cell (World.block_lt_of_cell? w _ hx350_11)).trans hx350_11
        replace hx350_12 := (HB.out.cell (World.block_lt_of_cell? w _ hx350_12)).trans hx350_12
        replace hx350_13 := (HB.out.cell (World.block_lt_of_cell? w _ hx350_13)).trans hx350_13
        replace hx350_14 := (HB.out.cell (World.block_lt_of_cell? w _ hx350_14)).trans hx350_14
        replace hx350_15 := (HB.out.cell (World.block_lt_of_cell? w _ hx350_15)).trans hx350_15
        replace hx350_16 := (HB.out.cell (World.block_lt_of_cell? w _ hx350_16)).trans hx350_16
        replace hx350_17 := (HB.out.cell (World.block_lt_of_cell? w _ hx350_17)).trans hx350_17
        replace hx350_18 := (HB.out.cell (World.block_lt_of_cell? w _ hx350_18)).trans hx350_18
        replace hx350_19 := (HB.out.cell (World.block_lt_of_cell? w _ hx350_19)).trans hx350_19
        replace hx350_20 := (HB.out.cell (World.block_lt_of_cell? w _ hx350_20)).trans hx350_20
        replace hx350_21 := (HB.out.cell (World.block_lt_of_cell? w _ hx350_21)).trans hx350_21
        replace p350 := eq_true p350
        replace q350 := eq_true q350
        have p29 : 0 ≤ (((rd_T37 l0 x8_2).f1) : Int) := of_decide_eq_true (by first | (with_reducible assumption) | assumption)
        have q29 : (((rd_T37 l0 x8_2).f1) : Int) < ((x5_2.length : Int) : Int) := of_decide_eq_true (by first | (with_reducible assumption) | assumption)
        obtain ⟨go29, co29, eo29, gb29, gl29, cl29, HG29⟩ := Kd.R_form HO_5.out (by omega)
        (first | cases eo29 | (injection eo29 with ea_ en_ ec_; (first | subst ea_ | (injection ea_ with ea_; subst ea_)); subst ec_; clear en_))
        have GB29 := Aside0.mk gb29
        have GG29 := Aside0.mk HG29
        clear gb29 gl29 HG29
        obtain ⟨hx29_0, hf29_0⟩ := Kd.R_celln 0 HO_5.out (((rd_T37 l0 x8_2).f1) : Int) p29 q29
        replace p29 := eq_true p29
        replace q29 := eq_true q29
        have HP42 := Kd.R_putg HO_5.out (((rd_T37 l0 x8_2).f1) : Int) 1
        go_wp2_with (first | ((with_reducible refine gate_store (t := 3) (p := 51) rfl ?_); refine store_event (t := 3) (p := 51) (v := ?vo_w43) (w1 := (wc.setCell ⟨go29, (((rd_T37 l0 x8_2).f1) : Int).toNat, none⟩ (.int .i64 1))) ?hg ?ho ?hn ?hr ?_; (case ho => rfl); (case hg => rfl); (case hn => rfl); (case hr => first | (go_simp; done) | (go_simp; rfl)); intro w43 hw; have hg : wc.grownBy w43 (some go29) := (by rw [hw]; exact HP42.2); have hp_ : Kd.R (Kd.int .i64) 3 w43 w.heap.size (fun _ => True) (.slice (some ⟨go29, 0, none⟩) x5_2.length co29) y351 := (by rw [hw, Ny351.out]; exact HP42.1); clear HP42; have n0_ := Aside0.mk (hp_); have n1_ := Aside0.mk ((by rw [hw]; exact below_set (HB.out) GB29.out : Below w.heap.size w w43)); clear HO_5; clear HB; have HO_5 := n0_; have HB := n1_; clear n0_ n1_; clear hg hw hp_; have p352 : 0 ≤ (x8_2 : Int) := of_decide_eq_true (by first | (with_reducible assumption) | assumption); have q352 : x8_2 < (y351.length : Int) := (by have h_ : (x8_2 : Int) < ((x5_2.length : Int) : Int) := of_decide_eq_true (by first | (with_reducible assumption) | assumption); first | (have e_ := (Kd.R_reads' HO_5.out).1; omega) | simpa only [Ny351.out, List.length_set] using h_); have ql352 : ((x8_2 : Int) < ((x5_2.length : Int) : Int)) = True := eq_true (of_decide_eq_true (by first | (with_reducible assumption) | assumption)); obtain ⟨ad352, e352, hx352_0⟩ := Kd.at_int (Kd.R_reads' HO_5.out).2.2 x8_2 p352 q352; obtain rfl : (⟨go29, 0, none⟩ : Addr) = ad352 := (by injection e352); (first | simp only [add_plain] at hx352_0 | simp only [add_at] at hx352_0 | simp only [Addr.add, Nat.zero_add] at hx352_0 | skip); replace p352 := eq_true p352; replace q352 := eq_true q352))
        (first | go_roundg kj18 | (refine Handed.intro kj18 ?measure ?_; rotate_left; go_step; (repeat apply Exists.intro); (refine ⟨?rel, ?fr_⟩); (case fr_ => (simp only [add_plain]; rfl))))
        case measure => have := HK1.out; have := HK2.out; have := HJ18.out; omega
        case rel => exact ⟨(y351), (wrap64 (x8_2 - 1)), (by first | rfl | (simp; done) | (simp [*]; done)), H', ⟨by have := HK1.out; have := HK2.out; have := HJ18.out; omega⟩, ⟨by (with_reducible repeat (first | apply Kd.R_alloc | apply Kd.R_drewN | apply Kd.R_drew)); exact HO_5.out⟩, ⟨by repeat (first | (with_reducible first | exact HB.out | apply below_alloc | apply pw_below_drewN | apply below_drew1) | exact HB.out)⟩⟩
       rw [if_pos c31] at H
       have c31b0 : ((rd y351 x8_2) == 1) = true := beq_iff_eq.mpr c31
       have c31b1 : ((rd y351 x8_2) != 1) = false := bne_eq_false_iff_eq.mpr c31
       clear c31
       by_cases c32 : t348 > 1
       case neg =>
        rw [if_neg c32] at H
        have c32b0 : decide (1 < t348) = false := decide_eq_false c32
        clear c32
        have H' := Aside0.mk H
        clear H
        have p350 : 0 ≤ (x8_2 : Int) := of_decide_eq_true (by first | (with_reducible assumption) | assumption)
        have q350 : x8_2 < (l0.length : Int) := of_decide_eq_true (by first | (with_reducible assumption) | assumption)
        obtain ⟨ad350, e350, hx350_0, hx350_1, hx350_2, hx350_3, hx350_4, hx350_5, hx350_6, hx350_7, hx350_8, hx350_9, hx350_10, hx350_11, hx350_12, hx350_13, hx350_14, hx350_15, hx350_16, hx350_17, hx350_18, hx350_19, hx350_20, hx350_21⟩ := at_T37 HR0.out x8_2 p350 q350
        obtain rfl : ad347 = ad350 := (by injection e350)
        replace hx350_0 := (HB.out.cell (World.block_lt_of_cell? w _ hx350_0)).trans hx350_0
        replace hx350_1 := (HB.out.cell (World.block_lt_of_cell? w _ hx350_1)).trans hx350_1
        replace hx350_2 := (HB.out.cell (World.block_lt_of_cell? w _ hx350_2)).trans hx350_2
        replace hx350_3 := (HB.out.cell (World.block_lt_of_cell? w _ hx350_3)).trans hx350_3
        replace hx350_4 := (HB.out.cell (World.block_lt_of_cell? w _ hx350_4)).trans hx350_4
        replace hx350_5 := (HB.out.cell (World.block_lt_of_cell? w _ hx350_5)).trans hx350_5
        replace hx350_6 := (HB.out.cell (World.block_lt_of_cell? w _ hx350_6)).trans hx350_6
        replace hx350_7 := (HB.out.cell (World.block_lt_of_cell? w _ hx350_7)).trans hx350_7
        replace hx350_8 := (HB.out.cell (World.block_lt_of_cell? w _ hx350_8)).trans hx350_8
        replace hx350_9 := (HB.out.cell (World.block_lt_of_cell? w _ hx350_9)).trans hx350_9
        replace hx350_10 := (HB.out.cell (World.block_lt_of_cell? w _ hx350_10)).trans hx350_10
        replace hx350_11 := (HB.out.cell (World.block_lt_of_cell? w _ hx350_11)).trans hx350_11
        replace hx350_12 := (HB.out.cell (World.block_lt_of_cell? w _ hx350_12)).trans hx350_12
        replace hx350_13 := (HB.out.cell (World.block_lt_of_cell? w _ hx350_13)).trans hx350_13
        replace hx350_14 := (HB.out.cell (World.block_lt_of_cell? w _ hx350_14)).trans hx350_14
        replace hx350_15 := (HB.out.cell (World.block_lt_of_cell? w _ hx350_15)).trans hx350_15
        replace hx350_16 := (HB.out.cell (World.block_lt_of_cell? w _ hx350_16)).trans hx350_16
        replace hx350_17 := (HB.out.cell (World.block_lt_of_cell? w _ hx350_17)).trans hx350_17
        replace hx350_18 := (HB.out.cell (World.block_lt_of_cell? w _ hx350_18)).trans hx350_18
        replace hx350_19 := (HB.out.cell (World.block_lt_of_cell? w _ hx350_19)).trans hx350_19
        replace hx350_20 := (HB.out.cell (World.block_lt_of_cell? w _ hx350_20)).trans hx350_20
        replace hx350_21 := (HB.out.cell (World.block_lt_of_cell? w _ hx350_21)).trans hx350_21
        replace p350 := eq_true p350
        replace q350 := eq_true q350
        have p29 : 0 ≤ (((rd_T37 l0 x8_2).f1) : Int) := of_decide_eq_true (by first | (with_reducible assumption) | assumption)
        have q29 : (((rd_T37 l0 x8_2).f1) : Int) < ((x5_2.length : Int) : Int) := of_decide_eq_true (by first | (with_reducible assumption) | assumption)
        obtain ⟨go29, co29, eo29, gb29, gl29, cl29, HG29⟩ := Kd.R_form HO_5.out (by omega)
        (first | cases eo29 | (injection eo29 with ea_ en_ ec_; (first | subst ea_ | (injection ea_ with ea_; subst ea_)); subst ec_; clear en_))
        have GB29 := Aside0.mk gb29
        have GG29 := Aside0.mk HG29
        clear gb29 gl29 HG29
        obtain ⟨hx29_0, hf29_0⟩ := Kd.R_celln 0 HO_5.out (((rd_T37 l0 x8_2).f1) : Int) p29 q29
        replace p29 := eq_true p29
        replace q29 := eq_true q29
        have HP40 := Kd.R_putg HO_5.out (((rd_T37 l0 x8_2).f1) : Int) 1
        go_wp2_with (first | ((with_reducible refine gate_store (t := 3) (p := 51) rfl ?_); refine store_event (t := 3) (p := 51) (v := ?vo_w41) (w1 := (wc.setCell ⟨go29, (((rd_T37 l0 x8_2).f1) : Int).toNat, none⟩ (.int .i64 1))) ?hg ?ho ?hn ?hr ?_; (case ho => rfl); (case hg => rfl); (case hn => rfl); (case hr => first | (go_simp; done) | (go_simp; rfl)); intro w41 hw; have hg : wc.grownBy w41 (some go29) := (by rw [hw]; exact HP40.2); have hp_ : Kd.R (Kd.int .i64) 3 w41 w.heap.size (fun _ => True) (.slice (some ⟨go29, 0, none⟩) x5_2.length co29) y351 := (by rw [hw, Ny351.out]; exact HP40.1); clear HP40; have n0_ := Aside0.mk (hp_); have n1_ := Aside0.mk ((by rw [hw]; exact below_set (HB.out) GB29.out : Below w.heap.size w w41)); clear HO_5; clear HB; have HO_5 := n0_; have HB := n1_; clear n0_ n1_; clear hg hw hp_; have p352 : 0 ≤ (x8_2 : Int) := of_decide_eq_true (by first | (with_reducible assumption) | assumption); have q352 : x8_2 < (y351.length : Int) := (by have h_ : (x8_2 : Int) < ((x5_2.length : Int) : Int) := of_decide_eq_true (by first | (with_reducible assumption) | assumption); first | (have e_ := (Kd.R_reads' HO_5.out).1; omega) | simpa only [Ny351.out, List.length_set] using h_); have ql352 : ((x8_2 : Int) < ((x5_2.length : Int) : Int)) = True := eq_true (of_decide_eq_true (by first | (with_reducible assumption) | assumption)); obtain ⟨ad352, e352, hx352_0⟩ := Kd.at_int (Kd.R_reads' HO_5.out).2.2 x8_2 p352 q352; obtain rfl : (⟨go29, 0, none⟩ : Addr) = ad352 := (by injection e352); (first | simp only [add_plain] at hx352_0 | simp only [add_at] at hx352_0 | simp only [Addr.add, Nat.zero_add] at hx352_0 | skip); replace p352 := eq_true p352; replace q352 := eq_true q352))
        (first | go_roundg kj18 | (refine Handed.intro kj18 ?measure ?_; rotate_left; go_step; (repeat apply Exists.intro); (refine ⟨?rel, ?fr_⟩); (case fr_ => (simp only [add_plain]; rfl))))
        case measure => have := HK1.out; have := HK2.out; have := HJ18.out; omega
        case rel => exact ⟨(y351), (wrap64 (x8_2 - 1)), (by first | rfl | (simp; done) | (simp [*]; done)), H', ⟨by have := HK1.out; have := HK2.out; have := HJ18.out; omega⟩, ⟨by (with_reducible repeat (first | apply Kd.R_alloc | apply Kd.R_drewN | apply Kd.R_drew)); exact HO_5.out⟩, ⟨by repeat (first | (with_reducible first | exact HB.out | apply below_alloc | apply pw_below_drewN | apply below_drew1) | exact HB.out)⟩⟩
       rw [if_pos c32] at H
       have c32b0 : decide (1 < t348) = true := decide_eq_true c32
       clear c32
       by_cases c33 : 0 ≤ ((rd_T37 l0 x8_2).f2)
       case neg => rw [if_neg c33] at H; exact absurd H (by simp)
       rw [if_pos c33] at H
       have c33b0 : decide (0 ≤ ((rd_T37 l0 x8_2).f2)) = true := decide_eq_true c33
       clear c33
       by_cases c34 : ((rd_T37 l0 x8_2).f2) < (x5_2.length : Int)
       case neg => rw [if_neg c34] at H; exact absurd H (by simp)
       rw [if_pos c34] at H
       have c34b0 : decide (((rd_T37 l0 x8_2).f2) < (x5_2.length : Int)) = true := decide_eq_true c34
       clear c34
       obtain ⟨y354, hy354⟩ : ∃ y_ : List Int, y_ = (y351.set (((rd_T37 l0 x8_2).f2) : Int).toNat 1) := ⟨_, rfl⟩
       replace H : (orreryref14_Needed.l1 kj18 l0 y354 (wrap64 (x8_2 - 1))) = some r := by first | (rw [hy354]; with_reducible exact H) | (have H2_ := (Option.bind_some _ _).symm.trans H; rw [hy354]; with_reducible exact H2_) | (have H2_ := (Option.bind_some _ _).symm.trans H; with_reducible exact H2_) | with_reducible exact H | (rw [hy354]; exact H) | exact H
       have Ny354 := Aside0.mk hy354
       clear hy354
       have H' := Aside0.mk H
       clear H
       have p350 : 0 ≤ (x8_2 : Int) := of_decide_eq_true (by first | (with_reducible assumption) | assumption)
       have q350 : x8_2 < (l0.length : Int) := of_decide_eq_true (by first | (with_reducible assumption) | assumption)
       obtain ⟨ad350, e350, hx350_0, hx350_1, hx350_2, hx350_3, hx350_4, hx350_5, hx350_6, hx350_7, hx350_8, hx350_9, hx350_10, hx350_11, hx350_12, hx350_13, hx350_14, hx350_15, hx350_16, hx350_17, hx350_18, hx350_19, hx350_20, hx350_21⟩ := at_T37 HR0.out x8_2 p350 q350
       obtain rfl : ad347 = ad350 := (by injection e350)
       replace hx350_0 := (HB.out.cell (World.block_lt_of_cell? w _ hx350_0)).trans hx350_0
       replace hx350_1 := (HB.out.cell (World.block_lt_of_cell? w _ hx350_1)).trans hx350_1
       replace hx350_2 := (HB.out.cell (World.block_lt_of_cell? w _ hx350_2)).trans hx350_2
       replace hx350_3 := (HB.out.cell (World.block_lt_of_cell? w _ hx350_3)).trans hx350_3
       replace hx350_4 := (HB.out.cell (World.block_lt_of_cell? w _ hx350_4)).trans hx350_4
       replace hx350_5 := (HB.out.cell (World.block_lt_of_cell? w _ hx350_5)).trans hx350_5
       replace hx350_6 := (HB.out.cell (World.block_lt_of_cell? w _ hx350_6)).trans hx350_6
       replace hx350_7 := (HB.out.cell (World.block_lt_of_cell? w _ hx350_7)).trans hx350_7
       replace hx350_8 := (HB.out.cell (World.block_lt_of_cell? w _ hx350_8)).trans hx350_8
       replace hx350_9 := (HB.out.cell (World.block_lt_of_cell? w _ hx350_9)).trans hx350_9
       replace hx350_10 := (HB.out.cell (World.block_lt_of_cell? w _ hx350_10)).trans hx350_10
       replace hx350_11 := (HB.out.cell (World.block_lt_of_cell? w _ hx350_11)).trans hx350_11
       replace hx350_12 := (HB.out.cell (World.block_lt_of_cell? w _ hx350_12)).trans hx350_12
       replace hx350_13 := (HB.out.cell (World.block_lt_of_cell? w _ hx350_13)).trans hx350_13
       replace hx350_14 := (HB.out.cell (World.block_lt_of_cell? w _ hx350_14)).trans hx350_14
       replace hx350_15 := (HB.out.cell (World.block_lt_of_cell? w _ hx350_15)).trans hx350_15
       replace hx350_16 := (HB.out.cell (World.block_lt_of_cell? w _ hx350_16)).trans hx350_16
       replace hx350_17 := (HB.out.cell (World.block_lt_of_cell? w _ hx350_17)).trans hx350_17
       replace hx350_18 := (HB.out.cell (World.block_lt_of_cell? w _ hx350_18)).trans hx350_18
       replace hx350_19 := (HB.out.cell (World.block_lt_of_cell? w _ hx350_19)).trans hx350_19
       replace hx350_20 := (HB.out.cell (World.block_lt_of_cell? w _ hx350_20)).trans hx350_20
       replace hx350_21 := (HB.out.cell (World.block_lt_of_cell? w _ hx350_21)).trans hx350_21
       replace p350 := eq_true p350
       replace q350 := eq_true q350
       have p29 : 0 ≤ (((rd_T37 l0 x8_2).f1) : Int) := of_decide_eq_true (by first | (with_reducible assumption) | assumption)
       have q29 : (((rd_T37 l0 x8_2).f1) : Int) < ((x5_2.length : Int) : Int) := of_decide_eq_true (by first | (with_reducible assumption) | assumption)
       obtain ⟨go29, co29, eo29, gb29, gl29, cl29, HG29⟩ := Kd.R_form HO_5.out (by omega)
       (first | cases eo29 | (injection eo29 with ea_ en_ ec_; (first | subst ea_ | (injection ea_ with ea_; subst ea_)); subst ec_; clear en_))
       have GB29 := Aside0.mk gb29
       have GG29 := Aside0.mk HG29
       clear gb29 gl29 HG29
       obtain ⟨hx29_0, hf29_0⟩ := Kd.R_celln 0 HO_5.out (((rd_T37 l0 x8_2).f1) : Int) p29 q29
       replace p29 := eq_true p29
       replace q29 := eq_true q29
       have HP36 := Kd.R_putg HO_5.out (((rd_T37 l0 x8_2).f1) : Int) 1
       go_wp2_with (first | ((with_reducible refine gate_store (t := 3) (p := 51) rfl ?_); refine store_event (t := 3) (p := 51) (v := ?vo_w37) (w1 := (wc.setCell ⟨go29, (((rd_T37 l0 x8_2).f1) : Int).toNat, none⟩ (.int .i64 1))) ?hg ?ho ?hn ?hr ?_; (case ho => rfl); (case hg => rfl); (case hn => rfl); (case hr => first | (go_simp; done) | (go_simp; rfl)); intro w37 hw; have hg : wc.grownBy w37 (some go29) := (by rw [hw]; exact HP36.2); have hp_ : Kd.R (Kd.int .i64) 3 w37 w.heap.size (fun _ => True) (.slice (some ⟨go29, 0, none⟩) x5_2.length co29) y351 := (by rw [hw, Ny351.out]; exact HP36.1); clear HP36; have n0_ := Aside0.mk (hp_); have n1_ := Aside0.mk ((by rw [hw]; exact below_set (HB.out) GB29.out : Below w.heap.size w w37)); clear HO_5; clear HB; have HO_5 := n0_; have HB := n1_; clear n0_ n1_; clear hg hw hp_; have p352 : 0 ≤ (x8_2 : Int) := of_decide_eq_true (by first | (with_reducible assumption) | assumption); have q352 : x8_2 < (y351.length : Int) := (by have h_ : (x8_2 : Int) < ((x5_2.length : Int) : Int) := of_decide_eq_true (by first | (with_reducible assumption) | assumption); first | (have e_ := (Kd.R_reads' HO_5.out).1; omega) | simpa only [Ny351.out, List.length_set] using h_); have ql352 : ((x8_2 : Int) < ((x5_2.length : Int) : Int)) = True := eq_true (of_decide_eq_true (by first | (with_reducible assumption) | assumption)); obtain ⟨ad352, e352, hx352_0⟩ := Kd.at_int (Kd.R_reads' HO_5.out).2.2 x8_2 p352 q352; obtain rfl : (⟨go29, 0, none⟩ : Addr) = ad352 := (by injection e352); (first | simp only [add_plain] at hx352_0 | simp only [add_at] at hx352_0 | simp only [Addr.add, Nat.zero_add] at hx352_0 | skip); replace p352 := eq_true p352; replace q352 := eq_true q352; have p353 : 0 ≤ (x8_2 : Int) := of_decide_eq_true (by first | (with_reducible assumption) | assumption); have q353 : x8_2 < (l0.length : Int) := of_decide_eq_true (by first | (with_reducible assumption) | assumption); obtain ⟨ad353, e353, hx353_0, hx353_1, hx353_2, hx353_3, hx353_4, hx353_5, hx353_6, hx353_7, hx353_8, hx353_9, hx353_10, hx353_11, hx353_12, hx353_13, hx353_14, hx353_15, hx353_16, hx353_17, hx353_18, hx353_19, hx353_20, hx353_21⟩ := at_T37 HR0.out x8_2 p353 q353; obtain rfl : ad347 = ad353 := (by injection e353); replace hx353_0 := (HB.out.cell (World.block_lt_of_cell? w _ hx353_0)).trans hx353_0; replace hx353_1 := (HB.out.cell (World.block_lt_of_cell? w _ hx353_1)).trans hx353_1; replace hx353_2 := (HB.out.cell (World.block_lt_of_cell? w _ hx353_2)).trans hx353_2; replace hx353_3 := (HB.out.cell (World.block_lt_of_cell? w _ hx353_3)).trans hx353_3; replace hx353_4 := (HB.out.cell (World.block_lt_of_cell? w _ hx353_4)).trans hx353_4; replace hx353_5 := (HB.out.cell (World.block_lt_of_cell? w _ hx353_5)).trans hx353_5; replace hx353_6 := (HB.out.cell (World.block_lt_of_cell? w _ hx353_6)).trans hx353_6; replace hx353_7 := (HB.out.cell (World.block_lt_of_cell? w _ hx353_7)).trans hx353_7; replace hx353_8 := (HB.out.cell (World.block_lt_of_cell? w _ hx353_8)).trans hx353_8; replace hx353_9 := (HB.out.cell (World.block_lt_of_cell? w _ hx353_9)).trans hx353_9; replace hx353_10 := (HB.out.cell (World.block_lt_of_cell? w _ hx353_10)).trans hx353_10; replace hx353_11 := (HB.out.cell (World.block_lt_of_cell? w _ hx353_11)).trans hx353_11; replace hx353_12 := (HB.out.cell (World.block_lt_of_cell? w _ hx353_12)).trans hx353_12; replace hx353_13 := (HB.out.cell (World.block_lt_of_cell? w _ hx353_13)).trans hx353_13; replace hx353_14 := (HB.out.cell (World.block_lt_of_cell? w _ hx353_14)).trans hx353_14; replace hx353_15 := (HB.out.cell (World.block_lt_of_cell? w _ hx353_15)).trans hx353_15; replace hx353_16 := (HB.out.cell (World.block_lt_of_cell? w _ hx353_16)).trans hx353_16; replace hx353_17 := (HB.out.cell (World.block_lt_of_cell? w _ hx353_17)).trans hx353_17; replace hx353_18 := (HB.out.cell (World.block_lt_of_cell? w _ hx353_18)).trans hx353_18; replace hx353_19 := (HB.out.cell (World.block_lt_of_cell? w _ hx353_19)).trans hx353_19; replace hx353_20 := (HB.out.cell (World.block_lt_of_cell? w _ hx353_20)).trans hx353_20; replace hx353_21 := (HB.out.cell (World.block_lt_of_cell? w _ hx353_21)).trans hx353_21; replace p353 := eq_true p353; replace q353 := eq_true q353; have p35 : 0 ≤ (((rd_T37 l0 x8_2).f2) : Int) := of_decide_eq_true (by first | (with_reducible assumption) | assumption); have q35 : (((rd_T37 l0 x8_2).f2) : Int) < ((x5_2.length : Int) : Int) := of_decide_eq_true (by first | (with_reducible assumption) | assumption); obtain ⟨hx35_0, hf35_0⟩ := Kd.R_celln 0 HO_5.out (((rd_T37 l0 x8_2).f2) : Int) p35 q35; replace p35 := eq_true p35; replace q35 := eq_true q35; obtain ⟨hy38_, hz38_⟩ := Kd.R_celln 0 HO_5.out (((rd_T37 l0 x8_2).f2) : Int) (of_decide_eq_true (by first | (with_reducible assumption) | assumption)) (of_decide_eq_true (by first | (with_reducible assumption) | assumption)); have HP38 := Kd.R_putg HO_5.out (((rd_T37 l0 x8_2).f2) : Int) 1) | ((with_reducible refine gate_store (t := 3) (p := 67) rfl ?_); refine store_event (t := 3) (p := 67) (v := ?vo_w39) (w1 := (w37.setCell ⟨go29, (((rd_T37 l0 x8_2).f2) : Int).toNat, none⟩ (.int .i64 1))) ?hg ?ho ?hn ?hr ?_; (case ho => rfl); (case hg => rfl); (case hn => rfl); (case hr => first | (go_simp; done) | (go_simp; rfl)); intro w39 hw; have hg : w37.grownBy w39 (some go29) := (by rw [hw]; exact HP38.2); have hp_ : Kd.R (Kd.int .i64) 3 w39 w.heap.size (fun _ => True) (.slice (some ⟨go29, 0, none⟩) x5_2.length co29) y354 := (by rw [hw, Ny354.out]; exact HP38.1); clear HP38; have n0_ := Aside0.mk (hp_); have n1_ := Aside0.mk ((by rw [hw]; exact below_set (HB.out) GB29.out : Below w.heap.size w w39)); clear HO_5; clear HB; have HO_5 := n0_; have HB := n1_; clear n0_ n1_; clear hg hw hp_))
       (first | go_roundg kj18 | (refine Handed.intro kj18 ?measure ?_; rotate_left; go_step; (repeat apply Exists.intro); (refine ⟨?rel, ?fr_⟩); (case fr_ => (simp only [add_plain]; rfl))))
       case measure => have := HK1.out; have := HK2.out; have := HJ18.out; omega
       case rel => exact ⟨(y354), (wrap64 (x8_2 - 1)), (by first | rfl | (simp; done) | (simp [*]; done)), H', ⟨by have := HK1.out; have := HK2.out; have := HJ18.out; omega⟩, ⟨by (with_reducible repeat (first | apply Kd.R_alloc | apply Kd.R_drewN | apply Kd.R_drew)); exact HO_5.out⟩, ⟨by repeat (first | (with_reducible first | exact HB.out | apply below_alloc | apply pw_below_drewN | apply below_drew1) | exact HB.out)⟩⟩

end Go.Proofs.Ytoonahobmlnflaa.PC
namespace Go.Proofs.Ytoonahobmlnflaa.PC
open Go.RowKit Go.Proofs.YtoonahobmlnflaaW.PrintWords Go.Proofs.YtoonahobmlnflaaW.PrintLast Go.Proofs.YtoonahobmlnflaaW.PrintMore
attribute [local go_sem] max2_int min2_int max_two min_two max_three min_three max_four min_four   -- for this text's walks alone
set_option linter.unusedVariables false
set_option linter.unusedSimpArgs false

/-! ### orreryref17_less: function 31 -/
def orreryref17_less.f (a0_0 : Int) (a0_1 : Int) (a1_0 : Int) (a1_1 : Int) : Option (Bool) := if a0_0 < a1_0 then (some true) else (if a0_0 = a1_0 then (some (decide (a0_1 < a1_1))) else (some false))
set_option maxHeartbeats 8000000 in
set_option maxRecDepth 100000 in
theorem orreryref17_less.calls (a0_0 : Int) (a0_1 : Int) (a1_0 : Int) (a1_1 : Int) (r : Bool) (w : World) (h : orreryref17_less.f a0_0 a0_1 a1_0 a1_1 = some r) :
    Calls Try.prog 31 #[.agg #[.int .i64 a0_0, .int .i64 a0_1], .agg #[.int .i64 a1_0, .int .i64 a1_1]] w fun e w' => e = .returned (.bool r) ∧ Below w.heap.size w w' := by
 have hu32 := Try.underlying32
 have HB := Aside0.mk (Below.refl w.heap.size w)
 have H : (if a0_0 < a1_0 then (some true) else (if a0_0 = a1_0 then (some (decide (a0_1 < a1_1))) else (some false))) = some r := h
 clear h
 by_cases c3 : a0_0 < a1_0
 case pos =>
  rw [if_pos c3] at H
  have c3b0 : decide (a0_0 < a1_0) = true := decide_eq_true c3
  clear c3
  obtain rfl := Option.some.inj H
  go_enter Try.func31, Try.ntmps31
  go_wp2_with (first | ((with_reducible refine gate_dst (N := 2) rfl ?_); refine box_event ?hg (N := 2) ?hd (cs := #[.int .i64 a0_0, .int .i64 a0_1]) (t := 32) ?hr ?_; (case hd => rfl); (case hg => rfl); (case hr => first | (go_simp; done) | (go_simp; rfl)); intro gb358 hg w4 hbox hb; have n0_ := Aside0.mk (below_step (by repeat (first | (with_reducible first | exact HB.out | apply below_alloc | apply pw_below_drewN | apply below_drew1) | exact HB.out)) hb); have n1_ := Aside0.mk (hbox); have n2_ := Aside0.mk ((by rw [hg]; exact (below_size (by repeat (first | (with_reducible first | exact HB.out | apply below_alloc | apply pw_below_drewN | apply below_drew1) | exact HB.out))) : w.heap.size ≤ gb358)); have n3_ := Aside0.mk ((by rw [hg]; exact (below_size (by repeat (first | (with_reducible first | exact HB.out | apply below_alloc | apply pw_below_drewN | apply below_drew1) | exact HB.out))) : w.heap.size ≤ gb358)); clear HB; have HB := n0_; have BK358 := n1_; have GW358 := n2_; have GE358 := n3_; clear n0_ n1_ n2_ n3_; clear hb hbox hg) | ((with_reducible refine gate_dst (N := 3) rfl ?_); refine box_event ?hg (N := 3) ?hd (cs := #[.int .i64 a1_0, .int .i64 a1_1]) (t := 32) ?hr ?_; (case hd => rfl); (case hg => rfl); (case hr => first | (go_simp; done) | (go_simp; rfl)); intro gb359 hg w5 hbox hb; have n0_ := Aside0.mk (blk_below (g := gb358) (o := .cells #[.int .i64 a0_0, .int .i64 a0_1] 32 (0, 0)) (by (with_reducible repeat (first | refine blk_drewN ?_ _ | refine blk_drew ?_ | refine blk_alloc ?_ _)); exact BK358.out) hb); have n1_ := Aside0.mk (below_step (by repeat (first | (with_reducible first | exact HB.out | apply below_alloc | apply pw_below_drewN | apply below_drew1 | refine below_set ?_ GE358.out) | exact HB.out)) hb); have n2_ := Aside0.mk (hbox); have n3_ := Aside0.mk ((by rw [hg]; exact (below_size (by repeat (first | (with_reducible first | exact HB.out | apply below_alloc | apply pw_below_drewN | apply below_drew1 | refine below_set ?_ GE358.out) | exact HB.out))) : w.heap.size ≤ gb359)); have n4_ := Aside0.mk ((by rw [hg]; exact (below_size (by repeat (first | (with_reducible first | exact HB.out | apply below_alloc | apply pw_below_drewN | apply below_drew1 | refine below_set ?_ GE358.out) | exact HB.out))) : w.heap.size ≤ gb359)); have n5_ := Aside0.mk ((by rw [hg]; exact Nat.ne_of_lt (blk_lt (g := gb358) (o := .cells #[.int .i64 a0_0, .int .i64 a0_1] 32 (0, 0)) (by (with_reducible repeat (first | refine blk_drewN ?_ _ | refine blk_drew ?_ | refine blk_alloc ?_ _)); exact BK358.out)) : gb358 ≠ gb359)); have n6_ := Aside0.mk ((by rw [hg]; exact Nat.ne_of_gt (blk_lt (g := gb358) (o := .cells #[.int .i64 a0_0, .int .i64 a0_1] 32 (0, 0)) (by (with_reducible repeat (first | refine blk_drewN ?_ _ | refine blk_drew ?_ | refine blk_alloc ?_ _)); exact BK358.out)) : gb359 ≠ gb358)); clear BK358; clear HB; have BK358 := n0_; have HB := n1_; have BK359 := n2_; have GW359 := n3_; have GE359 := n4_; have NB358_359 := n5_; have NB359_358 := n6_; clear n0_ n1_ n2_ n3_ n4_ n5_ n6_; clear hb hbox hg; have hnb6 := NB358_359.out; have hnc6 := NB359_358.out; have hcz7_0 : w5.cell? ⟨gb358, 0, none⟩ = some (.int .i64 a0_0) := (blk_cell BK358.out 0).trans rfl; have hcz7_1 : w5.cell? ⟨gb358, 1, none⟩ = some (.int .i64 a0_1) := (blk_cell BK358.out 1).trans rfl; have hfz7_0 := blk_frozen BK358.out 0; have hfz7_1 := blk_frozen BK358.out 1; have hcz8_0 : w5.cell? ⟨gb359, 0, none⟩ = some (.int .i64 a1_0) := (blk_cell BK359.out 0).trans rfl; have hcz8_1 : w5.cell? ⟨gb359, 1, none⟩ = some (.int .i64 a1_1) := (blk_cell BK359.out 1).trans rfl; have hfz8_0 := blk_frozen BK359.out 0; have hfz8_1 := blk_frozen BK359.out 1))
  go_ret
  exact ⟨by first | rfl | (simp [errW_none, errW_some] <;> rfl) | (simp [*, errW_none, errW_some] <;> rfl), by repeat (first | (with_reducible first | exact HB.out | apply below_alloc | apply pw_below_drewN | apply below_drew1 | refine below_set ?_ GE358.out | refine below_set ?_ GE359.out) | exact HB.out)⟩
 rw [if_neg c3] at H
 have c3b0 : decide (a0_0 < a1_0) = false := decide_eq_false c3
 clear c3
 by_cases c9 : a0_0 = a1_0
 case neg =>
  rw [if_neg c9] at H
  have c9b0 : (a0_0 == a1_0) = false := beq_eq_false_iff_ne.mpr c9
  have c9b1 : (a0_0 != a1_0) = true := bne_iff_ne.mpr c9
  obtain rfl := Option.some.inj H
  go_enter Try.func31, Try.ntmps31
  go_wp2_with (first | ((with_reducible refine gate_dst (N := 2) rfl ?_); refine box_event ?hg (N := 2) ?hd (cs := #[.int .i64 a0_0, .int .i64 a0_1]) (t := 32) ?hr ?_; (case hd => rfl); (case hg => rfl); (case hr => first | (go_simp; done) | (go_simp; rfl)); intro gb358 hg w15 hbox hb; have n0_ := Aside0.mk (below_step (by repeat (first | (with_reducible first | exact HB.out | apply below_alloc | apply pw_below_drewN | apply below_drew1) | exact HB.out)) hb); have n1_ := Aside0.mk (hbox); have n2_ := Aside0.mk ((by rw [hg]; exact (below_size (by repeat (first | (with_reducible first | exact HB.out | apply below_alloc | apply pw_below_drewN | apply below_drew1) | exact HB.out))) : w.heap.size ≤ gb358)); have n3_ := Aside0.mk ((by rw [hg]; exact (below_size (by repeat (first | (with_reducible first | exact HB.out | apply below_alloc | apply pw_below_drewN | apply below_drew1) | exact HB.out))) : w.heap.size ≤ gb358)); clear HB; have HB := n0_; have BK358 := n1_; have GW358 := n2_; have GE358 := n3_; clear n0_ n1_ n2_ n3_; clear hb hbox hg) | ((with_reducible refine gate_dst (N := 3) rfl ?_); refine box_event ?hg (N := 3) ?hd (cs := #[.int .i64 a1_0, .int .i64 a1_1]) (t := 32) ?hr ?_; (case hd => rfl); (case hg => rfl); (case hr => first | (go_simp; done) | (go_simp; rfl)); intro gb359 hg w16 hbox hb; have n0_ := Aside0.mk (blk_below (g := gb358) (o := .cells #[.int .i64 a0_0, .int .i64 a0_1] 32 (0, 0)) (by (with_reducible repeat (first | refine blk_drewN ?_ _ | refine blk_drew ?_ | refine blk_alloc ?_ _)); exact BK358.out) hb); have n1_ := Aside0.mk (below_step (by repeat (first | (with_reducible first | exact HB.out | apply below_alloc | apply pw_below_drewN | apply below_drew1 | refine below_set ?_ GE358.out) | exact HB.out)) hb); have n2_ := Aside0.mk (hbox); have n3_ := Aside0.mk ((by rw [hg]; exact (below_size (by repeat (first | (with_reducible first | exact HB.out | apply below_alloc | apply pw_below_drewN | apply below_drew1 | refine below_set ?_ GE358.out) | exact HB.out))) : w.heap.size ≤ gb359)); have n4_ := Aside0.mk ((by rw [hg]; exact (below_size (by repeat (first | (with_reducible first | exact HB.out | apply below_alloc | apply pw_below_drewN | apply below_drew1 | refine below_set ?_ GE358.out) | exact HB.out))) : w.heap.size ≤ gb359)); have n5_ := Aside0.mk ((by rw [hg]; exact Nat.ne_of_lt (blk_lt (g := gb358) (o := .cells #[.int .i64 a0_0, .int .i64 a0_1] 32 (0, 0)) (by (with_reducible repeat (first | refine blk_drewN ?_ _ | refine blk_drew ?_ | refine blk_alloc ?_ _)); exact BK358.out)) : gb358 ≠ gb359)); have n6_ := Aside0.mk ((by rw [hg]; exact Nat.ne_of_gt (blk_lt (g := gb358) (o := .cells #[.int .i64 a0_0, .int .i64 a0_1] 32 (0, 0)) (by (with_reducible repeat (first | refine blk_drewN ?_ _ | refine blk_drew ?_ | refine blk_alloc ?_ _)); exact BK358.out)) : gb359 ≠ gb358)); clear BK358; clear HB; have BK358 := n0_; have HB := n1_; have BK359 := n2_; have GW359 := n3_; have GE359 := n4_; have NB358_359 := n5_; have NB359_358 := n6_; clear n0_ n1_ n2_ n3_ n4_ n5_ n6_; clear hb hbox hg; have hnb17 := NB358_359.out; have hnc17 := NB359_358.out; have hcz18_0 : w16.cell? ⟨gb358, 0, none⟩ = some (.int .i64 a0_0) := (blk_cell BK358.out 0).trans rfl; have hcz18_1 : w16.cell? ⟨gb358, 1, none⟩ = some (.int .i64 a0_1) := (blk_cell BK358.out 1).trans rfl; have hfz18_0 := blk_frozen BK358.out 0; have hfz18_1 := blk_frozen BK358.out 1; have hcz19_0 : w16.cell? ⟨gb359, 0, none⟩ = some (.int .i64 a1_0) := (blk_cell BK359.out 0).trans rfl; have hcz19_1 : w16.cell? ⟨gb359, 1, none⟩ = some (.int .i64 a1_1) := (blk_cell BK359.out 1).trans rfl; have hfz19_0 := blk_frozen BK359.out 0; have hfz19_1 := blk_frozen BK359.out 1))
  go_ret
  exact ⟨by first | rfl | (simp [errW_none, errW_some] <;> rfl) | (simp [*, errW_none, errW_some] <;> rfl), by repeat (first | (with_reducible first | exact HB.out | apply below_alloc | apply pw_below_drewN | apply below_drew1 | refine below_set ?_ GE358.out | refine below_set ?_ GE359.out) | exact HB.out)⟩
 rw [if_pos c9] at H
 have c9b0 : (a0_0 == a1_0) = true := beq_iff_eq.mpr c9
 have c9b1 : (a0_0 != a1_0) = false := bne_eq_false_iff_eq.mpr c9
 clear c9
 obtain rfl := Option.some.inj H
 go_enter Try.func31, Try.ntmps31
 go_wp2_with (first | ((with_reducible refine gate_dst (N := 2) rfl ?_); refine box_event ?hg (N := 2) ?hd (cs := #[.int .i64 a0_0, .int .i64 a0_1]) (t := 32) ?hr ?_; (case hd => rfl); (case hg => rfl); (case hr => first | (go_simp; done) | (go_simp; rfl)); intro gb358 hg w10 hbox hb; have n0_ := Aside0.mk (below_step (by repeat (first | (with_reducible first | exact HB.out | apply below_alloc | apply pw_below_drewN | apply below_drew1) | exact HB.out)) hb); have n1_ := Aside0.mk (hbox); have n2_ := Aside0.mk ((by rw [hg]; exact (below_size (by repeat (first | (with_reducible first | exact HB.out | apply below_alloc | apply pw_below_drewN | apply below_drew1) | exact HB.out))) : w.heap.size ≤ gb358)); have n3_ := Aside0.mk ((by rw [hg]; exact (below_size (by repeat (first | (with_reducible first | exact HB.out | apply below_alloc | apply pw_below_drewN | apply below_drew1) | exact HB.out))) : w.heap.size ≤ gb358)); clear HB; have HB := n0_; have BK358 := n1_; have GW358 := n2_; have GE358 := n3_; clear n0_ n1_ n2_ n3_; clear hb hbox hg) | ((with_reducible refine gate_dst (N := 3) rfl ?_); refine box_event ?hg (N := 3) ?hd (cs := #[.int .i64 a1_0, .int .i64 a1_1]) (t := 32) ?hr ?_; (case hd => rfl); (case hg => rfl); (case hr => first | (go_simp; done) | (go_simp; rfl)); intro gb359 hg w11 hbox hb; have n0_ := Aside0.mk (blk_below (g := gb358) (o := .cells #[.int .i64 a0_0, .int .i64 a0_1] 32 (0, 0)) (by (with_reducible repeat (first | refine blk_drewN ?_ _ | refine blk_drew ?_ | refine blk_alloc ?_ _)); exact BK358.out) hb); have n1_ := Aside0.mk (below_step (by repeat (first | (with_reducible first | exact HB.out | apply below_alloc | apply pw_below_drewN | apply below_drew1 | refine below_set ?_ GE358.out) | exact HB.out)) hb); have n2_ := Aside0.mk (hbox); have n3_ := Aside0.mk ((by rw [hg]; exact (below_size (by repeat (first | (with_reducible first | exact HB.out | apply below_alloc | apply pw_below_drewN | apply below_drew1 | refine below_set ?_ GE358.out) | exact HB.out))) : w.heap.size ≤ gb359)); have n4_ := Aside0.mk ((by rw [hg]; exact (below_size (by repeat (first | (with_reducible first | exact HB.out | apply below_alloc | apply pw_below_drewN | apply below_drew1 | refine below_set ?_ GE358.out) | exact HB.out))) : w.heap.size ≤ gb359)); have n5_ := Aside0.mk ((by rw [hg]; exact Nat.ne_of_lt (blk_lt (g := gb358) (o := .cells #[.int .i64 a0_0, .int .i64 a0_1] 32 (0, 0)) (by (with_reducible repeat (first | refine blk_drewN ?_ _ | refine blk_drew ?_ | refine blk_alloc ?_ _)); exact BK358.out)) : gb358 ≠ gb359)); have n6_ := Aside0.mk ((by rw [hg]; exact Nat.ne_of_gt (blk_lt (g := gb358) (o := .cells #[.int .i64 a0_0, .int .i64 a0_1] 32 (0, 0)) (by (with_reducible repeat (first | refine blk_drewN ?_ _ | refine blk_drew ?_ | refine blk_alloc ?_ _)); exact BK358.out)) : gb359 ≠ gb358)); clear BK358; clear HB; have BK358 := n0_; have HB := n1_; have BK359 := n2_; have GW359 := n3_; have GE359 := n4_; have NB358_359 := n5_; have NB359_358 := n6_; clear n0_ n1_ n2_ n3_ n4_ n5_ n6_; clear hb hbox hg; have hnb12 := NB358_359.out; have hnc12 := NB359_358.out; have hcz13_0 : w11.cell? ⟨gb358, 0, none⟩ = some (.int .i64 a0_0) := (blk_cell BK358.out 0).trans rfl; have hcz13_1 : w11.cell? ⟨gb358, 1, none⟩ = some (.int .i64 a0_1) := (blk_cell BK358.out 1).trans rfl; have hfz13_0 := blk_frozen BK358.out 0; have hfz13_1 := blk_frozen BK358.out 1; have hcz14_0 : w11.cell? ⟨gb359, 0, none⟩ = some (.int .i64 a1_0) := (blk_cell BK359.out 0).trans rfl; have hcz14_1 : w11.cell? ⟨gb359, 1, none⟩ = some (.int .i64 a1_1) := (blk_cell BK359.out 1).trans rfl; have hfz14_0 := blk_frozen BK359.out 0; have hfz14_1 := blk_frozen BK359.out 1))
 go_ret
 exact ⟨by first | rfl | (simp [errW_none, errW_some] <;> rfl) | (simp [*, errW_none, errW_some] <;> rfl), by repeat (first | (with_reducible first | exact HB.out | apply below_alloc | apply pw_below_drewN | apply below_drew1 | refine below_set ?_ GE358.out | refine below_set ?_ GE359.out) | exact HB.out)⟩

end Go.Proofs.Ytoonahobmlnflaa.PC
