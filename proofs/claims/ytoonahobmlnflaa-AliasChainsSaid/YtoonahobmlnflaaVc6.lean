/- Texts of this claim, one behind the other. -/
import Derived.Test.YtoonahobmlnflaaVc5
set_option linter.unusedVariables false
set_option linter.unusedSimpArgs false
set_option maxRecDepth 100000
set_option maxHeartbeats 16000000
namespace Go.Proofs.Ytoonahobmlnflaa.PC
open Go.RowKit A B C
attribute [local go_sem] yC yE xO xP yK yL yD yF
mutual
def zH.j0 : Nat → Int → Bool → Int → Int → Int → Int → Option (Int × Int × Int)
  | 0, _, _, _, _, _, _ => none
  | k + 1, x1, x23, x352000, x352001, x354000, x354001 => if x23 = true then (some (0, 0, 1)) else (if x1 < 0 then ((xQ.f k x354000 x354001 x352000 x352001).bind fun bt355 => (if bt355.2.2 = 0 then ((zH.f k bt355.1 bt355.2.1 (wrap64 (-x1))).bind fun bt359 => (some (bt359.1, bt359.2.1, bt359.2.2))) else (some (0, 0, bt355.2.2)))) else (zH.l0 k x1 0 x352000 x352001 x354000 x354001))
def zH.l0 : Nat → Int → Int → Int → Int → Int → Int → Option (Int × Int × Int)
  | 0, _, _, _, _, _, _ => none
  | k + 1, x44, x45, x352000, x352001, x363000, x363001 => if x45 < x44 then ((yA.f k x363000 x363001 x352000 x352001).bind fun bt363 => (if bt363.2.2 = 0 then (zH.l0 k x44 (wrap64 (x45 + 1)) x352000 x352001 bt363.1 bt363.2.1) else (some (0, 0, bt363.2.2)))) else (some (x363000, x363001, 0))
def zH.f : Nat → Int → Int → Int → Option (Int × Int × Int)
  | 0, _, _, _ => none
  | k + 1, a0_0, a0_1, a1 => (zO.f k a0_0 a0_1).bind fun t354 => (if t354 = true then (if a1 < (-64) then (zH.j0 k a1 true a0_0 a0_1 1 1) else (zH.j0 k a1 (decide (a1 > 64)) a0_0 a0_1 1 1)) else (zH.j0 k a1 true a0_0 a0_1 1 1))
end
theorem zH.calls (k : Nat) : ∀ (a0_0 : Int) (a0_1 : Int) (a1 : Int) (r1 : Int) (r2 : Int) (r3 : Int) (w : World) (h : zH.f k a0_0 a0_1 a1 = some (r1, r2, r3)),
    Calls Try.prog 107 #[.agg #[.int .i64 a0_0, .int .i64 a0_1], .int .i64 a1] w fun e w' => e = .returned (.tuple #[.agg #[.int .i64 r1, .int .i64 r2], .int .i64 r3]) ∧ Below w.heap.size w w' := by
 induction k using Nat.strongRecOn with
 | _ k ih =>
 intro a0_0 a0_1 a1 r1 r2 r3 w h
 cases k with
 | zero => exact absurd h (by simp [zH.f])
 | succ k =>
 simp only [zH.f] at h
 have hu30 := Try.underlying30
 have HB := aq (Below.refl w.heap.size w)
 have H : ((zO.f k a0_0 a0_1).bind fun t354 => (if t354 = true then (if a1 < (-64) then (zH.j0 k a1 true a0_0 a0_1 1 1) else (zH.j0 k a1 (decide (a1 > 64)) a0_0 a0_1 1 1)) else (zH.j0 k a1 true a0_0 a0_1 1 1))) = some (r1, r2, r3) := h
 clear h
 have HC3 := aq H
 clear H
 go_enter Try.func107, Try.ntmps107
 go_upto_region 2 with (first | ((with_reducible refine gD (N := 2) rfl ?_); refine bE ?hg (N := 2) ?hd (cs := #[.int .i64 a0_0, .int .i64 a0_1]) (t := 30) ?hr ?_; (case hd => rfl); (case hg => rfl); (case hr => first | (go_simp; done) | (go_simp; rfl)); intro gb351 hg w4 hbox hb; have n0_ := aq (bt_ (ul HB.out) hb); have n1_ := aq (hbox); have n2_ := aq ((by rw [hg]; exact (bz_ (ul HB.out)) : w.heap.size ≤ gb351)); have n3_ := aq ((by rw [hg]; exact (bz_ (ul HB.out)) : w.heap.size ≤ gb351)); clear HB; have HB := n0_; have BK351 := n1_; have GW351 := n2_; have GE351 := n3_; clear n0_ n1_ n2_ n3_; clear hb hbox hg) | ((with_reducible refine gD (N := 4) rfl ?_); refine bE ?hg (N := 4) ?hd (cs := #[.int .i64 0, .int .i64 0]) (t := 30) ?hr ?_; (case hd => rfl); (case hg => rfl); (case hr => first | (go_simp; done) | (go_simp; rfl)); intro gb352 hg w5 hbox hb; have n0_ := bk BK351 hb; have n1_ := aq (bt_ (by repeat first | exact HB.out | refine bs_ ?_ GE351.out | refine ul ?_) hb); have n2_ := aq (hbox); have n3_ := aq ((by rw [hg]; exact (bz_ (by repeat first | exact HB.out | refine bs_ ?_ GE351.out | refine ul ?_)) : w.heap.size ≤ gb352)); have n4_ := aq ((by rw [hg]; exact (bz_ (by repeat first | exact HB.out | refine bs_ ?_ GE351.out | refine ul ?_)) : w.heap.size ≤ gb352)); have n5_ := aq ((by rw [hg]; exact Nat.ne_of_lt (zN (g := gb351) (o := .cells #[.int .i64 a0_0, .int .i64 a0_1] 30 (0, 0)) (ub BK351.out)) : gb351 ≠ gb352)); have n6_ := aq ((by rw [hg]; exact Nat.ne_of_gt (zN (g := gb351) (o := .cells #[.int .i64 a0_0, .int .i64 a0_1] 30 (0, 0)) (ub BK351.out)) : gb352 ≠ gb351)); clear BK351; clear HB; have BK351 := n0_; have HB := n1_; have BK352 := n2_; have GW352 := n3_; have GE352 := n4_; have NB351_352 := n5_; have NB352_351 := n6_; clear n0_ n1_ n2_ n3_ n4_ n5_ n6_; clear hb hbox hg) | ((with_reducible refine gD (N := 6) rfl ?_); refine bE ?hg (N := 6) ?hd (cs := #[.int .i64 0, .int .i64 0]) (t := 30) ?hr ?_; (case hd => rfl); (case hg => rfl); (case hr => first | (go_simp; done) | (go_simp; rfl)); intro gb353 hg w6 hbox hb; have n0_ := bk BK351 hb; have n1_ := bk BK352 hb; have n2_ := aq (bt_ (by repeat first | exact HB.out | refine bs_ ?_ GE351.out | refine bs_ ?_ GE352.out | refine ul ?_) hb); have n3_ := aq (hbox); have n4_ := aq ((by rw [hg]; exact (bz_ (by repeat first | exact HB.out | refine bs_ ?_ GE351.out | refine bs_ ?_ GE352.out | refine ul ?_)) : w.heap.size ≤ gb353)); have n5_ := aq ((by rw [hg]; exact (bz_ (by repeat first | exact HB.out | refine bs_ ?_ GE351.out | refine bs_ ?_ GE352.out | refine ul ?_)) : w.heap.size ≤ gb353)); have n6_ := aq ((by rw [hg]; exact Nat.ne_of_lt (zN (g := gb351) (o := .cells #[.int .i64 a0_0, .int .i64 a0_1] 30 (0, 0)) (ub BK351.out)) : gb351 ≠ gb353)); have n7_ := aq ((by rw [hg]; exact Nat.ne_of_gt (zN (g := gb351) (o := .cells #[.int .i64 a0_0, .int .i64 a0_1] 30 (0, 0)) (ub BK351.out)) : gb353 ≠ gb351)); have n8_ := aq ((by rw [hg]; exact Nat.ne_of_lt (zN (g := gb352) (o := .cells #[.int .i64 0, .int .i64 0] 30 (0, 0)) (ub BK352.out)) : gb352 ≠ gb353)); have n9_ := aq ((by rw [hg]; exact Nat.ne_of_gt (zN (g := gb352) (o := .cells #[.int .i64 0, .int .i64 0] 30 (0, 0)) (ub BK352.out)) : gb353 ≠ gb352)); clear BK351; clear BK352; clear HB; have BK351 := n0_; have BK352 := n1_; have HB := n2_; have BK353 := n3_; have GW353 := n4_; have GE353 := n5_; have NB351_353 := n6_; have NB353_351 := n7_; have NB352_353 := n8_; have NB353_352 := n9_; clear n0_ n1_ n2_ n3_ n4_ n5_ n6_ n7_ n8_ n9_; clear hb hbox hg; have hnb7 := NB353_351.out; have hnc7 := NB351_353.out; have hnb8 := NB353_352.out; have hnc8 := NB352_353.out; have hcz9_0 := bT BK353.out 0 (.int .i64 0); have hcz9_1 := bT BK353.out 1 (.int .i64 0); have hfz9_0 := bf_ BK353.out 0; have hfz9_1 := bf_ BK353.out 1))
 (try simp only [Act.put, List.setIfInBounds_toArray, List.set_cons_zero, List.set_cons_succ])
 go_cut [23] (fun v23 wc => ∃ (kq : Nat) (x23_2 : Bool), v23 = .bool x23_2 ∧ zT (zH.j0 kq a1 x23_2 a0_0 a0_1 1 1 = some (r1, r2, r3)) ∧ zT (kq ≤ k) ∧ zT (wc.heap[gb351]? = some (.cells #[.int .i64 a0_0, .int .i64 a0_1] 30 (0, 0))) ∧ zT (wc.heap[gb352]? = some (.cells #[.int .i64 0, .int .i64 0] 30 (0, 0))) ∧ zT (wc.heap[gb353]? = some (.cells #[.int .i64 1, .int .i64 1] 30 (0, 0))) ∧ zT (Below w.heap.size w wc))
 case first =>
  have H := HC3.out
  clear HC3
  replace H := Option.bind_eq_some_iff.mp H
  obtain ⟨t354, A100, H⟩ := H
  try dsimp only at H
  have A10 := aq A100
  clear A100
  by_cases c11 : t354 = true
  case neg =>
   replace c11 := Bool.eq_false_iff.mpr c11
   subst c11
   have H1 : (zH.j0 k a1 true a0_0 a0_1 1 1) = some (r1, r2, r3) := by rw [if_neg (show ¬ (false = true) by decide)] at H; exact H
   clear H
   have H := H1
   clear H1
   have H' := aq H
   clear H
   have hcz23_0 := bT BK351.out 0 (.int .i64 a0_0)
   have hcz23_1 := bT BK351.out 1 (.int .i64 a0_1)
   have hfz23_0 := bf_ BK351.out 0
   have hfz23_1 := bf_ BK351.out 1
   go_wp2_with (first | ((with_reducible refine xL (f := 59) rfl ?_); refine tS (some 14) rfl rfl Try.func59 (by kernel_rfl) rfl #[.agg #[.int .i64 a0_0, .int .i64 a0_1]] rfl (by simp only [List.map_toArray, List.map_cons, List.map_nil] <;> rfl) ?_; (with_reducible refine (zO.calls k a0_0 a0_1 false _ A10.out).mono ?_); rintro e w24 ⟨rfl, hb⟩; refine ⟨_, rfl, ?_⟩; replace BK351 := aq (bb_ (g := gb351) (o := .cells #[.int .i64 a0_0, .int .i64 a0_1] 30 (0, 0)) (by refine ub ?_; refine yQ ?_ NB351_353.out _; refine ub ?_; refine yQ ?_ NB351_353.out _; refine ub ?_; exact BK351.out) hb); replace BK352 := aq (bb_ (g := gb352) (o := .cells #[.int .i64 0, .int .i64 0] 30 (0, 0)) (by refine ub ?_; refine yQ ?_ NB352_353.out _; refine ub ?_; refine yQ ?_ NB352_353.out _; refine ub ?_; exact BK352.out) hb); replace BK353 := aq (bb_ (g := gb353) (o := .cells #[.int .i64 1, .int .i64 1] 30 (0, 0)) (by refine ub ?_; refine yV (cs := #[.int .i64 1, .int .i64 0]) ?_ 1 _ rfl; refine ub ?_; refine yV (cs := #[.int .i64 0, .int .i64 0]) ?_ 0 _ rfl; refine ub ?_; exact BK353.out) hb); replace HB := aq (bt_ (by repeat first | exact HB.out | refine bs_ ?_ GE351.out | refine bs_ ?_ GE352.out | refine bs_ ?_ GE353.out | refine ul ?_) hb)))
   go_meet
   case rel => exact ⟨_, (true), (by first | rfl | simp [*]), H', ⟨by first | omega | exact Nat.le_refl _⟩, ⟨ub BK351.out⟩, ⟨ub BK352.out⟩, ⟨ub BK353.out⟩, ⟨by repeat first | exact HB.out | refine bs_ ?_ GE351.out | refine bs_ ?_ GE352.out | refine bs_ ?_ GE353.out | refine ul ?_⟩⟩
  subst c11
  have H1 : (if a1 < (-64) then (zH.j0 k a1 true a0_0 a0_1 1 1) else (zH.j0 k a1 (decide (a1 > 64)) a0_0 a0_1 1 1)) = some (r1, r2, r3) := by rw [if_pos rfl] at H; exact H
  clear H
  have H := H1
  clear H1
  by_cases c12 : a1 < (-64)
  case pos =>
   rw [if_pos c12] at H
   have c12b0 : decide (a1 < (-64)) = true := decide_eq_true c12
   clear c12
   (first | rw [c12b0] | (simp only [iw, jw]; rw [c12b0]) | skip)
   have H' := aq H
   clear H
   have hcz15_0 := bT BK351.out 0 (.int .i64 a0_0)
   have hcz15_1 := bT BK351.out 1 (.int .i64 a0_1)
   have hfz15_0 := bf_ BK351.out 0
   have hfz15_1 := bf_ BK351.out 1
   go_wp2_with (first | ((with_reducible refine xL (f := 59) rfl ?_); refine tS (some 14) rfl rfl Try.func59 (by kernel_rfl) rfl #[.agg #[.int .i64 a0_0, .int .i64 a0_1]] rfl (by simp only [List.map_toArray, List.map_cons, List.map_nil] <;> rfl) ?_; (with_reducible refine (zO.calls k a0_0 a0_1 true _ A10.out).mono ?_); rintro e w16 ⟨rfl, hb⟩; refine ⟨_, rfl, ?_⟩; replace BK351 := aq (bb_ (g := gb351) (o := .cells #[.int .i64 a0_0, .int .i64 a0_1] 30 (0, 0)) (by refine ub ?_; refine yQ ?_ NB351_353.out _; refine ub ?_; refine yQ ?_ NB351_353.out _; refine ub ?_; exact BK351.out) hb); replace BK352 := aq (bb_ (g := gb352) (o := .cells #[.int .i64 0, .int .i64 0] 30 (0, 0)) (by refine ub ?_; refine yQ ?_ NB352_353.out _; refine ub ?_; refine yQ ?_ NB352_353.out _; refine ub ?_; exact BK352.out) hb); replace BK353 := aq (bb_ (g := gb353) (o := .cells #[.int .i64 1, .int .i64 1] 30 (0, 0)) (by refine ub ?_; refine yV (cs := #[.int .i64 1, .int .i64 0]) ?_ 1 _ rfl; refine ub ?_; refine yV (cs := #[.int .i64 0, .int .i64 0]) ?_ 0 _ rfl; refine ub ?_; exact BK353.out) hb); replace HB := aq (bt_ (by repeat first | exact HB.out | refine bs_ ?_ GE351.out | refine bs_ ?_ GE352.out | refine bs_ ?_ GE353.out | refine ul ?_) hb)))
   go_meet
   case rel => exact ⟨_, (true), (by first | rfl | simp [*]), H', ⟨by first | omega | exact Nat.le_refl _⟩, ⟨ub BK351.out⟩, ⟨ub BK352.out⟩, ⟨ub BK353.out⟩, ⟨by repeat first | exact HB.out | refine bs_ ?_ GE351.out | refine bs_ ?_ GE352.out | refine bs_ ?_ GE353.out | refine ul ?_⟩⟩
  rw [if_neg c12] at H
  have c12b0 : decide (a1 < (-64)) = false := decide_eq_false c12
  clear c12
  (first | rw [c12b0] | (simp only [iw, jw]; rw [c12b0]) | skip)
  have H' := aq H
  clear H
  have hcz19_0 := bT BK351.out 0 (.int .i64 a0_0)
  have hcz19_1 := bT BK351.out 1 (.int .i64 a0_1)
  have hfz19_0 := bf_ BK351.out 0
  have hfz19_1 := bf_ BK351.out 1
  go_wp2_with (first | ((with_reducible refine xL (f := 59) rfl ?_); refine tS (some 14) rfl rfl Try.func59 (by kernel_rfl) rfl #[.agg #[.int .i64 a0_0, .int .i64 a0_1]] rfl (by simp only [List.map_toArray, List.map_cons, List.map_nil] <;> rfl) ?_; (with_reducible refine (zO.calls k a0_0 a0_1 true _ A10.out).mono ?_); rintro e w20 ⟨rfl, hb⟩; refine ⟨_, rfl, ?_⟩; replace BK351 := aq (bb_ (g := gb351) (o := .cells #[.int .i64 a0_0, .int .i64 a0_1] 30 (0, 0)) (by refine ub ?_; refine yQ ?_ NB351_353.out _; refine ub ?_; refine yQ ?_ NB351_353.out _; refine ub ?_; exact BK351.out) hb); replace BK352 := aq (bb_ (g := gb352) (o := .cells #[.int .i64 0, .int .i64 0] 30 (0, 0)) (by refine ub ?_; refine yQ ?_ NB352_353.out _; refine ub ?_; refine yQ ?_ NB352_353.out _; refine ub ?_; exact BK352.out) hb); replace BK353 := aq (bb_ (g := gb353) (o := .cells #[.int .i64 1, .int .i64 1] 30 (0, 0)) (by refine ub ?_; refine yV (cs := #[.int .i64 1, .int .i64 0]) ?_ 1 _ rfl; refine ub ?_; refine yV (cs := #[.int .i64 0, .int .i64 0]) ?_ 0 _ rfl; refine ub ?_; exact BK353.out) hb); replace HB := aq (bt_ (by repeat first | exact HB.out | refine bs_ ?_ GE351.out | refine bs_ ?_ GE352.out | refine bs_ ?_ GE353.out | refine ul ?_) hb)))
  go_meet
  case rel => exact ⟨_, (decide (a1 > 64)), (by first | rfl | simp [*]), H', ⟨by first | omega | exact Nat.le_refl _⟩, ⟨ub BK351.out⟩, ⟨ub BK352.out⟩, ⟨ub BK353.out⟩, ⟨by repeat first | exact HB.out | refine bs_ ?_ GE351.out | refine bs_ ?_ GE352.out | refine bs_ ?_ GE353.out | refine ul ?_⟩⟩
 case rest =>
  clear HC3
  obtain ⟨kq, x23_2, rfl, HA, HJ2, BK351, BK352, BK353, HB⟩ := hcut
  cases kq with
  | zero => exact absurd HA.out (by simp [zH.j0])
  | succ kj2 =>
   have H := HA.out
   clear HA
   simp only [zH.j0] at H
   by_cases c25 : x23_2 = true
   case pos =>
    subst c25
    have H1 : (some (0, 0, 1)) = some (r1, r2, r3) := by rw [if_pos rfl] at H; exact H
    clear H
    have H := H1
    clear H1
    simp only [Option.some.injEq, Prod.mk.injEq] at H
    obtain ⟨rfl, rfl, rfl⟩ := H
    have hcz28_0 := bT BK352.out 0 (.int .i64 0)
    have hcz28_1 := bT BK352.out 1 (.int .i64 0)
    have hfz28_0 := bf_ BK352.out 0
    have hfz28_1 := bf_ BK352.out 1
    go_wp2
    refine bodyPost_ret (zB rfl _ _ gb352 30 #[.int .i64 0, .int .i64 0] (0, 0) _ rfl (by refine ub ?_; refine yV (cs := #[.int .i64 0, .int .i64 0]) ?_ 1 _ rfl; refine ub ?_; refine yV (cs := #[.int .i64 0, .int .i64 0]) ?_ 0 _ rfl; refine ub ?_; exact BK352.out) Try.underlying30 rfl (by kernel_rfl)) rfl ?_
    exact ⟨by first | rfl | (simp [eN_, eS_] <;> rfl) | (simp [*, eN_, eS_] <;> rfl), by repeat first | exact HB.out | refine bs_ ?_ GE351.out | refine bs_ ?_ GE352.out | refine bs_ ?_ GE353.out | refine ul ?_⟩
   replace c25 := Bool.eq_false_iff.mpr c25
   subst c25
   have H1 : (if a1 < 0 then ((xQ.f kj2 1 1 a0_0 a0_1).bind fun bt355 => (if bt355.2.2 = 0 then ((zH.f kj2 bt355.1 bt355.2.1 (wrap64 (-a1))).bind fun bt359 => (some (bt359.1, bt359.2.1, bt359.2.2))) else (some (0, 0, bt355.2.2)))) else (zH.l0 kj2 a1 0 a0_0 a0_1 1 1)) = some (r1, r2, r3) := by rw [if_neg (show ¬ (false = true) by decide)] at H; exact H
   clear H
   have H := H1
   clear H1
   by_cases c29 : a1 < 0
   case pos =>
    rw [if_pos c29] at H
    have c29b0 : decide (a1 < 0) = true := decide_eq_true c29
    clear c29
    replace H := Option.bind_eq_some_iff.mp H
    obtain ⟨⟨t355, t356, t357⟩, A300, H⟩ := H
    try dsimp only at H
    have A30 := aq A300
    clear A300
    by_cases c31 : t357 = 0
    case neg =>
     rw [if_neg c31] at H
     have c31b0 : (t357 == 0) = false := beq_eq_false_iff_ne.mpr c31
     have c31b1 : (t357 != 0) = true := bne_iff_ne.mpr c31
     simp only [Option.some.injEq, Prod.mk.injEq] at H
     obtain ⟨rfl, rfl, rfl⟩ := H
     have hcz48_0 := bT BK353.out 0 (.int .i64 1)
     have hcz48_1 := bT BK353.out 1 (.int .i64 1)
     have hfz48_0 := bf_ BK353.out 0
     have hfz48_1 := bf_ BK353.out 1
     have hcz50_0 := bT BK351.out 0 (.int .i64 a0_0)
     have hcz50_1 := bT BK351.out 1 (.int .i64 a0_1)
     have hfz50_0 := bf_ BK351.out 0
     have hfz50_1 := bf_ BK351.out 1
     go_wp2_with (first | ((with_reducible refine xL (f := 99) rfl ?_); refine tS (some 30) rfl rfl Try.func99 (by kernel_rfl) rfl #[.agg #[.int .i64 1, .int .i64 1], .agg #[.int .i64 a0_0, .int .i64 a0_1]] rfl (by simp only [List.map_toArray, List.map_cons, List.map_nil] <;> rfl) ?_; (with_reducible refine (xQ.calls kj2 1 1 a0_0 a0_1 t355 t356 t357 _ A30.out).mono ?_); rintro e w51 ⟨rfl, hb⟩; refine ⟨_, rfl, ?_⟩; replace BK351 := bk BK351 hb; replace BK352 := bk BK352 hb; replace BK353 := bk BK353 hb; replace HB := aq (bt_ (by repeat first | exact HB.out | refine bs_ ?_ GE351.out | refine bs_ ?_ GE352.out | refine bs_ ?_ GE353.out | refine ul ?_) hb)) | ((with_reducible refine gD (N := 7) rfl ?_); refine bE ?hg (N := 7) ?hd (cs := #[.int .i64 0, .int .i64 0]) (t := 30) ?hr ?_; (case hd => rfl); (case hg => rfl); (case hr => first | (go_simp; done) | (go_simp; rfl)); intro gb358 hg w52 hbox hb; have n0_ := bk BK351 hb; have n1_ := bk BK352 hb; have n2_ := bk BK353 hb; have n3_ := aq (bt_ (by repeat first | exact HB.out | refine bs_ ?_ GE351.out | refine bs_ ?_ GE352.out | refine bs_ ?_ GE353.out | refine ul ?_) hb); have n4_ := aq (hbox); have n5_ := aq ((by rw [hg]; exact (bz_ (by repeat first | exact HB.out | refine bs_ ?_ GE351.out | refine bs_ ?_ GE352.out | refine bs_ ?_ GE353.out | refine ul ?_)) : w.heap.size ≤ gb358)); have n6_ := aq ((by rw [hg]; exact (bz_ (by repeat first | exact HB.out | refine bs_ ?_ GE351.out | refine bs_ ?_ GE352.out | refine bs_ ?_ GE353.out | refine ul ?_)) : w.heap.size ≤ gb358)); have n7_ := aq ((by rw [hg]; exact Nat.ne_of_lt (zN (g := gb351) (o := .cells #[.int .i64 a0_0, .int .i64 a0_1] 30 (0, 0)) (ub BK351.out)) : gb351 ≠ gb358)); have n8_ := aq ((by rw [hg]; exact Nat.ne_of_gt (zN (g := gb351) (o := .cells #[.int .i64 a0_0, .int .i64 a0_1] 30 (0, 0)) (ub BK351.out)) : gb358 ≠ gb351)); have n9_ := aq ((by rw [hg]; exact Nat.ne_of_lt (zN (g := gb352) (o := .cells #[.int .i64 0, .int .i64 0] 30 (0, 0)) (ub BK352.out)) : gb352 ≠ gb358)); have n10_ := aq ((by rw [hg]; exact Nat.ne_of_gt (zN (g := gb352) (o := .cells #[.int .i64 0, .int .i64 0] 30 (0, 0)) (ub BK352.out)) : gb358 ≠ gb352)); have n11_ := aq ((by rw [hg]; exact Nat.ne_of_lt (zN (g := gb353) (o := .cells #[.int .i64 1, .int .i64 1] 30 (0, 0)) (ub BK353.out)) : gb353 ≠ gb358)); have n12_ := aq ((by rw [hg]; exact Nat.ne_of_gt (zN (g := gb353) (o := .cells #[.int .i64 1, .int .i64 1] 30 (0, 0)) (ub BK353.out)) : gb358 ≠ gb353)); clear BK351; clear BK352; clear BK353; clear HB; have BK351 := n0_; have BK352 := n1_; have BK353 := n2_; have HB := n3_; have BK358 := n4_; have GW358 := n5_; have GE358 := n6_; have NB351_358 := n7_; have NB358_351 := n8_; have NB352_358 := n9_; have NB358_352 := n10_; have NB353_358 := n11_; have NB358_353 := n12_; clear n0_ n1_ n2_ n3_ n4_ n5_ n6_ n7_ n8_ n9_ n10_ n11_ n12_; clear hb hbox hg; have hnb53 := NB358_351.out; have hnc53 := NB351_358.out; have hnb54 := NB358_352.out; have hnc54 := NB352_358.out; have hnb55 := NB358_353.out; have hnc55 := NB353_358.out; have hcz56_0 := bT BK358.out 0 (.int .i64 0); have hcz56_1 := bT BK358.out 1 (.int .i64 0); have hfz56_0 := bf_ BK358.out 0; have hfz56_1 := bf_ BK358.out 1; have hcz57_0 := bT BK352.out 0 (.int .i64 0); have hcz57_1 := bT BK352.out 1 (.int .i64 0); have hfz57_0 := bf_ BK352.out 0; have hfz57_1 := bf_ BK352.out 1))
     refine bodyPost_ret (zB rfl _ _ gb352 30 #[.int .i64 0, .int .i64 0] (0, 0) _ rfl (by refine ub ?_; refine yV (cs := #[.int .i64 0, .int .i64 0]) ?_ 1 _ rfl; refine ub ?_; refine yV (cs := #[.int .i64 0, .int .i64 0]) ?_ 0 _ rfl; refine ub ?_; refine yQ ?_ NB352_358.out _; refine ub ?_; refine yQ ?_ NB352_358.out _; refine ub ?_; exact BK352.out) Try.underlying30 rfl (by kernel_rfl)) rfl ?_
     exact ⟨by first | rfl | (simp [eN_, eS_] <;> rfl) | (simp [*, eN_, eS_] <;> rfl), by repeat first | exact HB.out | refine bs_ ?_ GE351.out | refine bs_ ?_ GE352.out | refine bs_ ?_ GE353.out | refine bs_ ?_ GE358.out | refine ul ?_⟩
    rw [if_pos c31] at H
    have c31b0 : (t357 == 0) = true := beq_iff_eq.mpr c31
    have c31b1 : (t357 != 0) = false := bne_eq_false_iff_eq.mpr c31
    clear c31
    replace H := Option.bind_eq_some_iff.mp H
    obtain ⟨⟨t359, t360, t361⟩, A320, H⟩ := H
    try dsimp only at H
    have A32 := aq A320
    clear A320
    simp only [Option.some.injEq, Prod.mk.injEq] at H
    obtain ⟨rfl, rfl, rfl⟩ := H
    have hcz35_0 := bT BK353.out 0 (.int .i64 1)
    have hcz35_1 := bT BK353.out 1 (.int .i64 1)
    have hfz35_0 := bf_ BK353.out 0
    have hfz35_1 := bf_ BK353.out 1
    have hcz37_0 := bT BK351.out 0 (.int .i64 a0_0)
    have hcz37_1 := bT BK351.out 1 (.int .i64 a0_1)
    have hfz37_0 := bf_ BK351.out 0
    have hfz37_1 := bf_ BK351.out 1
    go_wp2_with (first | ((with_reducible refine xL (f := 99) rfl ?_); refine tS (some 30) rfl rfl Try.func99 (by kernel_rfl) rfl #[.agg #[.int .i64 1, .int .i64 1], .agg #[.int .i64 a0_0, .int .i64 a0_1]] rfl (by simp only [List.map_toArray, List.map_cons, List.map_nil] <;> rfl) ?_; (with_reducible refine (xQ.calls kj2 1 1 a0_0 a0_1 t355 t356 t357 _ A30.out).mono ?_); rintro e w38 ⟨rfl, hb⟩; refine ⟨_, rfl, ?_⟩; replace BK351 := bk BK351 hb; replace BK352 := bk BK352 hb; replace BK353 := bk BK353 hb; replace HB := aq (bt_ (by repeat first | exact HB.out | refine bs_ ?_ GE351.out | refine bs_ ?_ GE352.out | refine bs_ ?_ GE353.out | refine ul ?_) hb)) | ((with_reducible refine gD (N := 7) rfl ?_); refine bE ?hg (N := 7) ?hd (cs := #[.int .i64 0, .int .i64 0]) (t := 30) ?hr ?_; (case hd => rfl); (case hg => rfl); (case hr => first | (go_simp; done) | (go_simp; rfl)); intro gb358 hg w39 hbox hb; have n0_ := bk BK351 hb; have n1_ := bk BK352 hb; have n2_ := bk BK353 hb; have n3_ := aq (bt_ (by repeat first | exact HB.out | refine bs_ ?_ GE351.out | refine bs_ ?_ GE352.out | refine bs_ ?_ GE353.out | refine ul ?_) hb); have n4_ := aq (hbox); have n5_ := aq ((by rw [hg]; exact (bz_ (by repeat first | exact HB.out | refine bs_ ?_ GE351.out | refine bs_ ?_ GE352.out | refine bs_ ?_ GE353.out | refine ul ?_)) : w.heap.size ≤ gb358)); have n6_ := aq ((by rw [hg]; exact (bz_ (by repeat first | exact HB.out | refine bs_ ?_ GE351.out | refine bs_ ?_ GE352.out | refine bs_ ?_ GE353.out | refine ul ?_)) : w.heap.size ≤ gb358)); have n7_ := aq ((by rw [hg]; exact Nat.ne_of_lt (zN (g := gb351) (o := .cells #[.int .i64 a0_0, .int .i64 a0_1] 30 (0, 0)) (ub BK351.out)) : gb351 ≠ gb358)); have n8_ := aq ((by rw [hg]; exact Nat.ne_of_gt (zN (g := gb351) (o := .cells #[.int .i64 a0_0, .int .i64 a0_1] 30 (0, 0)) (ub BK351.out)) : gb358 ≠ gb351)); have n9_ := aq ((by rw [hg]; exact Nat.ne_of_lt (zN (g := gb352) (o := .cells #[.int .i64 0, .int .i64 0] 30 (0, 0)) (ub BK352.out)) : gb352 ≠ gb358)); have n10_ := aq ((by rw [hg]; exact Nat.ne_of_gt (zN (g := gb352) (o := .cells #[.int .i64 0, .int .i64 0] 30 (0, 0)) (ub BK352.out)) : gb358 ≠ gb352)); have n11_ := aq ((by rw [hg]; exact Nat.ne_of_lt (zN (g := gb353) (o := .cells #[.int .i64 1, .int .i64 1] 30 (0, 0)) (ub BK353.out)) : gb353 ≠ gb358)); have n12_ := aq ((by rw [hg]; exact Nat.ne_of_gt (zN (g := gb353) (o := .cells #[.int .i64 1, .int .i64 1] 30 (0, 0)) (ub BK353.out)) : gb358 ≠ gb353)); clear BK351; clear BK352; clear BK353; clear HB; have BK351 := n0_; have BK352 := n1_; have BK353 := n2_; have HB := n3_; have BK358 := n4_; have GW358 := n5_; have GE358 := n6_; have NB351_358 := n7_; have NB358_351 := n8_; have NB352_358 := n9_; have NB358_352 := n10_; have NB353_358 := n11_; have NB358_353 := n12_; clear n0_ n1_ n2_ n3_ n4_ n5_ n6_ n7_ n8_ n9_ n10_ n11_ n12_; clear hb hbox hg; have hnb40 := NB358_351.out; have hnc40 := NB351_358.out; have hnb41 := NB358_352.out; have hnc41 := NB352_358.out; have hnb42 := NB358_353.out; have hnc42 := NB353_358.out; have hcz43_0 := bT BK358.out 0 (.int .i64 0); have hcz43_1 := bT BK358.out 1 (.int .i64 0); have hfz43_0 := bf_ BK358.out 0; have hfz43_1 := bf_ BK358.out 1) | ((with_reducible refine xL (f := 107) rfl ?_); refine tS (some 40) rfl rfl Try.func107 (by kernel_rfl) rfl #[.agg #[.int .i64 t355, .int .i64 t356], .int .i64 (wrap64 (-a1))] rfl (by simp only [List.map_toArray, List.map_cons, List.map_nil] <;> rfl) ?_; (with_reducible refine (ih kj2 (by have := HJ2.out; omega) t355 t356 (wrap64 (-a1)) t359 t360 t361 _ A32.out).mono ?_); rintro e w44 ⟨rfl, hb⟩; refine ⟨_, rfl, ?_⟩; have n0_ := aq (bb_ (g := gb351) (o := .cells #[.int .i64 a0_0, .int .i64 a0_1] 30 (0, 0)) (by refine ub ?_; refine yQ ?_ NB351_358.out _; refine ub ?_; refine yQ ?_ NB351_358.out _; refine ub ?_; exact BK351.out) hb); have n1_ := aq (bb_ (g := gb352) (o := .cells #[.int .i64 0, .int .i64 0] 30 (0, 0)) (by refine ub ?_; refine yQ ?_ NB352_358.out _; refine ub ?_; refine yQ ?_ NB352_358.out _; refine ub ?_; exact BK352.out) hb); have n2_ := aq (bb_ (g := gb353) (o := .cells #[.int .i64 1, .int .i64 1] 30 (0, 0)) (by refine ub ?_; refine yQ ?_ NB353_358.out _; refine ub ?_; refine yQ ?_ NB353_358.out _; refine ub ?_; exact BK353.out) hb); have n3_ := aq (bb_ (g := gb358) (o := .cells #[.int .i64 t355, .int .i64 t356] 30 (0, 0)) (by refine ub ?_; refine yV (cs := #[.int .i64 t355, .int .i64 0]) ?_ 1 _ rfl; refine ub ?_; refine yV (cs := #[.int .i64 0, .int .i64 0]) ?_ 0 _ rfl; refine ub ?_; exact BK358.out) hb); have n4_ := aq (bt_ (by repeat first | exact HB.out | refine bs_ ?_ GE351.out | refine bs_ ?_ GE352.out | refine bs_ ?_ GE353.out | refine bs_ ?_ GE358.out | refine ul ?_) hb); clear BK351; clear BK352; clear BK353; clear BK358; clear HB; have BK351 := n0_; have BK352 := n1_; have BK353 := n2_; have BK358 := n3_; have HB := n4_; clear n0_ n1_ n2_ n3_ n4_; have hcz45_0 := bT BK352.out 0 (.int .i64 0); have hcz45_1 := bT BK352.out 1 (.int .i64 0); have hfz45_0 := bf_ BK352.out 0; have hfz45_1 := bf_ BK352.out 1))
    refine bodyPost_ret (zB rfl _ _ gb352 30 #[.int .i64 t359, .int .i64 t360] (0, 0) _ rfl (by refine ub ?_; refine yV (cs := #[.int .i64 t359, .int .i64 0]) ?_ 1 _ rfl; refine ub ?_; refine yV (cs := #[.int .i64 0, .int .i64 0]) ?_ 0 _ rfl; refine ub ?_; exact BK352.out) Try.underlying30 rfl (by kernel_rfl)) rfl ?_
    exact ⟨by first | rfl | (simp [eN_, eS_] <;> rfl) | (simp [*, eN_, eS_] <;> rfl), by repeat first | exact HB.out | refine bs_ ?_ GE351.out | refine bs_ ?_ GE352.out | refine bs_ ?_ GE353.out | refine bs_ ?_ GE358.out | refine ul ?_⟩
   rw [if_neg c29] at H
   have c29b0 : decide (a1 < 0) = false := decide_eq_false c29
   clear c29
   have H' := aq H
   clear H
   have hcz60_0 := bT BK353.out 0 (.int .i64 1)
   have hcz60_1 := bT BK353.out 1 (.int .i64 1)
   have hfz60_0 := bf_ BK353.out 0
   have hfz60_1 := bf_ BK353.out 1
   go_wp2_with (first | ((with_reducible refine gD (N := 9) rfl ?_); refine bE ?hg (N := 9) ?hd (cs := #[.int .i64 0, .int .i64 0]) (t := 30) ?hr ?_; (case hd => rfl); (case hg => rfl); (case hr => first | (go_simp; done) | (go_simp; rfl)); intro gb362 hg w61 hbox hb; have n0_ := bk BK351 hb; have n1_ := bk BK352 hb; have n2_ := bk BK353 hb; have n3_ := aq (bt_ (by repeat first | exact HB.out | refine bs_ ?_ GE351.out | refine bs_ ?_ GE352.out | refine bs_ ?_ GE353.out | refine ul ?_) hb); have n4_ := aq (hbox); have n5_ := aq ((by rw [hg]; exact (bz_ (by repeat first | exact HB.out | refine bs_ ?_ GE351.out | refine bs_ ?_ GE352.out | refine bs_ ?_ GE353.out | refine ul ?_)) : w.heap.size ≤ gb362)); have n6_ := aq ((by rw [hg]; exact (bz_ (by repeat first | exact HB.out | refine bs_ ?_ GE351.out | refine bs_ ?_ GE352.out | refine bs_ ?_ GE353.out | refine ul ?_)) : w.heap.size ≤ gb362)); have n7_ := aq ((by rw [hg]; exact Nat.ne_of_lt (zN (g := gb351) (o := .cells #[.int .i64 a0_0, .int .i64 a0_1] 30 (0, 0)) (ub BK351.out)) : gb351 ≠ gb362)); have n8_ := aq ((by rw [hg]; exact Nat.ne_of_gt (zN (g := gb351) (o := .cells #[.int .i64 a0_0, .int .i64 a0_1] 30 (0, 0)) (ub BK351.out)) : gb362 ≠ gb351)); have n9_ := aq ((by rw [hg]; exact Nat.ne_of_lt (zN (g := gb352) (o := .cells #[.int .i64 0, .int .i64 0] 30 (0, 0)) (ub BK352.out)) : gb352 ≠ gb362)); have n10_ := aq ((by rw [hg]; exact Nat.ne_of_gt (zN (g := gb352) (o := .cells #[.int .i64 0, .int .i64 0] 30 (0, 0)) (ub BK352.out)) : gb362 ≠ gb352)); have n11_ := aq ((by rw [hg]; exact Nat.ne_of_lt (zN (g := gb353) (o := .cells #[.int .i64 1, .int .i64 1] 30 (0, 0)) (ub BK353.out)) : gb353 ≠ gb362)); have n12_ := aq ((by rw [hg]; exact Nat.ne_of_gt (zN (g := gb353) (o := .cells #[.int .i64 1, .int .i64 1] 30 (0, 0)) (ub BK353.out)) : gb362 ≠ gb353)); clear BK351; clear BK352; clear BK353; clear HB; have BK351 := n0_; have BK352 := n1_; have BK353 := n2_; have HB := n3_; have BK362 := n4_; have GW362 := n5_; have GE362 := n6_; have NB351_362 := n7_; have NB362_351 := n8_; have NB352_362 := n9_; have NB362_352 := n10_; have NB353_362 := n11_; have NB362_353 := n12_; clear n0_ n1_ n2_ n3_ n4_ n5_ n6_ n7_ n8_ n9_ n10_ n11_ n12_; clear hb hbox hg; have hnb62 := NB362_351.out; have hnc62 := NB351_362.out; have hnb63 := NB362_352.out; have hnc63 := NB352_362.out; have hnb64 := NB362_353.out; have hnc64 := NB353_362.out; have hcz65_0 := bT BK362.out 0 (.int .i64 0); have hcz65_1 := bT BK362.out 1 (.int .i64 0); have hfz65_0 := bf_ BK362.out 0; have hfz65_1 := bf_ BK362.out 1))
   go_loopg [45] kj2 (fun kq v45 w' => ∃ (x45_2 : Int) (x353000_2 : Int) (x353001_2 : Int) (x363000_2 : Int) (x363001_2 : Int), v45 = .int .i64 x45_2 ∧ zT (zH.l0 kq a1 x45_2 a0_0 a0_1 x363000_2 x363001_2 = some (r1, r2, r3)) ∧ zT (kq ≤ kj2) ∧ zT (w'.heap[gb351]? = some (.cells #[.int .i64 a0_0, .int .i64 a0_1] 30 (0, 0))) ∧ zT (w'.heap[gb352]? = some (.cells #[.int .i64 x353000_2, .int .i64 x353001_2] 30 (0, 0))) ∧ zT (w'.heap[gb353]? = some (.cells #[.int .i64 1, .int .i64 1] 30 (0, 0))) ∧ zT (w'.heap[gb362]? = some (.cells #[.int .i64 x363000_2, .int .i64 x363001_2] 30 (0, 0))) ∧ zT (Below w.heap.size w w'))
   case atStart => exact ⟨(0), (0), (0), (1), (1), (by first | rfl | simp [*]), H', ⟨Nat.le_refl _⟩, ⟨by refine ub ?_; refine yQ ?_ NB351_362.out _; refine ub ?_; refine yQ ?_ NB351_362.out _; refine ub ?_; exact BK351.out⟩, ⟨by refine ub ?_; refine yQ ?_ NB352_362.out _; refine ub ?_; refine yQ ?_ NB352_362.out _; refine ub ?_; exact BK352.out⟩, ⟨by refine ub ?_; refine yQ ?_ NB353_362.out _; refine ub ?_; refine yQ ?_ NB353_362.out _; refine ub ?_; exact BK353.out⟩, ⟨by refine ub ?_; refine yV (cs := #[.int .i64 1, .int .i64 0]) ?_ 1 _ rfl; refine ub ?_; refine yV (cs := #[.int .i64 0, .int .i64 0]) ?_ 0 _ rfl; refine ub ?_; exact BK362.out⟩, ⟨by repeat first | exact HB.out | refine bs_ ?_ GE351.out | refine bs_ ?_ GE352.out | refine bs_ ?_ GE353.out | refine bs_ ?_ GE362.out | refine ul ?_⟩⟩
   case round =>
    clear H'
    obtain ⟨x45_2, x353000_2, x353001_2, x363000_2, x363001_2, rfl, HA, HK2, BK351, BK352, BK353, BK362, HB⟩ := hrel
    cases gk with
    | zero => exact absurd HA.out (by simp [zH.l0])
    | succ k2 =>
     have H := HA.out
     clear HA
     simp only [zH.l0] at H
     by_cases c66 : x45_2 < a1
     case neg =>
      rw [if_neg c66] at H
      have c66b0 : decide (x45_2 < a1) = false := decide_eq_false c66
      clear c66
      simp only [Option.some.injEq, Prod.mk.injEq] at H
      obtain ⟨rfl, rfl, rfl⟩ := H
      have hcz103_0 := bT BK362.out 0 (.int .i64 x363000_2)
      have hcz103_1 := bT BK362.out 1 (.int .i64 x363001_2)
      have hfz103_0 := bf_ BK362.out 0
      have hfz103_1 := bf_ BK362.out 1
      have hcz106_0 := bT BK352.out 0 (.int .i64 x353000_2)
      have hcz106_1 := bT BK352.out 1 (.int .i64 x353001_2)
      have hfz106_0 := bf_ BK352.out 0
      have hfz106_1 := bf_ BK352.out 1
      go_wp2
      refine bodyPost_ret (zB rfl _ _ gb352 30 #[.int .i64 x363000_2, .int .i64 x363001_2] (0, 0) _ rfl (by refine ub ?_; refine yV (cs := #[.int .i64 x363000_2, .int .i64 x353001_2]) ?_ 1 _ rfl; refine ub ?_; refine yV (cs := #[.int .i64 x353000_2, .int .i64 x353001_2]) ?_ 0 _ rfl; refine ub ?_; exact BK352.out) Try.underlying30 rfl (by kernel_rfl)) rfl ?_
      exact ⟨by first | rfl | (simp [eN_, eS_] <;> rfl) | (simp [*, eN_, eS_] <;> rfl), by repeat first | exact HB.out | refine bs_ ?_ GE351.out | refine bs_ ?_ GE352.out | refine bs_ ?_ GE353.out | refine bs_ ?_ GE362.out | refine ul ?_⟩
     rw [if_pos c66] at H
     have c66b0 : decide (x45_2 < a1) = true := decide_eq_true c66
     clear c66
     replace H := Option.bind_eq_some_iff.mp H
     obtain ⟨⟨t363, t364, t365⟩, A670, H⟩ := H
     try dsimp only at H
     have A67 := aq A670
     clear A670
     by_cases c68 : t365 = 0
     case neg =>
      rw [if_neg c68] at H
      have c68b0 : (t365 == 0) = false := beq_eq_false_iff_ne.mpr c68
      have c68b1 : (t365 != 0) = true := bne_iff_ne.mpr c68
      simp only [Option.some.injEq, Prod.mk.injEq] at H
      obtain ⟨rfl, rfl, rfl⟩ := H
      have hcz87_0 := bT BK362.out 0 (.int .i64 x363000_2)
      have hcz87_1 := bT BK362.out 1 (.int .i64 x363001_2)
      have hfz87_0 := bf_ BK362.out 0
      have hfz87_1 := bf_ BK362.out 1
      have hcz90_0 := bT BK351.out 0 (.int .i64 a0_0)
      have hcz90_1 := bT BK351.out 1 (.int .i64 a0_1)
      have hfz90_0 := bf_ BK351.out 0
      have hfz90_1 := bf_ BK351.out 1
      go_wp2_with (first | ((with_reducible refine xL (f := 105) rfl ?_); refine tS (some 50) rfl rfl Try.func105 (by kernel_rfl) rfl #[.agg #[.int .i64 x363000_2, .int .i64 x363001_2], .agg #[.int .i64 a0_0, .int .i64 a0_1]] rfl (by simp only [List.map_toArray, List.map_cons, List.map_nil] <;> rfl) ?_; (with_reducible refine (yA.calls k2 x363000_2 x363001_2 a0_0 a0_1 t363 t364 t365 _ A67.out).mono ?_); rintro e w91 ⟨rfl, hb⟩; refine ⟨_, rfl, ?_⟩; replace BK351 := bk BK351 hb; replace BK352 := bk BK352 hb; replace BK353 := bk BK353 hb; replace BK362 := bk BK362 hb; replace HB := aq (bt_ (by repeat first | exact HB.out | refine bs_ ?_ GE351.out | refine bs_ ?_ GE352.out | refine bs_ ?_ GE353.out | refine bs_ ?_ GE362.out | refine ul ?_) hb)) | ((with_reducible refine gD (N := 10) rfl ?_); refine bE ?hg (N := 10) ?hd (cs := #[.int .i64 0, .int .i64 0]) (t := 30) ?hr ?_; (case hd => rfl); (case hg => rfl); (case hr => first | (go_simp; done) | (go_simp; rfl)); intro gb366 hg w92 hbox hb; have n0_ := bk BK351 hb; have n1_ := bk BK352 hb; have n2_ := bk BK353 hb; have n3_ := bk BK362 hb; have n4_ := aq (bt_ (by repeat first | exact HB.out | refine bs_ ?_ GE351.out | refine bs_ ?_ GE352.out | refine bs_ ?_ GE353.out | refine bs_ ?_ GE362.out | refine ul ?_) hb); have n5_ := aq (hbox); have n6_ := aq ((by rw [hg]; exact (bz_ (by repeat first | exact HB.out | refine bs_ ?_ GE351.out | refine bs_ ?_ GE352.out | refine bs_ ?_ GE353.out | refine bs_ ?_ GE362.out | refine ul ?_)) : w.heap.size ≤ gb366)); have n7_ := aq ((by rw [hg]; exact (bz_ (by repeat first | exact HB.out | refine bs_ ?_ GE351.out | refine bs_ ?_ GE352.out | refine bs_ ?_ GE353.out | refine bs_ ?_ GE362.out | refine ul ?_)) : w.heap.size ≤ gb366)); have n8_ := aq ((by rw [hg]; exact Nat.ne_of_lt (zN (g := gb351) (o := .cells #[.int .i64 a0_0, .int .i64 a0_1] 30 (0, 0)) (ub BK351.out)) : gb351 ≠ gb366)); have n9_ := aq ((by rw [hg]; exact Nat.ne_of_gt (zN (g := gb351) (o := .cells #[.int .i64 a0_0, .int .i64 a0_1] 30 (0, 0)) (ub BK351.out)) : gb366 ≠ gb351)); have n10_ := aq ((by rw [hg]; exact Nat.ne_of_lt (zN (g := gb352) (o := .cells #[.int .i64 x353000_2, .int .i64 x353001_2] 30 (0, 0)) (ub BK352.out)) : gb352 ≠ gb366)); have n11_ := aq ((by rw [hg]; exact Nat.ne_of_gt (zN (g := gb352) (o := .cells #[.int .i64 x353000_2, .int .i64 x353001_2] 30 (0, 0)) (ub BK352.out)) : gb366 ≠ gb352)); have n12_ := aq ((by rw [hg]; exact Nat.ne_of_lt (zN (g := gb353) (o := .cells #[.int .i64 1, .int .i64 1] 30 (0, 0)) (ub BK353.out)) : gb353 ≠ gb366)); have n13_ := aq ((by rw [hg]; exact Nat.ne_of_gt (zN (g := gb353) (o := .cells #[.int .i64 1, .int .i64 1] 30 (0, 0)) (ub BK353.out)) : gb366 ≠ gb353)); have n14_ := aq ((by rw [hg]; exact Nat.ne_of_lt (zN (g := gb362) (o := .cells #[.int .i64 x363000_2, .int .i64 x363001_2] 30 (0, 0)) (ub BK362.out)) : gb362 ≠ gb366)); have n15_ := aq ((by rw [hg]; exact Nat.ne_of_gt (zN (g := gb362) (o := .cells #[.int .i64 x363000_2, .int .i64 x363001_2] 30 (0, 0)) (ub BK362.out)) : gb366 ≠ gb362)); clear BK351; clear BK352; clear BK353; clear BK362; clear HB; have BK351 := n0_; have BK352 := n1_; have BK353 := n2_; have BK362 := n3_; have HB := n4_; have BK366 := n5_; have GW366 := n6_; have GE366 := n7_; have NB351_366 := n8_; have NB366_351 := n9_; have NB352_366 := n10_; have NB366_352 := n11_; have NB353_366 := n12_; have NB366_353 := n13_; have NB362_366 := n14_; have NB366_362 := n15_; clear n0_ n1_ n2_ n3_ n4_ n5_ n6_ n7_ n8_ n9_ n10_ n11_ n12_ n13_ n14_ n15_; clear hb hbox hg; have hnb93 := NB366_351.out; have hnc93 := NB351_366.out; have hnb94 := NB366_352.out; have hnc94 := NB352_366.out; have hnb95 := NB366_353.out; have hnc95 := NB353_366.out; have hnb96 := NB366_362.out; have hnc96 := NB362_366.out; have hcz97_0 := bT BK366.out 0 (.int .i64 0); have hcz97_1 := bT BK366.out 1 (.int .i64 0); have hfz97_0 := bf_ BK366.out 0; have hfz97_1 := bf_ BK366.out 1; have hnb98 := NB352_353.out; have hnc98 := NB353_352.out; have hcz99_0 := bT BK352.out 0 (.int .i64 x353000_2); have hcz99_1 := bT BK352.out 1 (.int .i64 x353001_2); have hfz99_0 := bf_ BK352.out 0; have hfz99_1 := bf_ BK352.out 1))
      refine bodyPost_ret (zB rfl _ _ gb352 30 #[.int .i64 0, .int .i64 0] (0, 0) _ rfl (by refine ub ?_; refine yV (cs := #[.int .i64 0, .int .i64 x353001_2]) ?_ 1 _ rfl; refine ub ?_; refine yV (cs := #[.int .i64 x353000_2, .int .i64 x353001_2]) ?_ 0 _ rfl; refine ub ?_; refine yQ ?_ NB352_366.out _; refine ub ?_; refine yQ ?_ NB352_366.out _; refine ub ?_; exact BK352.out) Try.underlying30 rfl (by kernel_rfl)) rfl ?_
      exact ⟨by first | rfl | (simp [eN_, eS_] <;> rfl) | (simp [*, eN_, eS_] <;> rfl), by repeat first | exact HB.out | refine bs_ ?_ GE351.out | refine bs_ ?_ GE352.out | refine bs_ ?_ GE353.out | refine bs_ ?_ GE362.out | refine bs_ ?_ GE366.out | refine ul ?_⟩
     rw [if_pos c68] at H
     have c68b0 : (t365 == 0) = true := beq_iff_eq.mpr c68
     have c68b1 : (t365 != 0) = false := bne_eq_false_iff_eq.mpr c68
     clear c68
     have H' := aq H
     clear H
     have hcz72_0 := bT BK362.out 0 (.int .i64 x363000_2)
     have hcz72_1 := bT BK362.out 1 (.int .i64 x363001_2)
     have hfz72_0 := bf_ BK362.out 0
     have hfz72_1 := bf_ BK362.out 1
     have hcz75_0 := bT BK351.out 0 (.int .i64 a0_0)
     have hcz75_1 := bT BK351.out 1 (.int .i64 a0_1)
     have hfz75_0 := bf_ BK351.out 0
     have hfz75_1 := bf_ BK351.out 1
     go_wp2_with (first | ((with_reducible refine xL (f := 105) rfl ?_); refine tS (some 50) rfl rfl Try.func105 (by kernel_rfl) rfl #[.agg #[.int .i64 x363000_2, .int .i64 x363001_2], .agg #[.int .i64 a0_0, .int .i64 a0_1]] rfl (by simp only [List.map_toArray, List.map_cons, List.map_nil] <;> rfl) ?_; (with_reducible refine (yA.calls k2 x363000_2 x363001_2 a0_0 a0_1 t363 t364 t365 _ A67.out).mono ?_); rintro e w76 ⟨rfl, hb⟩; refine ⟨_, rfl, ?_⟩; replace BK351 := bk BK351 hb; replace BK352 := bk BK352 hb; replace BK353 := bk BK353 hb; replace BK362 := bk BK362 hb; replace HB := aq (bt_ (by repeat first | exact HB.out | refine bs_ ?_ GE351.out | refine bs_ ?_ GE352.out | refine bs_ ?_ GE353.out | refine bs_ ?_ GE362.out | refine ul ?_) hb)) | ((with_reducible refine gD (N := 10) rfl ?_); refine bE ?hg (N := 10) ?hd (cs := #[.int .i64 0, .int .i64 0]) (t := 30) ?hr ?_; (case hd => rfl); (case hg => rfl); (case hr => first | (go_simp; done) | (go_simp; rfl)); intro gb366 hg w77 hbox hb; have n0_ := bk BK351 hb; have n1_ := bk BK352 hb; have n2_ := bk BK353 hb; have n3_ := bk BK362 hb; have n4_ := aq (bt_ (by repeat first | exact HB.out | refine bs_ ?_ GE351.out | refine bs_ ?_ GE352.out | refine bs_ ?_ GE353.out | refine bs_ ?_ GE362.out | refine ul ?_) hb); have n5_ := aq (hbox); have n6_ := aq ((by rw [hg]; exact (bz_ (by repeat first | exact HB.out | refine bs_ ?_ GE351.out | refine bs_ ?_ GE352.out | refine bs_ ?_ GE353.out | refine bs_ ?_ GE362.out | refine ul ?_)) : w.heap.size ≤ gb366)); have n7_ := aq ((by rw [hg]; exact (bz_ (by repeat first | exact HB.out | refine bs_ ?_ GE351.out | refine bs_ ?_ GE352.out | refine bs_ ?_ GE353.out | refine bs_ ?_ GE362.out | refine ul ?_)) : w.heap.size ≤ gb366)); have n8_ := aq ((by rw [hg]; exact Nat.ne_of_lt (zN (g := gb351) (o := .cells #[.int .i64 a0_0, .int .i64 a0_1] 30 (0, 0)) (ub BK351.out)) : gb351 ≠ gb366)); have n9_ := aq ((by rw [hg]; exact Nat.ne_of_gt (zN (g := gb351) (o := .cells #[.int .i64 a0_0, .int .i64 a0_1] 30 (0, 0)) (ub BK351.out)) : gb366 ≠ gb351)); have n10_ := aq ((by rw [hg]; exact Nat.ne_of_lt (zN (g := gb352) (o := .cells #[.int .i64 x353000_2, .int .i64 x353001_2] 30 (0, 0)) (ub BK352.out)) : gb352 ≠ gb366)); have n11_ := aq ((by rw [hg]; exact Nat.ne_of_gt (zN (g := gb352) (o := .cells #[.int .i64 x353000_2, .int .i64 x353001_2] 30 (0, 0)) (ub BK352.out)) : gb366 ≠ gb352)); have n12_ := aq ((by rw [hg]; exact Nat.ne_of_lt (zN (g := gb353) (o := .cells #[.int .i64 1, .int .i64 1] 30 (0, 0)) (ub BK353.out)) : gb353 ≠ gb366)); have n13_ := aq ((by rw [hg]; exact Nat.ne_of_gt (zN (g := gb353) (o := .cells #[.int .i64 1, .int .i64 1] 30 (0, 0)) (ub BK353.out)) : gb366 ≠ gb353)); have n14_ := aq ((by rw [hg]; exact Nat.ne_of_lt (zN (g := gb362) (o := .cells #[.int .i64 x363000_2, .int .i64 x363001_2] 30 (0, 0)) (ub BK362.out)) : gb362 ≠ gb366)); have n15_ := aq ((by rw [hg]; exact Nat.ne_of_gt (zN (g := gb362) (o := .cells #[.int .i64 x363000_2, .int .i64 x363001_2] 30 (0, 0)) (ub BK362.out)) : gb366 ≠ gb362)); clear BK351; clear BK352; clear BK353; clear BK362; clear HB; have BK351 := n0_; have BK352 := n1_; have BK353 := n2_; have BK362 := n3_; have HB := n4_; have BK366 := n5_; have GW366 := n6_; have GE366 := n7_; have NB351_366 := n8_; have NB366_351 := n9_; have NB352_366 := n10_; have NB366_352 := n11_; have NB353_366 := n12_; have NB366_353 := n13_; have NB362_366 := n14_; have NB366_362 := n15_; clear n0_ n1_ n2_ n3_ n4_ n5_ n6_ n7_ n8_ n9_ n10_ n11_ n12_ n13_ n14_ n15_; clear hb hbox hg; have hnb78 := NB366_351.out; have hnc78 := NB351_366.out; have hnb79 := NB366_352.out; have hnc79 := NB352_366.out; have hnb80 := NB366_353.out; have hnc80 := NB353_366.out; have hnb81 := NB366_362.out; have hnc81 := NB362_366.out; have hcz82_0 := bT BK366.out 0 (.int .i64 0); have hcz82_1 := bT BK366.out 1 (.int .i64 0); have hfz82_0 := bf_ BK366.out 0; have hfz82_1 := bf_ BK366.out 1; have hcz83_0 := bT BK362.out 0 (.int .i64 x363000_2); have hcz83_1 := bT BK362.out 1 (.int .i64 x363001_2); have hfz83_0 := bf_ BK362.out 0; have hfz83_1 := bf_ BK362.out 1))
     (first | go_roundg k2 | (refine Handed.intro k2 ?measure ?_; rotate_left; go_step; (repeat apply Exists.intro); (refine ⟨?rel, ?fr_⟩); (case fr_ => (simp only [add_plain]; rfl))))
     case measure => have := HJ2.out; have := HK2.out; omega
     case rel => exact ⟨(wrap64 (x45_2 + 1)), (x353000_2), (x353001_2), (t363), (t364), (by first | rfl | simp [*]), H', ⟨by have := HJ2.out; have := HK2.out; omega⟩, ⟨by refine ub ?_; refine yQ ?_ NB351_362.out _; refine ub ?_; refine yQ ?_ NB351_362.out _; refine ub ?_; refine yQ ?_ NB351_366.out _; refine ub ?_; refine yQ ?_ NB351_366.out _; refine ub ?_; exact BK351.out⟩, ⟨by refine ub ?_; refine yQ ?_ NB352_362.out _; refine ub ?_; refine yQ ?_ NB352_362.out _; refine ub ?_; refine yQ ?_ NB352_366.out _; refine ub ?_; refine yQ ?_ NB352_366.out _; refine ub ?_; exact BK352.out⟩, ⟨by refine ub ?_; refine yQ ?_ NB353_362.out _; refine ub ?_; refine yQ ?_ NB353_362.out _; refine ub ?_; refine yQ ?_ NB353_366.out _; refine ub ?_; refine yQ ?_ NB353_366.out _; refine ub ?_; exact BK353.out⟩, ⟨by refine ub ?_; refine yV (cs := #[.int .i64 t363, .int .i64 x363001_2]) ?_ 1 _ rfl; refine ub ?_; refine yV (cs := #[.int .i64 x363000_2, .int .i64 x363001_2]) ?_ 0 _ rfl; refine ub ?_; refine yQ ?_ NB362_366.out _; refine ub ?_; refine yQ ?_ NB362_366.out _; refine ub ?_; exact BK362.out⟩, ⟨by repeat first | exact HB.out | refine bs_ ?_ GE351.out | refine bs_ ?_ GE352.out | refine bs_ ?_ GE353.out | refine bs_ ?_ GE362.out | refine bs_ ?_ GE366.out | refine ul ?_⟩⟩
def uJ.l0 : Nat → List Int → List Int → List Int → Int → Int → Option (List Int)
  | 0, _, _, _, _, _ => none
  | k + 1, x1, x5, x8, x9, x10 => if x10 < x9 then (if 0 ≤ x10 then (if x10 < (x8.length : Int) then (if 0 ≤ (rd x8 x10) then (if (rd x8 x10) < (x1.length : Int) then (if x5.length < 17592186044416 then (uJ.l0 k x1 (x5 ++ [rd x1 (rd x8 x10)]) x8 x9 (wrap64 (x10 + 1))) else (none)) else (none)) else (none)) else (none)) else (none)) else (some x5)
def uJ.f (k : Nat) (l0 : List Int) (l1 : List Int) : Option (List Int) := uJ.l0 k l1 ([] : List Int) l0 (l0.length : Int) 0
theorem uJ.calls (k : Nat) (A0 : Option Addr) (c0 : Nat) (l0 : List Int) (A1 : Option Addr) (c1 : Nat) (l1 : List Int) (r : List Int) (w : World) (hr0 : Kd.C (Kd.int .i64) w A0 l0.length l0) (hc0 : l0.length ≤ c0) (hr1 : Kd.C (Kd.int .i64) w A1 l1.length l1) (hc1 : l1.length ≤ c1) (h : uJ.f k l0 l1 = some r) :
    Calls Try.prog 22 #[.slice A0 l0.length c0, .slice A1 l1.length c1] w fun e w' => ∃ v0_ : Value, e = .returned (v0_) ∧ Kd.R (Kd.int .i64) 3 w' w.heap.size (fun _ => True) v0_ r ∧ Below w.heap.size w w' := by
 have HR0 := aq hr0
 have HC0 := aq hc0
 clear hr0 hc0
 have HR1 := aq hr1
 have HC1 := aq hc1
 clear hr1 hc1
 have HB := aq (Below.refl w.heap.size w)
 have H := h
 unfold uJ.f at H
 clear h
 have H' := aq H
 clear H
 go_enter Try.func22, Try.ntmps22
 go_wp2
 go_loopg [5, 10] k (fun kq v5 v10 w' => ∃ (x5_1 : List Int) (x10_1 : Int), v10 = .int .i64 x10_1 ∧ zT (uJ.l0 kq l1 x5_1 l0 (l0.length : Int) x10_1 = some r) ∧ zT (kq ≤ k) ∧ zT (Kd.R (Kd.int .i64) 3 w' w.heap.size (fun _ => True) v5 x5_1) ∧ zT (Below w.heap.size w w'))
 case atStart => exact ⟨(([] : List Int)), (0), (by first | rfl | simp [*]), H', ⟨Nat.le_refl _⟩, ⟨by first | exact Kd.rK _ _ _ _ _ | exact Kd.N_nil _ _ _ _ _ | exact Kd.V_nil _ _ _ _ _ | exact Kd.Q_nil _ _ _ _ _ | exact Kd.S_nil _ _ _ _ _⟩, ⟨by exact ul HB.out⟩⟩
 case round =>
  clear H'
  obtain ⟨x5_1, x10_1, rfl, HA, HK1, HO_5, HB⟩ := hrel
  cases gk with
  | zero => exact absurd HA.out (by simp [uJ.l0])
  | succ k1 =>
   have H := HA.out
   clear HA
   simp only [uJ.l0] at H
   by_cases c3 : x10_1 < (l0.length : Int)
   case neg =>
    rw [if_neg c3] at H
    have c3b0 : decide (x10_1 < (l0.length : Int)) = false := decide_eq_false c3
    clear c3
    obtain rfl := Option.some.inj H
    go_wp2
    go_ret
    exact ⟨_, by first | rfl | (simp [eN_, eS_] <;> rfl) | (simp [*, eN_, eS_] <;> rfl), by (with_reducible repeat (first | apply Kd.tV | apply Kd.R_drewN | apply Kd.R_drew)); exact HO_5.out, by exact ul HB.out⟩
   rw [if_pos c3] at H
   have c3b0 : decide (x10_1 < (l0.length : Int)) = true := decide_eq_true c3
   clear c3
   replace H := gd H
   obtain ⟨c4b0, H⟩ := H
   replace H := gd H
   obtain ⟨c5b0, H⟩ := H
   replace H := gd H
   obtain ⟨c6b0, H⟩ := H
   replace H := gd H
   obtain ⟨c7b0, H⟩ := H
   replace H := gp H
   obtain ⟨c8, H⟩ := H
   have LMc8 := aq c8
   clear c8
   obtain ⟨y369, hy369⟩ : ∃ y_ : List Int, y_ = (x5_1 ++ [rd l1 (rd l0 x10_1)]) := ⟨_, rfl⟩
   replace H : (uJ.l0 k1 l1 y369 l0 (l0.length : Int) (wrap64 (x10_1 + 1))) = some r := by first | (rw [hy369]; with_reducible exact H) | (have H2_ := (Option.bind_some _ _).symm.trans H; rw [hy369]; with_reducible exact H2_) | (have H2_ := (Option.bind_some _ _).symm.trans H; with_reducible exact H2_) | with_reducible exact H | (rw [hy369]; exact H) | exact H
   have Ny369 := aq hy369
   clear hy369
   have H' := aq H
   clear H
   have p367 : 0 ≤ (x10_1 : Int) := of_decide_eq_true (by assumption)
   have q367 : x10_1 < (l0.length : Int) := of_decide_eq_true (by assumption)
   obtain ⟨ad367, e367, hx367_0⟩ := Kd.at_int HR0.out x10_1 p367 q367
   cases e367
   replace hx367_0 := bc HB.out hx367_0
   replace p367 := eq_true p367
   replace q367 := eq_true q367
   have p368 : 0 ≤ ((rd l0 x10_1) : Int) := of_decide_eq_true (by assumption)
   have q368 : (rd l0 x10_1) < (l1.length : Int) := of_decide_eq_true (by assumption)
   obtain ⟨ad368, e368, hx368_0⟩ := Kd.at_int HR1.out (rd l0 x10_1) p368 q368
   cases e368
   replace hx368_0 := bc HB.out hx368_0
   replace p368 := eq_true p368
   replace q368 := eq_true q368
   go_wp2_with (first | ((with_reducible refine zA (b := .append) (xs := #[.tmp 14, .tmp 19]) rfl ?_); at_builtin; refine Kd.xY (Kd.int .i64) (w0 := w) w.heap.size rfl (.tmp 14) (.tmp 19) 23 3 (.int .i64 0) 8 rfl Try.underlying23 sV rfl (by decide) (by omega) u5 x5_1 (rd l1 (rd l0 x10_1)) [.int .i64 (rd l1 (rd l0 x10_1))] (fun _ => True) (fun _ => False) rfl rfl ?aP (fun _ hk => hk.elim) ?aF ?aO ?aB ?aS ?aL ?_; (case aP => exact rfl); (case aB => exact (by exact ul HB.out)); (case aF => exact (fun _ _ => trivial)); (case aO => exact (by (with_reducible repeat (first | apply Kd.tV | apply Kd.R_drewN | apply Kd.R_drew)); exact HO_5.out)); (case aS => exact (bz_ (by exact ul HB.out))); (case aL => have := LMc8.out; omega); intro v370 w9 ho hb hg hat; rw [← Ny369.out] at ho; have n0_ := aq (hb); have n1_ := aq (ho); clear HB; clear HO_5; have HB := n0_; have HO371 := n1_; clear n0_ n1_; clear ho hb hg hat))
   (first | go_roundg k1 | (refine Handed.intro k1 ?measure ?_; rotate_left; go_step; (repeat apply Exists.intro); (refine ⟨?rel, ?fr_⟩); (case fr_ => (simp only [add_plain]; rfl))))
   case measure => have := HK1.out; omega
   case rel => exact ⟨(y369), (wrap64 (x10_1 + 1)), (by first | rfl | simp [*]), H', ⟨by have := HK1.out; omega⟩, ⟨by (with_reducible repeat (first | apply Kd.tV | apply Kd.R_drewN | apply Kd.R_drew)); exact HO371.out⟩, ⟨by exact ul HB.out⟩⟩
end Go.Proofs.Ytoonahobmlnflaa.PC
