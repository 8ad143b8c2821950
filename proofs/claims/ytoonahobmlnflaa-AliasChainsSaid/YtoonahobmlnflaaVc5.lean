/- Texts of this claim, one behind the other. -/
import Derived.Test.YtoonahobmlnflaaVc4
set_option linter.unusedVariables false
set_option linter.unusedSimpArgs false
set_option maxRecDepth 100000
set_option maxHeartbeats 16000000
namespace Go.Proofs.Ytoonahobmlnflaa.PC
open Go.RowKit A B C
attribute [local go_sem] yC yE xO xP yK yL yD yF
def yA.j0 : Nat → Bool → Int → Int → Int → Int → Option (Int × Int × Int)
  | 0, _, _, _, _, _ => none
  | k + 1, x19, x156000, x156001, x157000, x157001 => if x19 = true then (some (0, 0, 1)) else ((zS.f x156000).bind fun t160 => ((zE.f k t160 (IntKind.u64.wrap (x157001))).bind fun t161 => ((zS.f x157000).bind fun t162 => ((zE.f k t162 (IntKind.u64.wrap (x156001))).bind fun t163 => ((zS.f x156000).bind fun t164 => (if t161 = 0 then (none) else ((zS.f x157000).bind fun t165 => (if t163 = 0 then (none) else ((bits_Mul64.f (IntKind.u64.wrap (Int.tdiv t164 t161)) (IntKind.u64.wrap (Int.tdiv t165 t163))).bind fun bt166 => ((bits_Mul64.f (IntKind.u64.wrap (Int.tdiv (IntKind.u64.wrap (x156001)) t163)) (IntKind.u64.wrap (Int.tdiv (IntKind.u64.wrap (x157001)) t161))).bind fun bt168 => (if bt166.1 > 0 then (some (0, 0, 3)) else (if bt168.1 > 0 then (some (0, 0, 3)) else ((yJ.f k ((decide (x156000 < 0)) != (decide (x157000 < 0))) bt166.2 bt168.2).bind fun bt170 => (some (bt170.1, bt170.2.1, bt170.2.2)))))))))))))))
def yA.f (k : Nat) (a0_0 : Int) (a0_1 : Int) (a1_0 : Int) (a1_1 : Int) : Option (Int × Int × Int) := (zO.f k a0_0 a0_1).bind fun t158 => (if t158 = true then ((zO.f k a1_0 a1_1).bind fun t159 => (yA.j0 k (!t159) a0_0 a0_1 a1_0 a1_1)) else (yA.j0 k true a0_0 a0_1 a1_0 a1_1))
theorem yA.calls (k : Nat) (a0_0 : Int) (a0_1 : Int) (a1_0 : Int) (a1_1 : Int) (r1 : Int) (r2 : Int) (r3 : Int) (w : World) (h : yA.f k a0_0 a0_1 a1_0 a1_1 = some (r1, r2, r3)) :
    Calls Try.prog 105 #[.agg #[.int .i64 a0_0, .int .i64 a0_1], .agg #[.int .i64 a1_0, .int .i64 a1_1]] w fun e w' => e = .returned (.tuple #[.agg #[.int .i64 r1, .int .i64 r2], .int .i64 r3]) ∧ Below w.heap.size w w' := by
 have hu30 := Try.underlying30
 have HB := aq (Below.refl w.heap.size w)
 have H := h
 unfold yA.f at H
 clear h
 have HC3 := aq H
 clear H
 go_enter Try.func105, Try.ntmps105
 go_upto_region 1 with (first | ((with_reducible refine gD (N := 2) rfl ?_); refine bE ?hg (N := 2) ?hd (cs := #[.int .i64 a0_0, .int .i64 a0_1]) (t := 30) ?hr ?_; (case hd => rfl); (case hg => rfl); (case hr => first | (go_simp; done) | (go_simp; rfl)); intro gb155 hg w4 hbox hb; have n0_ := aq (bt_ (by exact ul HB.out) hb); have n1_ := aq (hbox); have n2_ := aq ((by rw [hg]; exact (bz_ (by exact ul HB.out)) : w.heap.size ≤ gb155)); have n3_ := aq ((by rw [hg]; exact (bz_ (by exact ul HB.out)) : w.heap.size ≤ gb155)); clear HB; have HB := n0_; have BK155 := n1_; have GW155 := n2_; have GE155 := n3_; clear n0_ n1_ n2_ n3_; clear hb hbox hg) | ((with_reducible refine gD (N := 3) rfl ?_); refine bE ?hg (N := 3) ?hd (cs := #[.int .i64 a1_0, .int .i64 a1_1]) (t := 30) ?hr ?_; (case hd => rfl); (case hg => rfl); (case hr => first | (go_simp; done) | (go_simp; rfl)); intro gb156 hg w5 hbox hb; have n0_ := bk BK155 hb; have n1_ := aq (bt_ (by repeat first | exact HB.out | refine bs_ ?_ GE155.out | refine ul ?_) hb); have n2_ := aq (hbox); have n3_ := aq ((by rw [hg]; exact (bz_ (by repeat first | exact HB.out | refine bs_ ?_ GE155.out | refine ul ?_)) : w.heap.size ≤ gb156)); have n4_ := aq ((by rw [hg]; exact (bz_ (by repeat first | exact HB.out | refine bs_ ?_ GE155.out | refine ul ?_)) : w.heap.size ≤ gb156)); have n5_ := aq ((by rw [hg]; exact Nat.ne_of_lt (zN (g := gb155) (o := .cells #[.int .i64 a0_0, .int .i64 a0_1] 30 (0, 0)) (by exact ub BK155.out)) : gb155 ≠ gb156)); have n6_ := aq ((by rw [hg]; exact Nat.ne_of_gt (zN (g := gb155) (o := .cells #[.int .i64 a0_0, .int .i64 a0_1] 30 (0, 0)) (by exact ub BK155.out)) : gb156 ≠ gb155)); clear BK155; clear HB; have BK155 := n0_; have HB := n1_; have BK156 := n2_; have GW156 := n3_; have GE156 := n4_; have NB155_156 := n5_; have NB156_155 := n6_; clear n0_ n1_ n2_ n3_ n4_ n5_ n6_; clear hb hbox hg) | ((with_reducible refine gD (N := 4) rfl ?_); refine bE ?hg (N := 4) ?hd (cs := #[.int .i64 0, .int .i64 0]) (t := 30) ?hr ?_; (case hd => rfl); (case hg => rfl); (case hr => first | (go_simp; done) | (go_simp; rfl)); intro gb157 hg w6 hbox hb; have n0_ := bk BK155 hb; have n1_ := bk BK156 hb; have n2_ := aq (bt_ (by repeat first | exact HB.out | refine bs_ ?_ GE155.out | refine bs_ ?_ GE156.out | refine ul ?_) hb); have n3_ := aq (hbox); have n4_ := aq ((by rw [hg]; exact (bz_ (by repeat first | exact HB.out | refine bs_ ?_ GE155.out | refine bs_ ?_ GE156.out | refine ul ?_)) : w.heap.size ≤ gb157)); have n5_ := aq ((by rw [hg]; exact (bz_ (by repeat first | exact HB.out | refine bs_ ?_ GE155.out | refine bs_ ?_ GE156.out | refine ul ?_)) : w.heap.size ≤ gb157)); have n6_ := aq ((by rw [hg]; exact Nat.ne_of_lt (zN (g := gb155) (o := .cells #[.int .i64 a0_0, .int .i64 a0_1] 30 (0, 0)) (by exact ub BK155.out)) : gb155 ≠ gb157)); have n7_ := aq ((by rw [hg]; exact Nat.ne_of_gt (zN (g := gb155) (o := .cells #[.int .i64 a0_0, .int .i64 a0_1] 30 (0, 0)) (by exact ub BK155.out)) : gb157 ≠ gb155)); have n8_ := aq ((by rw [hg]; exact Nat.ne_of_lt (zN (g := gb156) (o := .cells #[.int .i64 a1_0, .int .i64 a1_1] 30 (0, 0)) (by exact ub BK156.out)) : gb156 ≠ gb157)); have n9_ := aq ((by rw [hg]; exact Nat.ne_of_gt (zN (g := gb156) (o := .cells #[.int .i64 a1_0, .int .i64 a1_1] 30 (0, 0)) (by exact ub BK156.out)) : gb157 ≠ gb156)); clear BK155; clear BK156; clear HB; have BK155 := n0_; have BK156 := n1_; have HB := n2_; have BK157 := n3_; have GW157 := n4_; have GE157 := n5_; have NB155_157 := n6_; have NB157_155 := n7_; have NB156_157 := n8_; have NB157_156 := n9_; clear n0_ n1_ n2_ n3_ n4_ n5_ n6_ n7_ n8_ n9_; clear hb hbox hg))
 (try simp only [Act.put, List.setIfInBounds_toArray, List.set_cons_zero, List.set_cons_succ])
 go_cut [19] (fun v19 wc => ∃ (kq : Nat) (x19_2 : Bool), v19 = .bool x19_2 ∧ zT (yA.j0 kq x19_2 a0_0 a0_1 a1_0 a1_1 = some (r1, r2, r3)) ∧ zT (kq ≤ k) ∧ zT (wc.heap[gb155]? = some (.cells #[.int .i64 a0_0, .int .i64 a0_1] 30 (0, 0))) ∧ zT (wc.heap[gb156]? = some (.cells #[.int .i64 a1_0, .int .i64 a1_1] 30 (0, 0))) ∧ zT (wc.heap[gb157]? = some (.cells #[.int .i64 0, .int .i64 0] 30 (0, 0))) ∧ zT (Below w.heap.size w wc))
 case first =>
  have H := HC3.out
  clear HC3
  replace H := Option.bind_eq_some_iff.mp H
  obtain ⟨t158, A70, H⟩ := H
  try dsimp only at H
  have A7 := aq A70
  clear A70
  by_cases c8 : t158 = true
  case neg =>
   replace c8 := Bool.eq_false_iff.mpr c8
   subst c8
   have H1 : (yA.j0 k true a0_0 a0_1 a1_0 a1_1) = some (r1, r2, r3) := by rw [if_neg (show ¬ (false = true) by decide)] at H; exact H
   clear H
   have H := H1
   clear H1
   have H' := aq H
   clear H
   have hcz19_0 := bT BK155.out 0 (.int .i64 a0_0)
   have hcz19_1 := bT BK155.out 1 (.int .i64 a0_1)
   have hfz19_0 := bf_ BK155.out 0
   have hfz19_1 := bf_ BK155.out 1
   go_wp2_with (first | (go_at_call 59; (with_reducible refine (zO.calls k a0_0 a0_1 false _ A7.out).mono ?_); rintro e w20 ⟨rfl, hb⟩; replace BK155 := bk BK155 hb; replace BK156 := bk BK156 hb; replace BK157 := bk BK157 hb; replace HB := aq (bt_ (by repeat first | exact HB.out | refine bs_ ?_ GE155.out | refine bs_ ?_ GE156.out | refine bs_ ?_ GE157.out | refine ul ?_) hb); (try clear hb); (try clear hb2); (try clear hk); (try clear hi)))
   go_meet
   case rel => exact ⟨_, (true), (by first | rfl | (simp; done) | (simp [*]; done)), H', ⟨by first | omega | exact Nat.le_refl _⟩, ⟨by exact ub BK155.out⟩, ⟨by exact ub BK156.out⟩, ⟨by exact ub BK157.out⟩, ⟨by repeat first | exact HB.out | refine bs_ ?_ GE155.out | refine bs_ ?_ GE156.out | refine bs_ ?_ GE157.out | refine ul ?_⟩⟩
  subst c8
  have H1 : ((zO.f k a1_0 a1_1).bind fun t159 => (yA.j0 k (!t159) a0_0 a0_1 a1_0 a1_1)) = some (r1, r2, r3) := by rw [if_pos rfl] at H; exact H
  clear H
  have H := H1
  clear H1
  replace H := Option.bind_eq_some_iff.mp H
  obtain ⟨t159, A90, H⟩ := H
  try dsimp only at H
  have A9 := aq A90
  clear A90
  have H' := aq H
  clear H
  have hcz12_0 := bT BK155.out 0 (.int .i64 a0_0)
  have hcz12_1 := bT BK155.out 1 (.int .i64 a0_1)
  have hfz12_0 := bf_ BK155.out 0
  have hfz12_1 := bf_ BK155.out 1
  go_wp2_with (first | (go_at_call 59; (with_reducible refine (zO.calls k a0_0 a0_1 true _ A7.out).mono ?_); rintro e w13 ⟨rfl, hb⟩; replace BK155 := bk BK155 hb; replace BK156 := bk BK156 hb; replace BK157 := bk BK157 hb; replace HB := aq (bt_ (by repeat first | exact HB.out | refine bs_ ?_ GE155.out | refine bs_ ?_ GE156.out | refine bs_ ?_ GE157.out | refine ul ?_) hb); (try clear hb); (try clear hb2); (try clear hk); (try clear hi); have hnb14 := NB156_157.out; have hnc14 := NB157_156.out; have hcz15_0 := bT BK156.out 0 (.int .i64 a1_0); have hcz15_1 := bT BK156.out 1 (.int .i64 a1_1); have hfz15_0 := bf_ BK156.out 0; have hfz15_1 := bf_ BK156.out 1) | (go_at_call 59; (with_reducible refine (zO.calls k a1_0 a1_1 t159 _ A9.out).mono ?_); rintro e w16 ⟨rfl, hb⟩; replace BK155 := bk BK155 hb; replace BK156 := bk BK156 hb; replace BK157 := bk BK157 hb; replace HB := aq (bt_ (by repeat first | exact HB.out | refine bs_ ?_ GE155.out | refine bs_ ?_ GE156.out | refine bs_ ?_ GE157.out | refine ul ?_) hb); (try clear hb); (try clear hb2); (try clear hk); (try clear hi)))
  go_meet
  case rel => exact ⟨_, (!t159), (by first | rfl | (simp; done) | (simp [*]; done)), H', ⟨by first | omega | exact Nat.le_refl _⟩, ⟨by exact ub BK155.out⟩, ⟨by exact ub BK156.out⟩, ⟨by exact ub BK157.out⟩, ⟨by repeat first | exact HB.out | refine bs_ ?_ GE155.out | refine bs_ ?_ GE156.out | refine bs_ ?_ GE157.out | refine ul ?_⟩⟩
 case rest =>
  clear HC3
  try clear c1
  try clear p2
  try clear c8
  try clear c10
  try clear c11
  try clear c14
  try clear c17
  try clear c18
  try clear hcz12_0
  try clear hcz12_1
  try clear hcz15_0
  try clear hcz15_1
  try clear hcz19_0
  try clear hcz19_1
  try clear hfz12_0
  try clear hfz12_1
  try clear hfz15_0
  try clear hfz15_1
  try clear hfz19_0
  try clear hfz19_1
  obtain ⟨kq, x19_2, rfl, HA, HJ2, BK155, BK156, BK157, HB⟩ := hcut
  cases kq with
  | zero => exact absurd HA.out (by simp [yA.j0])
  | succ kj2 =>
   have H := HA.out
   clear HA
   simp only [yA.j0] at H
   by_cases c21 : x19_2 = true
   case pos =>
    subst c21
    have H1 : (some (0, 0, 1)) = some (r1, r2, r3) := by rw [if_pos rfl] at H; exact H
    clear H
    have H := H1
    clear H1
    simp only [Option.some.injEq, Prod.mk.injEq] at H
    obtain ⟨rfl, rfl, rfl⟩ := H
    have hcz24_0 := bT BK157.out 0 (.int .i64 0)
    have hcz24_1 := bT BK157.out 1 (.int .i64 0)
    have hfz24_0 := bf_ BK157.out 0
    have hfz24_1 := bf_ BK157.out 1
    go_wp2
    refine bodyPost_ret (zB rfl _ _ gb157 30 #[.int .i64 0, .int .i64 0] (0, 0) _ rfl (by (with_reducible repeat (first | refine xE ?_ _ | refine xJ ?_ | refine zM ?_ _)); refine yV (cs := #[.int .i64 0, .int .i64 0]) ?_ 1 _ rfl; (with_reducible repeat (first | refine xE ?_ _ | refine xJ ?_ | refine zM ?_ _)); refine yV (cs := #[.int .i64 0, .int .i64 0]) ?_ 0 _ rfl; (with_reducible repeat (first | refine xE ?_ _ | refine xJ ?_ | refine zM ?_ _)); exact BK157.out) Try.underlying30 rfl (by kernel_rfl)) rfl ?_
    exact ⟨by first | rfl | (simp [eN_, eS_] <;> rfl) | (simp [*, eN_, eS_] <;> rfl), by repeat first | exact HB.out | refine bs_ ?_ GE155.out | refine bs_ ?_ GE156.out | refine bs_ ?_ GE157.out | refine ul ?_⟩
   replace c21 := Bool.eq_false_iff.mpr c21
   subst c21
   have H1 : ((zS.f a0_0).bind fun t160 => ((zE.f kj2 t160 (IntKind.u64.wrap (a1_1))).bind fun t161 => ((zS.f a1_0).bind fun t162 => ((zE.f kj2 t162 (IntKind.u64.wrap (a0_1))).bind fun t163 => ((zS.f a0_0).bind fun t164 => (if t161 = 0 then (none) else ((zS.f a1_0).bind fun t165 => (if t163 = 0 then (none) else ((bits_Mul64.f (IntKind.u64.wrap (Int.tdiv t164 t161)) (IntKind.u64.wrap (Int.tdiv t165 t163))).bind fun bt166 => ((bits_Mul64.f (IntKind.u64.wrap (Int.tdiv (IntKind.u64.wrap (a0_1)) t163)) (IntKind.u64.wrap (Int.tdiv (IntKind.u64.wrap (a1_1)) t161))).bind fun bt168 => (if bt166.1 > 0 then (some (0, 0, 3)) else (if bt168.1 > 0 then (some (0, 0, 3)) else ((yJ.f kj2 ((decide (a0_0 < 0)) != (decide (a1_0 < 0))) bt166.2 bt168.2).bind fun bt170 => (some (bt170.1, bt170.2.1, bt170.2.2))))))))))))))) = some (r1, r2, r3) := by rw [if_neg (show ¬ (false = true) by decide)] at H; exact H
   clear H
   have H := H1
   clear H1
   replace H := Option.bind_eq_some_iff.mp H
   obtain ⟨t160, A250, H⟩ := H
   try dsimp only at H
   have A25 := aq A250
   clear A250
   replace H := Option.bind_eq_some_iff.mp H
   obtain ⟨t161, A260, H⟩ := H
   try dsimp only at H
   have A26 := aq A260
   clear A260
   replace H := Option.bind_eq_some_iff.mp H
   obtain ⟨t162, A270, H⟩ := H
   try dsimp only at H
   have A27 := aq A270
   clear A270
   replace H := Option.bind_eq_some_iff.mp H
   obtain ⟨t163, A280, H⟩ := H
   try dsimp only at H
   have A28 := aq A280
   clear A280
   replace H := Option.bind_eq_some_iff.mp H
   obtain ⟨t164, A290, H⟩ := H
   try dsimp only at H
   have A29 := aq A290
   clear A290
   obtain rfl : t160 = t164 := Option.some.inj (A25.out.symm.trans A29.out)
   by_cases c30 : t161 = 0
   case pos => rw [if_pos c30] at H; exact absurd H (by simp)
   rw [if_neg c30] at H
   have c30b0 : (t161 == 0) = false := beq_eq_false_iff_ne.mpr c30
   have c30b1 : (t161 != 0) = true := bne_iff_ne.mpr c30
   replace H := Option.bind_eq_some_iff.mp H
   obtain ⟨t165, A310, H⟩ := H
   try dsimp only at H
   have A31 := aq A310
   clear A310
   obtain rfl : t162 = t165 := Option.some.inj (A27.out.symm.trans A31.out)
   by_cases c32 : t163 = 0
   case pos => rw [if_pos c32] at H; exact absurd H (by simp)
   rw [if_neg c32] at H
   have c32b0 : (t163 == 0) = false := beq_eq_false_iff_ne.mpr c32
   have c32b1 : (t163 != 0) = true := bne_iff_ne.mpr c32
   replace H := Option.bind_eq_some_iff.mp H
   obtain ⟨⟨t166, t167⟩, A330, H⟩ := H
   try dsimp only at H
   have A33 := aq A330
   clear A330
   replace H := Option.bind_eq_some_iff.mp H
   obtain ⟨⟨t168, t169⟩, A340, H⟩ := H
   try dsimp only at H
   have A34 := aq A340
   clear A340
   by_cases c35 : t166 > 0
   case pos =>
    rw [if_pos c35] at H
    have c35b0 : decide (0 < t166) = true := decide_eq_true c35
    clear c35
    simp only [Option.some.injEq, Prod.mk.injEq] at H
    obtain ⟨rfl, rfl, rfl⟩ := H
    have hcz38_0 := bT BK155.out 0 (.int .i64 a0_0)
    have hcz38_1 := bT BK155.out 1 (.int .i64 a0_1)
    have hfz38_0 := bf_ BK155.out 0
    have hfz38_1 := bf_ BK155.out 1
    go_wp2_with (first | (go_at_call 88; (with_reducible refine (zS.calls a0_0 t160 _ A25.out).mono ?_); rintro e w' ⟨rfl, ⟨nd, rfl⟩⟩; (try first | exact dA | exact dB); have hnb39 := NB156_157.out; have hnc39 := NB157_156.out; have hcz40_0 := bT BK156.out 0 (.int .i64 a1_0); have hcz40_1 := bT BK156.out 1 (.int .i64 a1_1); have hfz40_0 := bf_ BK156.out 0; have hfz40_1 := bf_ BK156.out 1) | (go_at_call 87; (with_reducible refine (zE.calls kj2 t160 (IntKind.u64.wrap (a1_1)) t161 _ A26.out).mono ?_); rintro e w' ⟨rfl, ⟨nd, rfl⟩⟩; (try first | exact dA | exact dB)) | (go_at_call 88; (with_reducible refine (zS.calls a1_0 t162 _ A27.out).mono ?_); rintro e w' ⟨rfl, ⟨nd, rfl⟩⟩; (try first | exact dA | exact dB)) | (go_at_call 87; (with_reducible refine (zE.calls kj2 t162 (IntKind.u64.wrap (a0_1)) t163 _ A28.out).mono ?_); rintro e w' ⟨rfl, ⟨nd, rfl⟩⟩; (try first | exact dA | exact dB)) | (go_at_call 88; (with_reducible refine (zS.calls a0_0 t160 _ A29.out).mono ?_); rintro e w' ⟨rfl, ⟨nd, rfl⟩⟩; (try first | exact dA | exact dB)) | (go_at_call 88; (with_reducible refine (zS.calls a1_0 t162 _ A31.out).mono ?_); rintro e w' ⟨rfl, ⟨nd, rfl⟩⟩; (try first | exact dA | exact dB)) | (go_at_call 121; (with_reducible refine (bits_Mul64.calls (IntKind.u64.wrap (Int.tdiv t160 t161)) (IntKind.u64.wrap (Int.tdiv t162 t163)) t166 t167 _ A33.out).mono ?_); rintro e w' ⟨rfl, ⟨nd, rfl⟩⟩; (try first | exact dA | exact dB)) | (go_at_call 121; (with_reducible refine (bits_Mul64.calls (IntKind.u64.wrap (Int.tdiv (IntKind.u64.wrap (a0_1)) t163)) (IntKind.u64.wrap (Int.tdiv (IntKind.u64.wrap (a1_1)) t161)) t168 t169 _ A34.out).mono ?_); rintro e w' ⟨rfl, ⟨nd, rfl⟩⟩; (try first | exact dA | exact dB); have hcz41_0 := bT BK157.out 0 (.int .i64 0); have hcz41_1 := bT BK157.out 1 (.int .i64 0); have hfz41_0 := bf_ BK157.out 0; have hfz41_1 := bf_ BK157.out 1))
    repeat (go_quiet (first | (go_at_call 88; (with_reducible refine (zS.calls a0_0 t160 _ A25.out).mono ?_); rintro e w' ⟨rfl, ⟨nd, rfl⟩⟩; (try first | exact dA | exact dB); have hnb39 := NB156_157.out; have hnc39 := NB157_156.out; have hcz40_0 := bT BK156.out 0 (.int .i64 a1_0); have hcz40_1 := bT BK156.out 1 (.int .i64 a1_1); have hfz40_0 := bf_ BK156.out 0; have hfz40_1 := bf_ BK156.out 1) | (go_at_call 87; (with_reducible refine (zE.calls kj2 t160 (IntKind.u64.wrap (a1_1)) t161 _ A26.out).mono ?_); rintro e w' ⟨rfl, ⟨nd, rfl⟩⟩; (try first | exact dA | exact dB)) | (go_at_call 88; (with_reducible refine (zS.calls a1_0 t162 _ A27.out).mono ?_); rintro e w' ⟨rfl, ⟨nd, rfl⟩⟩; (try first | exact dA | exact dB)) | (go_at_call 87; (with_reducible refine (zE.calls kj2 t162 (IntKind.u64.wrap (a0_1)) t163 _ A28.out).mono ?_); rintro e w' ⟨rfl, ⟨nd, rfl⟩⟩; (try first | exact dA | exact dB)) | (go_at_call 88; (with_reducible refine (zS.calls a0_0 t160 _ A29.out).mono ?_); rintro e w' ⟨rfl, ⟨nd, rfl⟩⟩; (try first | exact dA | exact dB)) | (go_at_call 88; (with_reducible refine (zS.calls a1_0 t162 _ A31.out).mono ?_); rintro e w' ⟨rfl, ⟨nd, rfl⟩⟩; (try first | exact dA | exact dB)) | (go_at_call 121; (with_reducible refine (bits_Mul64.calls (IntKind.u64.wrap (Int.tdiv t160 t161)) (IntKind.u64.wrap (Int.tdiv t162 t163)) t166 t167 _ A33.out).mono ?_); rintro e w' ⟨rfl, ⟨nd, rfl⟩⟩; (try first | exact dA | exact dB)) | (go_at_call 121; (with_reducible refine (bits_Mul64.calls (IntKind.u64.wrap (Int.tdiv (IntKind.u64.wrap (a0_1)) t163)) (IntKind.u64.wrap (Int.tdiv (IntKind.u64.wrap (a1_1)) t161)) t168 t169 _ A34.out).mono ?_); rintro e w' ⟨rfl, ⟨nd, rfl⟩⟩; (try first | exact dA | exact dB); have hcz41_0 := bT BK157.out 0 (.int .i64 0); have hcz41_1 := bT BK157.out 1 (.int .i64 0); have hfz41_0 := bf_ BK157.out 0; have hfz41_1 := bf_ BK157.out 1)); try go_wp2_with (first | (go_at_call 88; (with_reducible refine (zS.calls a0_0 t160 _ A25.out).mono ?_); rintro e w' ⟨rfl, ⟨nd, rfl⟩⟩; (try first | exact dA | exact dB); have hnb39 := NB156_157.out; have hnc39 := NB157_156.out; have hcz40_0 := bT BK156.out 0 (.int .i64 a1_0); have hcz40_1 := bT BK156.out 1 (.int .i64 a1_1); have hfz40_0 := bf_ BK156.out 0; have hfz40_1 := bf_ BK156.out 1) | (go_at_call 87; (with_reducible refine (zE.calls kj2 t160 (IntKind.u64.wrap (a1_1)) t161 _ A26.out).mono ?_); rintro e w' ⟨rfl, ⟨nd, rfl⟩⟩; (try first | exact dA | exact dB)) | (go_at_call 88; (with_reducible refine (zS.calls a1_0 t162 _ A27.out).mono ?_); rintro e w' ⟨rfl, ⟨nd, rfl⟩⟩; (try first | exact dA | exact dB)) | (go_at_call 87; (with_reducible refine (zE.calls kj2 t162 (IntKind.u64.wrap (a0_1)) t163 _ A28.out).mono ?_); rintro e w' ⟨rfl, ⟨nd, rfl⟩⟩; (try first | exact dA | exact dB)) | (go_at_call 88; (with_reducible refine (zS.calls a0_0 t160 _ A29.out).mono ?_); rintro e w' ⟨rfl, ⟨nd, rfl⟩⟩; (try first | exact dA | exact dB)) | (go_at_call 88; (with_reducible refine (zS.calls a1_0 t162 _ A31.out).mono ?_); rintro e w' ⟨rfl, ⟨nd, rfl⟩⟩; (try first | exact dA | exact dB)) | (go_at_call 121; (with_reducible refine (bits_Mul64.calls (IntKind.u64.wrap (Int.tdiv t160 t161)) (IntKind.u64.wrap (Int.tdiv t162 t163)) t166 t167 _ A33.out).mono ?_); rintro e w' ⟨rfl, ⟨nd, rfl⟩⟩; (try first | exact dA | exact dB)) | (go_at_call 121; (with_reducible refine (bits_Mul64.calls (IntKind.u64.wrap (Int.tdiv (IntKind.u64.wrap (a0_1)) t163)) (IntKind.u64.wrap (Int.tdiv (IntKind.u64.wrap (a1_1)) t161)) t168 t169 _ A34.out).mono ?_); rintro e w' ⟨rfl, ⟨nd, rfl⟩⟩; (try first | exact dA | exact dB); have hcz41_0 := bT BK157.out 0 (.int .i64 0); have hcz41_1 := bT BK157.out 1 (.int .i64 0); have hfz41_0 := bf_ BK157.out 0; have hfz41_1 := bf_ BK157.out 1)))
    refine bodyPost_ret (zB rfl _ _ gb157 30 #[.int .i64 0, .int .i64 0] (0, 0) _ rfl (by (with_reducible repeat (first | refine xE ?_ _ | refine xJ ?_ | refine zM ?_ _)); refine yV (cs := #[.int .i64 0, .int .i64 0]) ?_ 1 _ rfl; (with_reducible repeat (first | refine xE ?_ _ | refine xJ ?_ | refine zM ?_ _)); refine yV (cs := #[.int .i64 0, .int .i64 0]) ?_ 0 _ rfl; (with_reducible repeat (first | refine xE ?_ _ | refine xJ ?_ | refine zM ?_ _)); exact BK157.out) Try.underlying30 rfl (by kernel_rfl)) rfl ?_
    exact ⟨by first | rfl | (simp [eN_, eS_] <;> rfl) | (simp [*, eN_, eS_] <;> rfl), by repeat first | exact HB.out | refine bs_ ?_ GE155.out | refine bs_ ?_ GE156.out | refine bs_ ?_ GE157.out | refine ul ?_⟩
   rw [if_neg c35] at H
   have c35b0 : decide (0 < t166) = false := decide_eq_false c35
   clear c35
   by_cases c42 : t168 > 0
   case pos =>
    rw [if_pos c42] at H
    have c42b0 : decide (0 < t168) = true := decide_eq_true c42
    clear c42
    simp only [Option.some.injEq, Prod.mk.injEq] at H
    obtain ⟨rfl, rfl, rfl⟩ := H
    have hcz45_0 := bT BK155.out 0 (.int .i64 a0_0)
    have hcz45_1 := bT BK155.out 1 (.int .i64 a0_1)
    have hfz45_0 := bf_ BK155.out 0
    have hfz45_1 := bf_ BK155.out 1
    go_wp2_with (first | (go_at_call 88; (with_reducible refine (zS.calls a0_0 t160 _ A25.out).mono ?_); rintro e w' ⟨rfl, ⟨nd, rfl⟩⟩; (try first | exact dA | exact dB); have hnb46 := NB156_157.out; have hnc46 := NB157_156.out; have hcz47_0 := bT BK156.out 0 (.int .i64 a1_0); have hcz47_1 := bT BK156.out 1 (.int .i64 a1_1); have hfz47_0 := bf_ BK156.out 0; have hfz47_1 := bf_ BK156.out 1) | (go_at_call 87; (with_reducible refine (zE.calls kj2 t160 (IntKind.u64.wrap (a1_1)) t161 _ A26.out).mono ?_); rintro e w' ⟨rfl, ⟨nd, rfl⟩⟩; (try first | exact dA | exact dB)) | (go_at_call 88; (with_reducible refine (zS.calls a1_0 t162 _ A27.out).mono ?_); rintro e w' ⟨rfl, ⟨nd, rfl⟩⟩; (try first | exact dA | exact dB)) | (go_at_call 87; (with_reducible refine (zE.calls kj2 t162 (IntKind.u64.wrap (a0_1)) t163 _ A28.out).mono ?_); rintro e w' ⟨rfl, ⟨nd, rfl⟩⟩; (try first | exact dA | exact dB)) | (go_at_call 88; (with_reducible refine (zS.calls a0_0 t160 _ A29.out).mono ?_); rintro e w' ⟨rfl, ⟨nd, rfl⟩⟩; (try first | exact dA | exact dB)) | (go_at_call 88; (with_reducible refine (zS.calls a1_0 t162 _ A31.out).mono ?_); rintro e w' ⟨rfl, ⟨nd, rfl⟩⟩; (try first | exact dA | exact dB)) | (go_at_call 121; (with_reducible refine (bits_Mul64.calls (IntKind.u64.wrap (Int.tdiv t160 t161)) (IntKind.u64.wrap (Int.tdiv t162 t163)) t166 t167 _ A33.out).mono ?_); rintro e w' ⟨rfl, ⟨nd, rfl⟩⟩; (try first | exact dA | exact dB)) | (go_at_call 121; (with_reducible refine (bits_Mul64.calls (IntKind.u64.wrap (Int.tdiv (IntKind.u64.wrap (a0_1)) t163)) (IntKind.u64.wrap (Int.tdiv (IntKind.u64.wrap (a1_1)) t161)) t168 t169 _ A34.out).mono ?_); rintro e w' ⟨rfl, ⟨nd, rfl⟩⟩; (try first | exact dA | exact dB); have hcz48_0 := bT BK157.out 0 (.int .i64 0); have hcz48_1 := bT BK157.out 1 (.int .i64 0); have hfz48_0 := bf_ BK157.out 0; have hfz48_1 := bf_ BK157.out 1))
    repeat (go_quiet (first | (go_at_call 88; (with_reducible refine (zS.calls a0_0 t160 _ A25.out).mono ?_); rintro e w' ⟨rfl, ⟨nd, rfl⟩⟩; (try first | exact dA | exact dB); have hnb46 := NB156_157.out; have hnc46 := NB157_156.out; have hcz47_0 := bT BK156.out 0 (.int .i64 a1_0); have hcz47_1 := bT BK156.out 1 (.int .i64 a1_1); have hfz47_0 := bf_ BK156.out 0; have hfz47_1 := bf_ BK156.out 1) | (go_at_call 87; (with_reducible refine (zE.calls kj2 t160 (IntKind.u64.wrap (a1_1)) t161 _ A26.out).mono ?_); rintro e w' ⟨rfl, ⟨nd, rfl⟩⟩; (try first | exact dA | exact dB)) | (go_at_call 88; (with_reducible refine (zS.calls a1_0 t162 _ A27.out).mono ?_); rintro e w' ⟨rfl, ⟨nd, rfl⟩⟩; (try first | exact dA | exact dB)) | (go_at_call 87; (with_reducible refine (zE.calls kj2 t162 (IntKind.u64.wrap (a0_1)) t163 _ A28.out).mono ?_); rintro e w' ⟨rfl, ⟨nd, rfl⟩⟩; (try first | exact dA | exact dB)) | (go_at_call 88; (with_reducible refine (zS.calls a0_0 t160 _ A29.out).mono ?_); rintro e w' ⟨rfl, ⟨nd, rfl⟩⟩; (try first | exact dA | exact dB)) | (go_at_call 88; (with_reducible refine (zS.calls a1_0 t162 _ A31.out).mono ?_); rintro e w' ⟨rfl, ⟨nd, rfl⟩⟩; (try first | exact dA | exact dB)) | (go_at_call 121; (with_reducible refine (bits_Mul64.calls (IntKind.u64.wrap (Int.tdiv t160 t161)) (IntKind.u64.wrap (Int.tdiv t162 t163)) t166 t167 _ A33.out).mono ?_); rintro e w' ⟨rfl, ⟨nd, rfl⟩⟩; (try first | exact dA | exact dB)) | (go_at_call 121; (with_reducible refine (bits_Mul64.calls (IntKind.u64.wrap (Int.tdiv (IntKind.u64.wrap (a0_1)) t163)) (IntKind.u64.wrap (Int.tdiv (IntKind.u64.wrap (a1_1)) t161)) t168 t169 _ A34.out).mono ?_); rintro e w' ⟨rfl, ⟨nd, rfl⟩⟩; (try first | exact dA | exact dB); have hcz48_0 := bT BK157.out 0 (.int .i64 0); have hcz48_1 := bT BK157.out 1 (.int .i64 0); have hfz48_0 := bf_ BK157.out 0; have hfz48_1 := bf_ BK157.out 1)); try go_wp2_with (first | (go_at_call 88; (with_reducible refine (zS.calls a0_0 t160 _ A25.out).mono ?_); rintro e w' ⟨rfl, ⟨nd, rfl⟩⟩; (try first | exact dA | exact dB); have hnb46 := NB156_157.out; have hnc46 := NB157_156.out; have hcz47_0 := bT BK156.out 0 (.int .i64 a1_0); have hcz47_1 := bT BK156.out 1 (.int .i64 a1_1); have hfz47_0 := bf_ BK156.out 0; have hfz47_1 := bf_ BK156.out 1) | (go_at_call 87; (with_reducible refine (zE.calls kj2 t160 (IntKind.u64.wrap (a1_1)) t161 _ A26.out).mono ?_); rintro e w' ⟨rfl, ⟨nd, rfl⟩⟩; (try first | exact dA | exact dB)) | (go_at_call 88; (with_reducible refine (zS.calls a1_0 t162 _ A27.out).mono ?_); rintro e w' ⟨rfl, ⟨nd, rfl⟩⟩; (try first | exact dA | exact dB)) | (go_at_call 87; (with_reducible refine (zE.calls kj2 t162 (IntKind.u64.wrap (a0_1)) t163 _ A28.out).mono ?_); rintro e w' ⟨rfl, ⟨nd, rfl⟩⟩; (try first | exact dA | exact dB)) | (go_at_call 88; (with_reducible refine (zS.calls a0_0 t160 _ A29.out).mono ?_); rintro e w' ⟨rfl, ⟨nd, rfl⟩⟩; (try first | exact dA | exact dB)) | (go_at_call 88; (with_reducible refine (zS.calls a1_0 t162 _ A31.out).mono ?_); rintro e w' ⟨rfl, ⟨nd, rfl⟩⟩; (try first | exact dA | exact dB)) | (go_at_call 121; (with_reducible refine (bits_Mul64.calls (IntKind.u64.wrap (Int.tdiv t160 t161)) (IntKind.u64.wrap (Int.tdiv t162 t163)) t166 t167 _ A33.out).mono ?_); rintro e w' ⟨rfl, ⟨nd, rfl⟩⟩; (try first | exact dA | exact dB)) | (go_at_call 121; (with_reducible refine (bits_Mul64.calls (IntKind.u64.wrap (Int.tdiv (IntKind.u64.wrap (a0_1)) t163)) (IntKind.u64.wrap (Int.tdiv (IntKind.u64.wrap (a1_1)) t161)) t168 t169 _ A34.out).mono ?_); rintro e w' ⟨rfl, ⟨nd, rfl⟩⟩; (try first | exact dA | exact dB); have hcz48_0 := bT BK157.out 0 (.int .i64 0); have hcz48_1 := bT BK157.out 1 (.int .i64 0); have hfz48_0 := bf_ BK157.out 0; have hfz48_1 := bf_ BK157.out 1)))
    refine bodyPost_ret (zB rfl _ _ gb157 30 #[.int .i64 0, .int .i64 0] (0, 0) _ rfl (by (with_reducible repeat (first | refine xE ?_ _ | refine xJ ?_ | refine zM ?_ _)); refine yV (cs := #[.int .i64 0, .int .i64 0]) ?_ 1 _ rfl; (with_reducible repeat (first | refine xE ?_ _ | refine xJ ?_ | refine zM ?_ _)); refine yV (cs := #[.int .i64 0, .int .i64 0]) ?_ 0 _ rfl; (with_reducible repeat (first | refine xE ?_ _ | refine xJ ?_ | refine zM ?_ _)); exact BK157.out) Try.underlying30 rfl (by kernel_rfl)) rfl ?_
    exact ⟨by first | rfl | (simp [eN_, eS_] <;> rfl) | (simp [*, eN_, eS_] <;> rfl), by repeat first | exact HB.out | refine bs_ ?_ GE155.out | refine bs_ ?_ GE156.out | refine bs_ ?_ GE157.out | refine ul ?_⟩
   rw [if_neg c42] at H
   have c42b0 : decide (0 < t168) = false := decide_eq_false c42
   clear c42
   replace H := Option.bind_eq_some_iff.mp H
   obtain ⟨⟨t170, t171, t172⟩, A490, H⟩ := H
   try dsimp only at H
   have A49 := aq (show yJ.f kj2 (!(decide (a0_0 < 0) == decide (a1_0 < 0))) t167 t169 = some (t170, t171, t172) from A490)
   clear A490
   simp only [Option.some.injEq, Prod.mk.injEq] at H
   obtain ⟨rfl, rfl, rfl⟩ := H
   have hcz52_0 := bT BK155.out 0 (.int .i64 a0_0)
   have hcz52_1 := bT BK155.out 1 (.int .i64 a0_1)
   have hfz52_0 := bf_ BK155.out 0
   have hfz52_1 := bf_ BK155.out 1
   go_wp2_with (first | (go_at_call 88; (with_reducible refine (zS.calls a0_0 t160 _ A25.out).mono ?_); rintro e w' ⟨rfl, ⟨nd, rfl⟩⟩; (try first | exact dA | exact dB); have hnb53 := NB156_157.out; have hnc53 := NB157_156.out; have hcz54_0 := bT BK156.out 0 (.int .i64 a1_0); have hcz54_1 := bT BK156.out 1 (.int .i64 a1_1); have hfz54_0 := bf_ BK156.out 0; have hfz54_1 := bf_ BK156.out 1) | (go_at_call 87; (with_reducible refine (zE.calls kj2 t160 (IntKind.u64.wrap (a1_1)) t161 _ A26.out).mono ?_); rintro e w' ⟨rfl, ⟨nd, rfl⟩⟩; (try first | exact dA | exact dB)) | (go_at_call 88; (with_reducible refine (zS.calls a1_0 t162 _ A27.out).mono ?_); rintro e w' ⟨rfl, ⟨nd, rfl⟩⟩; (try first | exact dA | exact dB)) | (go_at_call 87; (with_reducible refine (zE.calls kj2 t162 (IntKind.u64.wrap (a0_1)) t163 _ A28.out).mono ?_); rintro e w' ⟨rfl, ⟨nd, rfl⟩⟩; (try first | exact dA | exact dB)) | (go_at_call 88; (with_reducible refine (zS.calls a0_0 t160 _ A29.out).mono ?_); rintro e w' ⟨rfl, ⟨nd, rfl⟩⟩; (try first | exact dA | exact dB)) | (go_at_call 88; (with_reducible refine (zS.calls a1_0 t162 _ A31.out).mono ?_); rintro e w' ⟨rfl, ⟨nd, rfl⟩⟩; (try first | exact dA | exact dB)) | (go_at_call 121; (with_reducible refine (bits_Mul64.calls (IntKind.u64.wrap (Int.tdiv t160 t161)) (IntKind.u64.wrap (Int.tdiv t162 t163)) t166 t167 _ A33.out).mono ?_); rintro e w' ⟨rfl, ⟨nd, rfl⟩⟩; (try first | exact dA | exact dB)) | (go_at_call 121; (with_reducible refine (bits_Mul64.calls (IntKind.u64.wrap (Int.tdiv (IntKind.u64.wrap (a0_1)) t163)) (IntKind.u64.wrap (Int.tdiv (IntKind.u64.wrap (a1_1)) t161)) t168 t169 _ A34.out).mono ?_); rintro e w' ⟨rfl, ⟨nd, rfl⟩⟩; (try first | exact dA | exact dB)) | (go_at_call 126; (with_reducible refine (yJ.calls kj2 (!(decide (a0_0 < 0) == decide (a1_0 < 0))) t167 t169 t170 t171 t172 _ A49.out).mono ?_); rintro e w55 ⟨rfl, hb⟩; replace BK155 := bk BK155 hb; replace BK156 := bk BK156 hb; replace BK157 := bk BK157 hb; replace HB := aq (bt_ (by repeat first | exact HB.out | refine bs_ ?_ GE155.out | refine bs_ ?_ GE156.out | refine bs_ ?_ GE157.out | refine ul ?_) hb); (try clear hb); (try clear hb2); (try clear hk); (try clear hi); have hcz56_0 := bT BK157.out 0 (.int .i64 0); have hcz56_1 := bT BK157.out 1 (.int .i64 0); have hfz56_0 := bf_ BK157.out 0; have hfz56_1 := bf_ BK157.out 1))
   repeat (go_quiet (first | (go_at_call 88; (with_reducible refine (zS.calls a0_0 t160 _ A25.out).mono ?_); rintro e w' ⟨rfl, ⟨nd, rfl⟩⟩; (try first | exact dA | exact dB); have hnb53 := NB156_157.out; have hnc53 := NB157_156.out; have hcz54_0 := bT BK156.out 0 (.int .i64 a1_0); have hcz54_1 := bT BK156.out 1 (.int .i64 a1_1); have hfz54_0 := bf_ BK156.out 0; have hfz54_1 := bf_ BK156.out 1) | (go_at_call 87; (with_reducible refine (zE.calls kj2 t160 (IntKind.u64.wrap (a1_1)) t161 _ A26.out).mono ?_); rintro e w' ⟨rfl, ⟨nd, rfl⟩⟩; (try first | exact dA | exact dB)) | (go_at_call 88; (with_reducible refine (zS.calls a1_0 t162 _ A27.out).mono ?_); rintro e w' ⟨rfl, ⟨nd, rfl⟩⟩; (try first | exact dA | exact dB)) | (go_at_call 87; (with_reducible refine (zE.calls kj2 t162 (IntKind.u64.wrap (a0_1)) t163 _ A28.out).mono ?_); rintro e w' ⟨rfl, ⟨nd, rfl⟩⟩; (try first | exact dA | exact dB)) | (go_at_call 88; (with_reducible refine (zS.calls a0_0 t160 _ A29.out).mono ?_); rintro e w' ⟨rfl, ⟨nd, rfl⟩⟩; (try first | exact dA | exact dB)) | (go_at_call 88; (with_reducible refine (zS.calls a1_0 t162 _ A31.out).mono ?_); rintro e w' ⟨rfl, ⟨nd, rfl⟩⟩; (try first | exact dA | exact dB)) | (go_at_call 121; (with_reducible refine (bits_Mul64.calls (IntKind.u64.wrap (Int.tdiv t160 t161)) (IntKind.u64.wrap (Int.tdiv t162 t163)) t166 t167 _ A33.out).mono ?_); rintro e w' ⟨rfl, ⟨nd, rfl⟩⟩; (try first | exact dA | exact dB)) | (go_at_call 121; (with_reducible refine (bits_Mul64.calls (IntKind.u64.wrap (Int.tdiv (IntKind.u64.wrap (a0_1)) t163)) (IntKind.u64.wrap (Int.tdiv (IntKind.u64.wrap (a1_1)) t161)) t168 t169 _ A34.out).mono ?_); rintro e w' ⟨rfl, ⟨nd, rfl⟩⟩; (try first | exact dA | exact dB)) | (go_at_call 126; (with_reducible refine (yJ.calls kj2 (!(decide (a0_0 < 0) == decide (a1_0 < 0))) t167 t169 t170 t171 t172 _ A49.out).mono ?_); rintro e w55 ⟨rfl, hb⟩; have n0_ := aq (bb_ (g := gb155) (o := .cells #[.int .i64 a0_0, .int .i64 a0_1] 30 (0, 0)) (by (with_reducible repeat (first | refine xE ?_ _ | refine xJ ?_ | refine zM ?_ _)); exact BK155.out) hb); have n1_ := aq (bb_ (g := gb156) (o := .cells #[.int .i64 a1_0, .int .i64 a1_1] 30 (0, 0)) (by (with_reducible repeat (first | refine xE ?_ _ | refine xJ ?_ | refine zM ?_ _)); exact BK156.out) hb); have n2_ := aq (bb_ (g := gb157) (o := .cells #[.int .i64 0, .int .i64 0] 30 (0, 0)) (by (with_reducible repeat (first | refine xE ?_ _ | refine xJ ?_ | refine zM ?_ _)); exact BK157.out) hb); have n3_ := aq (bt_ (by repeat (first | (with_reducible first | exact HB.out | apply zY | apply bdN | apply zQ | refine bs_ ?_ GE155.out | refine bs_ ?_ GE156.out | refine bs_ ?_ GE157.out) | exact HB.out)) hb); clear BK155; clear BK156; clear BK157; clear HB; have BK155 := n0_; have BK156 := n1_; have BK157 := n2_; have HB := n3_; clear n0_ n1_ n2_ n3_; (try clear hb); (try clear hb2); (try clear hk); (try clear hi); have hcz56_0 := bT BK157.out 0 (.int .i64 0); have hcz56_1 := bT BK157.out 1 (.int .i64 0); have hfz56_0 := bf_ BK157.out 0; have hfz56_1 := bf_ BK157.out 1)); try go_wp2_with (first | (go_at_call 88; (with_reducible refine (zS.calls a0_0 t160 _ A25.out).mono ?_); rintro e w' ⟨rfl, ⟨nd, rfl⟩⟩; (try first | exact dA | exact dB); have hnb53 := NB156_157.out; have hnc53 := NB157_156.out; have hcz54_0 := bT BK156.out 0 (.int .i64 a1_0); have hcz54_1 := bT BK156.out 1 (.int .i64 a1_1); have hfz54_0 := bf_ BK156.out 0; have hfz54_1 := bf_ BK156.out 1) | (go_at_call 87; (with_reducible refine (zE.calls kj2 t160 (IntKind.u64.wrap (a1_1)) t161 _ A26.out).mono ?_); rintro e w' ⟨rfl, ⟨nd, rfl⟩⟩; (try first | exact dA | exact dB)) | (go_at_call 88; (with_reducible refine (zS.calls a1_0 t162 _ A27.out).mono ?_); rintro e w' ⟨rfl, ⟨nd, rfl⟩⟩; (try first | exact dA | exact dB)) | (go_at_call 87; (with_reducible refine (zE.calls kj2 t162 (IntKind.u64.wrap (a0_1)) t163 _ A28.out).mono ?_); rintro e w' ⟨rfl, ⟨nd, rfl⟩⟩; (try first | exact dA | exact dB)) | (go_at_call 88; (with_reducible refine (zS.calls a0_0 t160 _ A29.out).mono ?_); rintro e w' ⟨rfl, ⟨nd, rfl⟩⟩; (try first | exact dA | exact dB)) | (go_at_call 88; (with_reducible refine (zS.calls a1_0 t162 _ A31.out).mono ?_); rintro e w' ⟨rfl, ⟨nd, rfl⟩⟩; (try first | exact dA | exact dB)) | (go_at_call 121; (with_reducible refine (bits_Mul64.calls (IntKind.u64.wrap (Int.tdiv t160 t161)) (IntKind.u64.wrap (Int.tdiv t162 t163)) t166 t167 _ A33.out).mono ?_); rintro e w' ⟨rfl, ⟨nd, rfl⟩⟩; (try first | exact dA | exact dB)) | (go_at_call 121; (with_reducible refine (bits_Mul64.calls (IntKind.u64.wrap (Int.tdiv (IntKind.u64.wrap (a0_1)) t163)) (IntKind.u64.wrap (Int.tdiv (IntKind.u64.wrap (a1_1)) t161)) t168 t169 _ A34.out).mono ?_); rintro e w' ⟨rfl, ⟨nd, rfl⟩⟩; (try first | exact dA | exact dB)) | (go_at_call 126; (with_reducible refine (yJ.calls kj2 (!(decide (a0_0 < 0) == decide (a1_0 < 0))) t167 t169 t170 t171 t172 _ A49.out).mono ?_); rintro e w55 ⟨rfl, hb⟩; have n0_ := aq (bb_ (g := gb155) (o := .cells #[.int .i64 a0_0, .int .i64 a0_1] 30 (0, 0)) (by (with_reducible repeat (first | refine xE ?_ _ | refine xJ ?_ | refine zM ?_ _)); exact BK155.out) hb); have n1_ := aq (bb_ (g := gb156) (o := .cells #[.int .i64 a1_0, .int .i64 a1_1] 30 (0, 0)) (by (with_reducible repeat (first | refine xE ?_ _ | refine xJ ?_ | refine zM ?_ _)); exact BK156.out) hb); have n2_ := aq (bb_ (g := gb157) (o := .cells #[.int .i64 0, .int .i64 0] 30 (0, 0)) (by (with_reducible repeat (first | refine xE ?_ _ | refine xJ ?_ | refine zM ?_ _)); exact BK157.out) hb); have n3_ := aq (bt_ (by repeat (first | (with_reducible first | exact HB.out | apply zY | apply bdN | apply zQ | refine bs_ ?_ GE155.out | refine bs_ ?_ GE156.out | refine bs_ ?_ GE157.out) | exact HB.out)) hb); clear BK155; clear BK156; clear BK157; clear HB; have BK155 := n0_; have BK156 := n1_; have BK157 := n2_; have HB := n3_; clear n0_ n1_ n2_ n3_; (try clear hb); (try clear hb2); (try clear hk); (try clear hi); have hcz56_0 := bT BK157.out 0 (.int .i64 0); have hcz56_1 := bT BK157.out 1 (.int .i64 0); have hfz56_0 := bf_ BK157.out 0; have hfz56_1 := bf_ BK157.out 1)))
   refine bodyPost_ret (zB rfl _ _ gb157 30 #[.int .i64 t170, .int .i64 t171] (0, 0) _ rfl (by (with_reducible repeat (first | refine xE ?_ _ | refine xJ ?_ | refine zM ?_ _)); refine yV (cs := #[.int .i64 t170, .int .i64 0]) ?_ 1 _ rfl; (with_reducible repeat (first | refine xE ?_ _ | refine xJ ?_ | refine zM ?_ _)); refine yV (cs := #[.int .i64 0, .int .i64 0]) ?_ 0 _ rfl; (with_reducible repeat (first | refine xE ?_ _ | refine xJ ?_ | refine zM ?_ _)); exact BK157.out) Try.underlying30 rfl (by kernel_rfl)) rfl ?_
   exact ⟨by first | rfl | (simp [eN_, eS_] <;> rfl) | (simp [*, eN_, eS_] <;> rfl), by repeat first | exact HB.out | refine bs_ ?_ GE155.out | refine bs_ ?_ GE156.out | refine bs_ ?_ GE157.out | refine ul ?_⟩
def xQ.j0 : Nat → Bool → Int → Int → Int → Int → Option (Int × Int × Int)
  | 0, _, _, _, _, _ => none
  | k + 1, x6, x221000, x221001, x222000, x222001 => if x6 = true then (some (0, 0, 1)) else (if x222000 = 0 then (some (0, 0, 6)) else (if x222000 < 0 then ((yA.f k x221000 x221001 (wrap64 (-x222001)) (wrap64 (-x222000))).bind fun bt225 => (some (bt225.1, bt225.2.1, bt225.2.2))) else ((yA.f k x221000 x221001 x222001 x222000).bind fun bt228 => (some (bt228.1, bt228.2.1, bt228.2.2)))))
def xQ.f (k : Nat) (a0_0 : Int) (a0_1 : Int) (a1_0 : Int) (a1_1 : Int) : Option (Int × Int × Int) := (zO.f k a0_0 a0_1).bind fun t223 => (if t223 = true then ((zO.f k a1_0 a1_1).bind fun t224 => (xQ.j0 k (!t224) a0_0 a0_1 a1_0 a1_1)) else (xQ.j0 k true a0_0 a0_1 a1_0 a1_1))
theorem xQ.calls (k : Nat) (a0_0 : Int) (a0_1 : Int) (a1_0 : Int) (a1_1 : Int) (r1 : Int) (r2 : Int) (r3 : Int) (w : World) (h : xQ.f k a0_0 a0_1 a1_0 a1_1 = some (r1, r2, r3)) :
    Calls Try.prog 99 #[.agg #[.int .i64 a0_0, .int .i64 a0_1], .agg #[.int .i64 a1_0, .int .i64 a1_1]] w fun e w' => e = .returned (.tuple #[.agg #[.int .i64 r1, .int .i64 r2], .int .i64 r3]) ∧ Below w.heap.size w w' := by
 have hu30 := Try.underlying30
 have HB := aq (Below.refl w.heap.size w)
 have H := h
 unfold xQ.f at H
 clear h
 have HC3 := aq H
 clear H
 go_enter Try.func99, Try.ntmps99
 go_upto_region 1 with (first | ((with_reducible refine gD (N := 2) rfl ?_); refine bE ?hg (N := 2) ?hd (cs := #[.int .i64 a0_0, .int .i64 a0_1]) (t := 30) ?hr ?_; (case hd => rfl); (case hg => rfl); (case hr => first | (go_simp; done) | (go_simp; rfl)); intro gb220 hg w4 hbox hb; have n0_ := aq (bt_ (by exact ul HB.out) hb); have n1_ := aq (hbox); have n2_ := aq ((by rw [hg]; exact (bz_ (by exact ul HB.out)) : w.heap.size ≤ gb220)); have n3_ := aq ((by rw [hg]; exact (bz_ (by exact ul HB.out)) : w.heap.size ≤ gb220)); clear HB; have HB := n0_; have BK220 := n1_; have GW220 := n2_; have GE220 := n3_; clear n0_ n1_ n2_ n3_; clear hb hbox hg) | ((with_reducible refine gD (N := 3) rfl ?_); refine bE ?hg (N := 3) ?hd (cs := #[.int .i64 a1_0, .int .i64 a1_1]) (t := 30) ?hr ?_; (case hd => rfl); (case hg => rfl); (case hr => first | (go_simp; done) | (go_simp; rfl)); intro gb221 hg w5 hbox hb; have n0_ := bk BK220 hb; have n1_ := aq (bt_ (by repeat first | exact HB.out | refine bs_ ?_ GE220.out | refine ul ?_) hb); have n2_ := aq (hbox); have n3_ := aq ((by rw [hg]; exact (bz_ (by repeat first | exact HB.out | refine bs_ ?_ GE220.out | refine ul ?_)) : w.heap.size ≤ gb221)); have n4_ := aq ((by rw [hg]; exact (bz_ (by repeat first | exact HB.out | refine bs_ ?_ GE220.out | refine ul ?_)) : w.heap.size ≤ gb221)); have n5_ := aq ((by rw [hg]; exact Nat.ne_of_lt (zN (g := gb220) (o := .cells #[.int .i64 a0_0, .int .i64 a0_1] 30 (0, 0)) (by exact ub BK220.out)) : gb220 ≠ gb221)); have n6_ := aq ((by rw [hg]; exact Nat.ne_of_gt (zN (g := gb220) (o := .cells #[.int .i64 a0_0, .int .i64 a0_1] 30 (0, 0)) (by exact ub BK220.out)) : gb221 ≠ gb220)); clear BK220; clear HB; have BK220 := n0_; have HB := n1_; have BK221 := n2_; have GW221 := n3_; have GE221 := n4_; have NB220_221 := n5_; have NB221_220 := n6_; clear n0_ n1_ n2_ n3_ n4_ n5_ n6_; clear hb hbox hg) | ((with_reducible refine gD (N := 4) rfl ?_); refine bE ?hg (N := 4) ?hd (cs := #[.int .i64 0, .int .i64 0]) (t := 30) ?hr ?_; (case hd => rfl); (case hg => rfl); (case hr => first | (go_simp; done) | (go_simp; rfl)); intro gb222 hg w6 hbox hb; have n0_ := bk BK220 hb; have n1_ := bk BK221 hb; have n2_ := aq (bt_ (by repeat first | exact HB.out | refine bs_ ?_ GE220.out | refine bs_ ?_ GE221.out | refine ul ?_) hb); have n3_ := aq (hbox); have n4_ := aq ((by rw [hg]; exact (bz_ (by repeat first | exact HB.out | refine bs_ ?_ GE220.out | refine bs_ ?_ GE221.out | refine ul ?_)) : w.heap.size ≤ gb222)); have n5_ := aq ((by rw [hg]; exact (bz_ (by repeat first | exact HB.out | refine bs_ ?_ GE220.out | refine bs_ ?_ GE221.out | refine ul ?_)) : w.heap.size ≤ gb222)); have n6_ := aq ((by rw [hg]; exact Nat.ne_of_lt (zN (g := gb220) (o := .cells #[.int .i64 a0_0, .int .i64 a0_1] 30 (0, 0)) (by exact ub BK220.out)) : gb220 ≠ gb222)); have n7_ := aq ((by rw [hg]; exact Nat.ne_of_gt (zN (g := gb220) (o := .cells #[.int .i64 a0_0, .int .i64 a0_1] 30 (0, 0)) (by exact ub BK220.out)) : gb222 ≠ gb220)); have n8_ := aq ((by rw [hg]; exact Nat.ne_of_lt (zN (g := gb221) (o := .cells #[.int .i64 a1_0, .int .i64 a1_1] 30 (0, 0)) (by exact ub BK221.out)) : gb221 ≠ gb222)); have n9_ := aq ((by rw [hg]; exact Nat.ne_of_gt (zN (g := gb221) (o := .cells #[.int .i64 a1_0, .int .i64 a1_1] 30 (0, 0)) (by exact ub BK221.out)) : gb222 ≠ gb221)); clear BK220; clear BK221; clear HB; have BK220 := n0_; have BK221 := n1_; have HB := n2_; have BK222 := n3_; have GW222 := n4_; have GE222 := n5_; have NB220_222 := n6_; have NB222_220 := n7_; have NB221_222 := n8_; have NB222_221 := n9_; clear n0_ n1_ n2_ n3_ n4_ n5_ n6_ n7_ n8_ n9_; clear hb hbox hg))
 (try simp only [Act.put, List.setIfInBounds_toArray, List.set_cons_zero, List.set_cons_succ])
 go_cut [6] (fun v6 wc => ∃ (kq : Nat) (x6_2 : Bool), v6 = .bool x6_2 ∧ zT (xQ.j0 kq x6_2 a0_0 a0_1 a1_0 a1_1 = some (r1, r2, r3)) ∧ zT (kq ≤ k) ∧ zT (wc.heap[gb220]? = some (.cells #[.int .i64 a0_0, .int .i64 a0_1] 30 (0, 0))) ∧ zT (wc.heap[gb221]? = some (.cells #[.int .i64 a1_0, .int .i64 a1_1] 30 (0, 0))) ∧ zT (wc.heap[gb222]? = some (.cells #[.int .i64 0, .int .i64 0] 30 (0, 0))) ∧ zT (Below w.heap.size w wc))
 case first =>
  have H := HC3.out
  clear HC3
  replace H := Option.bind_eq_some_iff.mp H
  obtain ⟨t223, A70, H⟩ := H
  try dsimp only at H
  have A7 := aq A70
  clear A70
  by_cases c8 : t223 = true
  case neg =>
   replace c8 := Bool.eq_false_iff.mpr c8
   subst c8
   have H1 : (xQ.j0 k true a0_0 a0_1 a1_0 a1_1) = some (r1, r2, r3) := by rw [if_neg (show ¬ (false = true) by decide)] at H; exact H
   clear H
   have H := H1
   clear H1
   have H' := aq H
   clear H
   have hnb17 := NB220_221.out
   have hnc17 := NB221_220.out
   have hnb18 := NB220_222.out
   have hnc18 := NB222_220.out
   have hcz19_0 := bT BK220.out 0 (.int .i64 a0_0)
   have hcz19_1 := bT BK220.out 1 (.int .i64 a0_1)
   have hfz19_0 := bf_ BK220.out 0
   have hfz19_1 := bf_ BK220.out 1
   go_wp2_with (first | ((with_reducible refine xL (f := 59) rfl ?_); refine tS (some 8) rfl rfl Try.func59 (by kernel_rfl) rfl #[.agg #[.int .i64 a0_0, .int .i64 a0_1]] rfl (by simp only [List.map_toArray, List.map_cons, List.map_nil] <;> rfl) ?_; (with_reducible refine (zO.calls k a0_0 a0_1 false _ A7.out).mono ?_); rintro e w20 ⟨rfl, hb⟩; refine ⟨_, rfl, ?_⟩; replace BK220 := bk BK220 hb; replace BK221 := bk BK221 hb; replace BK222 := bk BK222 hb; replace HB := aq (bt_ (by repeat first | exact HB.out | refine bs_ ?_ GE220.out | refine bs_ ?_ GE221.out | refine bs_ ?_ GE222.out | refine ul ?_) hb)))
   go_meet
   case rel => exact ⟨_, (true), (by first | rfl | simp [*]), H', ⟨by first | omega | exact Nat.le_refl _⟩, ⟨by exact ub BK220.out⟩, ⟨by exact ub BK221.out⟩, ⟨by exact ub BK222.out⟩, ⟨by repeat first | exact HB.out | refine bs_ ?_ GE220.out | refine bs_ ?_ GE221.out | refine bs_ ?_ GE222.out | refine ul ?_⟩⟩
  subst c8
  have H1 : ((zO.f k a1_0 a1_1).bind fun t224 => (xQ.j0 k (!t224) a0_0 a0_1 a1_0 a1_1)) = some (r1, r2, r3) := by rw [if_pos rfl] at H; exact H
  clear H
  have H := H1
  clear H1
  replace H := Option.bind_eq_some_iff.mp H
  obtain ⟨t224, A90, H⟩ := H
  try dsimp only at H
  have A9 := aq A90
  clear A90
  have H' := aq H
  clear H
  have hnb10 := NB220_221.out
  have hnc10 := NB221_220.out
  have hnb11 := NB220_222.out
  have hnc11 := NB222_220.out
  have hcz12_0 := bT BK220.out 0 (.int .i64 a0_0)
  have hcz12_1 := bT BK220.out 1 (.int .i64 a0_1)
  have hfz12_0 := bf_ BK220.out 0
  have hfz12_1 := bf_ BK220.out 1
  go_wp2_with (first | ((with_reducible refine xL (f := 59) rfl ?_); refine tS (some 8) rfl rfl Try.func59 (by kernel_rfl) rfl #[.agg #[.int .i64 a0_0, .int .i64 a0_1]] rfl (by simp only [List.map_toArray, List.map_cons, List.map_nil] <;> rfl) ?_; (with_reducible refine (zO.calls k a0_0 a0_1 true _ A7.out).mono ?_); rintro e w13 ⟨rfl, hb⟩; refine ⟨_, rfl, ?_⟩; replace BK220 := bk BK220 hb; replace BK221 := bk BK221 hb; replace BK222 := bk BK222 hb; replace HB := aq (bt_ (by repeat first | exact HB.out | refine bs_ ?_ GE220.out | refine bs_ ?_ GE221.out | refine bs_ ?_ GE222.out | refine ul ?_) hb); have hnb14 := NB221_222.out; have hnc14 := NB222_221.out; have hcz15_0 := bT BK221.out 0 (.int .i64 a1_0); have hcz15_1 := bT BK221.out 1 (.int .i64 a1_1); have hfz15_0 := bf_ BK221.out 0; have hfz15_1 := bf_ BK221.out 1) | (go_at_call 59; (with_reducible refine (zO.calls k a1_0 a1_1 t224 _ A9.out).mono ?_); rintro e w16 ⟨rfl, hb⟩; replace BK220 := bk BK220 hb; replace BK221 := bk BK221 hb; replace BK222 := bk BK222 hb; replace HB := aq (bt_ (by repeat first | exact HB.out | refine bs_ ?_ GE220.out | refine bs_ ?_ GE221.out | refine bs_ ?_ GE222.out | refine ul ?_) hb)))
  go_meet
  case rel => exact ⟨_, (!t224), (by first | rfl | simp [*]), H', ⟨by first | omega | exact Nat.le_refl _⟩, ⟨by exact ub BK220.out⟩, ⟨by exact ub BK221.out⟩, ⟨by exact ub BK222.out⟩, ⟨by repeat first | exact HB.out | refine bs_ ?_ GE220.out | refine bs_ ?_ GE221.out | refine bs_ ?_ GE222.out | refine ul ?_⟩⟩
 case rest =>
  clear HC3
  obtain ⟨kq, x6_2, rfl, HA, HJ2, BK220, BK221, BK222, HB⟩ := hcut
  cases kq with
  | zero => exact absurd HA.out (by simp [xQ.j0])
  | succ kj2 =>
   have H := HA.out
   clear HA
   simp only [xQ.j0] at H
   by_cases c21 : x6_2 = true
   case pos =>
    subst c21
    have H1 : (some (0, 0, 1)) = some (r1, r2, r3) := by rw [if_pos rfl] at H; exact H
    clear H
    have H := H1
    clear H1
    simp only [Option.some.injEq, Prod.mk.injEq] at H
    obtain ⟨rfl, rfl, rfl⟩ := H
    have hnb22 := NB222_220.out
    have hnc22 := NB220_222.out
    have hnb23 := NB222_221.out
    have hnc23 := NB221_222.out
    have hcz24_0 := bT BK222.out 0 (.int .i64 0)
    have hcz24_1 := bT BK222.out 1 (.int .i64 0)
    have hfz24_0 := bf_ BK222.out 0
    have hfz24_1 := bf_ BK222.out 1
    go_wp2
    refine bodyPost_ret (zB rfl _ _ gb222 30 #[.int .i64 0, .int .i64 0] (0, 0) _ rfl (by refine ub ?_; refine yV (cs := #[.int .i64 0, .int .i64 0]) ?_ 1 _ rfl; refine ub ?_; refine yV (cs := #[.int .i64 0, .int .i64 0]) ?_ 0 _ rfl; refine ub ?_; exact BK222.out) Try.underlying30 rfl (by kernel_rfl)) rfl ?_
    exact ⟨by first | rfl | (simp [eN_, eS_] <;> rfl) | (simp [*, eN_, eS_] <;> rfl), by repeat first | exact HB.out | refine bs_ ?_ GE220.out | refine bs_ ?_ GE221.out | refine bs_ ?_ GE222.out | refine ul ?_⟩
   replace c21 := Bool.eq_false_iff.mpr c21
   subst c21
   have H1 : (if a1_0 = 0 then (some (0, 0, 6)) else (if a1_0 < 0 then ((yA.f kj2 a0_0 a0_1 (wrap64 (-a1_1)) (wrap64 (-a1_0))).bind fun bt225 => (some (bt225.1, bt225.2.1, bt225.2.2))) else ((yA.f kj2 a0_0 a0_1 a1_1 a1_0).bind fun bt228 => (some (bt228.1, bt228.2.1, bt228.2.2))))) = some (r1, r2, r3) := by rw [if_neg (show ¬ (false = true) by decide)] at H; exact H
   clear H
   have H := H1
   clear H1
   by_cases c25 : a1_0 = 0
   case pos =>
    rw [if_pos c25] at H
    have c25b0 : (a1_0 == 0) = true := beq_iff_eq.mpr c25
    have c25b1 : (a1_0 != 0) = false := bne_eq_false_iff_eq.mpr c25
    clear c25
    simp only [Option.some.injEq, Prod.mk.injEq] at H
    obtain ⟨rfl, rfl, rfl⟩ := H
    have hnb26 := NB221_220.out
    have hnc26 := NB220_221.out
    have hnb27 := NB221_222.out
    have hnc27 := NB222_221.out
    have hcz28_0 := bT BK221.out 0 (.int .i64 a1_0)
    have hcz28_1 := bT BK221.out 1 (.int .i64 a1_1)
    have hfz28_0 := bf_ BK221.out 0
    have hfz28_1 := bf_ BK221.out 1
    have hnb29 := NB222_220.out
    have hnc29 := NB220_222.out
    have hcz30_0 := bT BK222.out 0 (.int .i64 0)
    have hcz30_1 := bT BK222.out 1 (.int .i64 0)
    have hfz30_0 := bf_ BK222.out 0
    have hfz30_1 := bf_ BK222.out 1
    go_wp2
    refine bodyPost_ret (zB rfl _ _ gb222 30 #[.int .i64 0, .int .i64 0] (0, 0) _ rfl (by refine ub ?_; refine yV (cs := #[.int .i64 0, .int .i64 0]) ?_ 1 _ rfl; refine ub ?_; refine yV (cs := #[.int .i64 0, .int .i64 0]) ?_ 0 _ rfl; refine ub ?_; exact BK222.out) Try.underlying30 rfl (by kernel_rfl)) rfl ?_
    exact ⟨by first | rfl | (simp [eN_, eS_] <;> rfl) | (simp [*, eN_, eS_] <;> rfl), by repeat first | exact HB.out | refine bs_ ?_ GE220.out | refine bs_ ?_ GE221.out | refine bs_ ?_ GE222.out | refine ul ?_⟩
   rw [if_neg c25] at H
   have c25b0 : (a1_0 == 0) = false := beq_eq_false_iff_ne.mpr c25
   have c25b1 : (a1_0 != 0) = true := bne_iff_ne.mpr c25
   by_cases c31 : a1_0 < 0
   case neg =>
    rw [if_neg c31] at H
    have c31b0 : decide (a1_0 < 0) = false := decide_eq_false c31
    clear c31
    replace H := Option.bind_eq_some_iff.mp H
    obtain ⟨⟨t228, t229, t230⟩, A400, H⟩ := H
    try dsimp only at H
    have A40 := aq A400
    clear A400
    simp only [Option.some.injEq, Prod.mk.injEq] at H
    obtain ⟨rfl, rfl, rfl⟩ := H
    have hnb41 := NB221_220.out
    have hnc41 := NB220_221.out
    have hnb42 := NB221_222.out
    have hnc42 := NB222_221.out
    have hcz43_0 := bT BK221.out 0 (.int .i64 a1_0)
    have hcz43_1 := bT BK221.out 1 (.int .i64 a1_1)
    have hfz43_0 := bf_ BK221.out 0
    have hfz43_1 := bf_ BK221.out 1
    have hnb44 := NB220_222.out
    have hnc44 := NB222_220.out
    have hcz45_0 := bT BK220.out 0 (.int .i64 a0_0)
    have hcz45_1 := bT BK220.out 1 (.int .i64 a0_1)
    have hfz45_0 := bf_ BK220.out 0
    have hfz45_1 := bf_ BK220.out 1
    go_wp2_with (first | ((with_reducible refine xL (f := 105) rfl ?_); refine tS (some 42) rfl rfl Try.func105 (by kernel_rfl) rfl #[.agg #[.int .i64 a0_0, .int .i64 a0_1], .agg #[.int .i64 a1_1, .int .i64 a1_0]] rfl (by simp only [List.map_toArray, List.map_cons, List.map_nil] <;> rfl) ?_; (with_reducible refine (yA.calls kj2 a0_0 a0_1 a1_1 a1_0 t228 t229 t230 _ A40.out).mono ?_); rintro e w46 ⟨rfl, hb⟩; refine ⟨_, rfl, ?_⟩; replace BK220 := bk BK220 hb; replace BK221 := bk BK221 hb; replace BK222 := bk BK222 hb; replace HB := aq (bt_ (by repeat first | exact HB.out | refine bs_ ?_ GE220.out | refine bs_ ?_ GE221.out | refine bs_ ?_ GE222.out | refine ul ?_) hb); have hcz47_0 := bT BK222.out 0 (.int .i64 0); have hcz47_1 := bT BK222.out 1 (.int .i64 0); have hfz47_0 := bf_ BK222.out 0; have hfz47_1 := bf_ BK222.out 1))
    refine bodyPost_ret (zB rfl _ _ gb222 30 #[.int .i64 t228, .int .i64 t229] (0, 0) _ rfl (by refine ub ?_; refine yV (cs := #[.int .i64 t228, .int .i64 0]) ?_ 1 _ rfl; refine ub ?_; refine yV (cs := #[.int .i64 0, .int .i64 0]) ?_ 0 _ rfl; refine ub ?_; exact BK222.out) Try.underlying30 rfl (by kernel_rfl)) rfl ?_
    exact ⟨by first | rfl | (simp [eN_, eS_] <;> rfl) | (simp [*, eN_, eS_] <;> rfl), by repeat first | exact HB.out | refine bs_ ?_ GE220.out | refine bs_ ?_ GE221.out | refine bs_ ?_ GE222.out | refine ul ?_⟩
   rw [if_pos c31] at H
   have c31b0 : decide (a1_0 < 0) = true := decide_eq_true c31
   clear c31
   replace H := Option.bind_eq_some_iff.mp H
   obtain ⟨⟨t225, t226, t227⟩, A320, H⟩ := H
   try dsimp only at H
   have A32 := aq A320
   clear A320
   simp only [Option.some.injEq, Prod.mk.injEq] at H
   obtain ⟨rfl, rfl, rfl⟩ := H
   have hnb33 := NB221_220.out
   have hnc33 := NB220_221.out
   have hnb34 := NB221_222.out
   have hnc34 := NB222_221.out
   have hcz35_0 := bT BK221.out 0 (.int .i64 a1_0)
   have hcz35_1 := bT BK221.out 1 (.int .i64 a1_1)
   have hfz35_0 := bf_ BK221.out 0
   have hfz35_1 := bf_ BK221.out 1
   have hnb36 := NB220_222.out
   have hnc36 := NB222_220.out
   have hcz37_0 := bT BK220.out 0 (.int .i64 a0_0)
   have hcz37_1 := bT BK220.out 1 (.int .i64 a0_1)
   have hfz37_0 := bf_ BK220.out 0
   have hfz37_1 := bf_ BK220.out 1
   go_wp2_with (first | ((with_reducible refine xL (f := 105) rfl ?_); refine tS (some 33) rfl rfl Try.func105 (by kernel_rfl) rfl #[.agg #[.int .i64 a0_0, .int .i64 a0_1], .agg #[.int .i64 (wrap64 (-a1_1)), .int .i64 (wrap64 (-a1_0))]] rfl (by simp only [List.map_toArray, List.map_cons, List.map_nil] <;> rfl) ?_; (with_reducible refine (yA.calls kj2 a0_0 a0_1 (wrap64 (-a1_1)) (wrap64 (-a1_0)) t225 t226 t227 _ A32.out).mono ?_); rintro e w38 ⟨rfl, hb⟩; refine ⟨_, rfl, ?_⟩; replace BK220 := bk BK220 hb; replace BK221 := bk BK221 hb; replace BK222 := bk BK222 hb; replace HB := aq (bt_ (by repeat first | exact HB.out | refine bs_ ?_ GE220.out | refine bs_ ?_ GE221.out | refine bs_ ?_ GE222.out | refine ul ?_) hb); have hcz39_0 := bT BK222.out 0 (.int .i64 0); have hcz39_1 := bT BK222.out 1 (.int .i64 0); have hfz39_0 := bf_ BK222.out 0; have hfz39_1 := bf_ BK222.out 1))
   refine bodyPost_ret (zB rfl _ _ gb222 30 #[.int .i64 t225, .int .i64 t226] (0, 0) _ rfl (by refine ub ?_; refine yV (cs := #[.int .i64 t225, .int .i64 0]) ?_ 1 _ rfl; refine ub ?_; refine yV (cs := #[.int .i64 0, .int .i64 0]) ?_ 0 _ rfl; refine ub ?_; exact BK222.out) Try.underlying30 rfl (by kernel_rfl)) rfl ?_
   exact ⟨by first | rfl | (simp [eN_, eS_] <;> rfl) | (simp [*, eN_, eS_] <;> rfl), by repeat first | exact HB.out | refine bs_ ?_ GE220.out | refine bs_ ?_ GE221.out | refine bs_ ?_ GE222.out | refine ul ?_⟩
end Go.Proofs.Ytoonahobmlnflaa.PC
