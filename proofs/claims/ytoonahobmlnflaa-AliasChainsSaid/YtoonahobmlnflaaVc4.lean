/- Texts of this claim, one behind the other. -/
import Derived.Test.YtoonahobmlnflaaVc3
import Derived.Laws.BitsAllLaws
set_option linter.unusedVariables false
set_option linter.unusedSimpArgs false
set_option maxRecDepth 100000
set_option maxHeartbeats 16000000
namespace Go.Proofs.Ytoonahobmlnflaa.PC
open Go.RowKit A B C
attribute [local go_sem] yC yE xO xP yK yL yD yF
def wG.T1 : Bool × List (List Nat × List Nat) := (true, [([], []), ([0], [0]), ([1], [1]), ([2], [2]), ([3], [3]), ([4, 3], [3, 4]), ([5, 3], [3, 5]), ([3, 6], [3, 6]), ([7, 3], [7]), ([8], [8]), ([9, 8], [8, 9]), ([10, 8, 8], [8, 10]), ([8], [8]), ([12, 8], [8, 12]), ([13, 11, 8], [8, 13]), ([11, 14, 14, 8], [8, 11, 14]), ([15, 8], [8]), ([15, 16, 16, 8], [8, 15, 16]), ([17, 8], [8, 17]), ([8, 18], [8, 18]), ([19, 17, 0, 1, 2, 3, 4, 5, 6, 7, 8, 9, 10, 11, 12, 13, 14, 15, 16, 17, 18, 19], [19])])
def wG.B1 : List Nat := [0, 1, 3, 7, 15, 31, 63, 127, 255, 511, 1023, 2047, 511, 4607, 16383, 32767, 65535, 131071, 262143, 524287, 1048575]
theorem wG.tab1 : wD .any (opsOf Try.f32 1) = wG.T1 := by kernel_rfl
theorem wG.oY : xR wG.T1.2 wG.B1 = true := by kernel_rfl
end Go.Proofs.Ytoonahobmlnflaa.PC
namespace Go.Proofs.Ytoonahobmlnflaa.PC
open Go.RowKit A B C
theorem wr64 {n : Int} (h0 : -9223372036854775808 ≤ n) (h1 : n ≤ 9223372036854775807) : wrap64 n = n := by unfold wrap64; omega
def vB : List Int → Int
  | [] => 0
  | d :: l => d + 4294967296 * vB l
def Dg (l : List Int) : Prop := ∀ d ∈ l, 0 ≤ d ∧ d < 4294967296
def Gd (l : List Int) : Prop := Dg l ∧ ∀ h : l ≠ [], l.getLast h ≠ 0
theorem Dg.nil : Dg [] := fun _ h => by cases h
theorem Gd.nil : Gd [] := ⟨Dg.nil, fun h => absurd rfl h⟩
theorem Dg.app {a b : List Int} (ha : Dg a) (hb : Dg b) : Dg (a ++ b) := fun d h => (List.mem_append.1 h).elim (ha d) (hb d)
theorem Dg.left {a b : List Int} (h : Dg (a ++ b)) : Dg a := fun d hd => h d (List.mem_append_left _ hd)
theorem Dg.right {a b : List Int} (h : Dg (a ++ b)) : Dg b := fun d hd => h d (List.mem_append_right _ hd)
theorem Dg.one {d : Int} (h0 : 0 ≤ d) (h1 : d < 4294967296) : Dg [d] := fun x hx => by rw [List.mem_singleton] at hx; subst hx; exact ⟨h0, h1⟩
theorem Dg.take {a : List Int} (h : Dg a) (n : Nat) : Dg (a.take n) := fun d hd => h d (List.mem_of_mem_take hd)
def pB (n : Nat) : Int := 4294967296 ^ n
theorem pB_zero : pB 0 = 1 := rfl
theorem pB_succ (n : Nat) : pB (n + 1) = pB n * 4294967296 := Int.pow_succ ..
theorem pB_pos (n : Nat) : 0 < pB n := Int.pow_pos (by decide)
theorem vB_append (a b : List Int) : vB (a ++ b) = vB a + pB a.length * vB b := by
  induction a with
  | nil => simp [vB, pB_zero]
  | cons d a ih =>
    rw [List.cons_append, vB, vB, ih, List.length_cons, pB_succ, Int.mul_add, ← Int.mul_assoc, Int.mul_comm (pB a.length) 4294967296, Int.add_assoc]
theorem vB_one (d : Int) : vB [d] = d := by simp [vB]
theorem vB_nonneg {a : List Int} (h : Dg a) : 0 ≤ vB a := by
  induction a with
  | nil => exact Int.le_refl _
  | cons d a ih =>
    have h1 := h d List.mem_cons_self
    have h2 := ih (fun x hx => h x (List.mem_cons_of_mem _ hx))
    rw [vB]; omega
theorem getLast_snoc (a : List Int) (d : Int) (h : a ++ [d] ≠ []) : (a ++ [d]).getLast h = d := by simp
theorem snoc_of_ne {l : List Int} (h : l ≠ []) : ∃ a d, l = a ++ [d] := ⟨l.dropLast, l.getLast h, (List.dropLast_concat_getLast h).symm⟩
theorem Gd.snoc {a : List Int} {d : Int} (h : Gd (a ++ [d])) : Dg a ∧ 0 < d ∧ d < 4294967296 := by
  have h1 := h.2 (by simp)
  rw [getLast_snoc] at h1
  have h2 := h.1 d (by simp)
  exact ⟨h.1.left, by omega, h2.2⟩
theorem mul_ge {p d : Int} (hp : 0 < p) (hd : 1 ≤ d) : p ≤ p * d := by
  calc p = p * 1 := (Int.mul_one _).symm
    _ ≤ p * d := Int.mul_le_mul_of_nonneg_left hd (by omega)
theorem Gd.ge {l : List Int} (h : Gd l) (hn : l ≠ []) : pB (l.length - 1) ≤ vB l := by
  obtain ⟨a, d, rfl⟩ := snoc_of_ne hn
  obtain ⟨h1, h2, h3⟩ := h.snoc
  rw [vB_append, vB_one, List.length_append, List.length_singleton, Nat.add_sub_cancel]
  have := mul_ge (pB_pos a.length) (d := d) (by omega)
  have := vB_nonneg h1
  omega
theorem Gd.pos {l : List Int} (h : Gd l) (hn : l ≠ []) : 0 < vB l := by have := h.ge hn; have := pB_pos (l.length - 1); omega
theorem gcd_step {a b : Int} (ha : 0 ≤ a) (hb : 0 < b) : Nat.gcd b.toNat (a % b).toNat = Nat.gcd a.toNat b.toNat := by
  rw [Int.toNat_emod ha (by omega), Nat.gcd_comm b.toNat, ← Nat.gcd_rec, Nat.gcd_comm]
def yU (n d : Int) : Bool := decide (1 ≤ d ∧ -9223372036854775808 < n ∧ Nat.gcd n.natAbs d.natAbs = 1)
def I64 (n : Int) : Prop := -9223372036854775808 ≤ n ∧ n ≤ 9223372036854775807
theorem absW {n : Int} (h : I64 n) : (if n < 0 then IntKind.u64.wrap (-(IntKind.u64.wrap n)) else IntKind.u64.wrap n) = (n.natAbs : Int) := by
  have := h.1
  have := h.2
  rw [IntKind.wrap_u64, IntKind.wrap_u64]
  split <;> omega
theorem gcd_l0 : ∀ (n : Nat) (a b : Int), b.toNat ≤ n → 0 ≤ a → 0 ≤ b → Ev (fun k => zE.l0 k a b) ((Nat.gcd a.toNat b.toNat : Nat) : Int) := by
  intro n
  induction n using Nat.strongRecOn with
  | ind n ih =>
    intro a b hn ha hb
    by_cases e : b = 0
    · subst e
      refine Ev.step (f := fun _ => some a) (fun k => ?_) ?_
      · simp [zE.l0]
      · rw [show (0 : Int).toNat = 0 from rfl, Nat.gcd_zero_right, Int.toNat_of_nonneg ha]
        exact Ev.now _
    · have hp : 0 < b := by omega
      have hm := Int.emod_lt_of_pos a hp
      have hm0 := Int.emod_nonneg a (b := b) (by omega)
      have h1 := ih (a % b).toNat (by omega) b (a % b) (Nat.le_refl _) hb hm0
      rw [gcd_step ha hp] at h1
      refine Ev.step (fun k => ?_) h1
      simp only [zE.l0]
      rw [if_pos (by omega), if_neg e, Int.tmod_eq_emod_of_nonneg ha]
theorem Ev_gcd {a b : Int} (ha : 0 ≤ a) (hb : 0 ≤ b) : Ev (fun k => zE.f k a b) ((Nat.gcd a.toNat b.toNat : Nat) : Int) := gcd_l0 _ a b (Nat.le_refl _) ha hb
theorem sF {n : Int} (h : I64 n) : zS.f n = some (n.natAbs : Int) := by
  have := absW h
  unfold zS.f
  split
  · rename_i c; rw [if_pos c] at this; rw [this]
  · rename_i c; rw [if_neg c] at this; rw [this]
theorem vN {n d : Int} (hn : I64 n) (hd : I64 d) : Ev (fun k => zO.f k n d) (yU n d) := by
  unfold yU
  have := hn.1
  by_cases c1 : 1 ≤ d
  · by_cases c2 : n > -9223372036854775808
    · have hg := Ev_gcd (a := (n.natAbs : Int)) (b := (d.natAbs : Int)) (by omega) (by omega)
      rw [Int.toNat_natCast, Int.toNat_natCast] at hg
      refine Ev.congr (f := fun k => (zE.f k (n.natAbs : Int) (d.natAbs : Int)).bind fun t104 => (some (t104 == 1))) (fun k => ?_) ?_
      · simp only [zO.f]
        rw [if_pos (by omega), if_pos c2, sF hn, sF hd]
        rfl
      have e : (((Nat.gcd n.natAbs d.natAbs : Nat) : Int) == 1) = decide (1 ≤ d ∧ -9223372036854775808 < n ∧ Nat.gcd n.natAbs d.natAbs = 1) := by
        rw [Bool.eq_iff_iff, beq_iff_eq, decide_eq_true_iff]
        omega
      rw [← e]
      exact Ev.bind hg (Ev.now _)
    · refine Ev.congr (f := fun _ => some false) (fun k => ?_) ?_
      · simp only [zO.f]
        rw [if_pos (by omega), if_neg c2]
      rw [decide_eq_false (by omega)]
      exact Ev.now _
  · refine Ev.congr (f := fun _ => some false) (fun k => ?_) ?_
    · simp only [zO.f]
      rw [if_neg (by omega)]
    rw [decide_eq_false (by omega)]
    exact Ev.now _
end Go.Proofs.Ytoonahobmlnflaa.PC
namespace Go.Proofs.Ytoonahobmlnflaa.PC
open Go.RowKit A B C
attribute [local go_sem] yC yE xO xP yK yL yD yF
theorem eqA32 (d : Nat) (w : World) (x0 y0 : Int) (x1 y1 : Int) :
    (Op.equalIn (d + 2) 32 (.agg #[.int .i64 x0, .int .i64 x1]) (.agg #[.int .i64 y0, .int .i64 y1])).run Try.prog w = .ok (x0 == y0 && (x1 == y1)) w := by
 refine eqA_of Try.underlying32 (by kernel_rfl) ?_
 refine rL (by rfl) (by go_simp; rfl) (by go_simp; rfl) (by go_simp) ?_
 exact eqf_last (by rfl) (by go_simp; rfl) (by go_simp; rfl) (by go_simp)
def bits_Mul64.f (a0 : Int) (a1 : Int) : Option (Int × Int) := some (IntKind.u64.wrap ((IntKind.u64.wrap ((IntKind.u64.wrap ((a0 / 4294967296) * (a1 / 4294967296))) + ((IntKind.u64.wrap ((IntKind.u64.wrap ((a0 / 4294967296) * (Go.bits .and .u64 a1 4294967295))) + ((IntKind.u64.wrap ((Go.bits .and .u64 a0 4294967295) * (Go.bits .and .u64 a1 4294967295))) / 4294967296))) / 4294967296))) + ((IntKind.u64.wrap ((Go.bits .and .u64 (IntKind.u64.wrap ((IntKind.u64.wrap ((a0 / 4294967296) * (Go.bits .and .u64 a1 4294967295))) + ((IntKind.u64.wrap ((Go.bits .and .u64 a0 4294967295) * (Go.bits .and .u64 a1 4294967295))) / 4294967296))) 4294967295) + (IntKind.u64.wrap ((Go.bits .and .u64 a0 4294967295) * (a1 / 4294967296))))) / 4294967296)), IntKind.u64.wrap (a0 * a1))
theorem bits_Mul64.calls (a0 : Int) (a1 : Int) (r1 : Int) (r2 : Int) (w : World) (h : bits_Mul64.f a0 a1 = some (r1, r2)) :
    Calls Try.prog 121 #[.int .u64 a0, .int .u64 a1] w fun e w' => e = .returned (.tuple #[.int .u64 r1, .int .u64 r2]) ∧ yW w w' := by
 have H := h
 unfold bits_Mul64.f at H
 clear h
 simp only [Option.some.injEq, Prod.mk.injEq] at H
 obtain ⟨rfl, rfl⟩ := H
 go_enter Try.func121, Try.ntmps121
 go_wp2
 go_ret2
 exact ⟨by first | rfl | (simp; done) | (simp [*]; done), by repeat (first | exact yW.refl _ | apply yW.step)⟩
def yJ.j0 : Nat → Bool → Int → Int → Bool → Option (Int × Int × Int)
  | 0, _, _, _, _ => none
  | k + 1, x0, x1, x2, x23 => if x23 = true then (some (0, 0, 3)) else (if x0 = true then (some (wrap64 (-(wrap64 (x1))), wrap64 (x2), 0)) else (some (wrap64 (x1), wrap64 (x2), 0)))
def yJ.f (k : Nat) (a0 : Bool) (a1 : Int) (a2 : Int) : Option (Int × Int × Int) := (zE.f k a1 a2).bind fun t142 => (if t142 = 0 then (none) else (if (IntKind.u64.wrap (Int.tdiv a1 t142)) > 9223372036854775807 then (yJ.j0 k a0 (IntKind.u64.wrap (Int.tdiv a1 t142)) (IntKind.u64.wrap (Int.tdiv a2 t142)) true) else (yJ.j0 k a0 (IntKind.u64.wrap (Int.tdiv a1 t142)) (IntKind.u64.wrap (Int.tdiv a2 t142)) (decide ((IntKind.u64.wrap (Int.tdiv a2 t142)) > 9223372036854775807)))))
theorem yJ.calls (k : Nat) (a0 : Bool) (a1 : Int) (a2 : Int) (r1 : Int) (r2 : Int) (r3 : Int) (w : World) (h : yJ.f k a0 a1 a2 = some (r1, r2, r3)) :
    Calls Try.prog 126 #[.bool a0, .int .u64 a1, .int .u64 a2] w fun e w' => e = .returned (.tuple #[.agg #[.int .i64 r1, .int .i64 r2], .int .i64 r3]) ∧ Below w.heap.size w w' := by
 have hu30 := Try.underlying30
 have HB := aq (Below.refl w.heap.size w)
 have H := h
 unfold yJ.f at H
 clear h
 replace H := Option.bind_eq_some_iff.mp H
 obtain ⟨t142, A40, H⟩ := H
 try dsimp only at H
 have A4 := aq A40
 clear A40
 by_cases c5 : t142 = 0
 case pos => rw [if_pos c5] at H; exact absurd H (by simp)
 rw [if_neg c5] at H
 have c5b0 : (t142 == 0) = false := beq_eq_false_iff_ne.mpr c5
 have c5b1 : (t142 != 0) = true := bne_iff_ne.mpr c5
 have HC6 := aq H
 clear H
 go_enter Try.func126, Try.ntmps126
 go_upto_region 3 with (first | ((with_reducible refine gD (N := 6) rfl ?_); refine bE ?hg (N := 6) ?hd (cs := #[.int .i64 0, .int .i64 0]) (t := 30) ?hr ?_; (case hd => rfl); (case hg => rfl); (case hr => first | (go_simp; done) | (go_simp; rfl)); intro gb141 hg w7 hbox hb; have n0_ := aq (bt_ (by exact ul HB.out) hb); have n1_ := aq (hbox); have n2_ := aq ((by rw [hg]; exact (bz_ (by exact ul HB.out)) : w.heap.size ≤ gb141)); have n3_ := aq ((by rw [hg]; exact (bz_ (by exact ul HB.out)) : w.heap.size ≤ gb141)); clear HB; have HB := n0_; have BK141 := n1_; have GW141 := n2_; have GE141 := n3_; clear n0_ n1_ n2_ n3_; clear hb hbox hg) | (go_at_call 87; (with_reducible refine (zE.calls k a1 a2 t142 _ A4.out).mono ?_); rintro e w' ⟨rfl, ⟨nd, rfl⟩⟩; (try first | exact dA | exact dB)))
 repeat (go_quiet (first | ((with_reducible refine gD (N := 6) rfl ?_); refine bE ?hg (N := 6) ?hd (cs := #[.int .i64 0, .int .i64 0]) (t := 30) ?hr ?_; (case hd => rfl); (case hg => rfl); (case hr => first | (go_simp; done) | (go_simp; rfl)); intro gb141 hg w7 hbox hb; have n0_ := aq (bt_ (by exact ul HB.out) hb); have n1_ := aq (hbox); have n2_ := aq ((by rw [hg]; exact (bz_ (by exact ul HB.out)) : w.heap.size ≤ gb141)); have n3_ := aq ((by rw [hg]; exact (bz_ (by exact ul HB.out)) : w.heap.size ≤ gb141)); clear HB; have HB := n0_; have BK141 := n1_; have GW141 := n2_; have GE141 := n3_; clear n0_ n1_ n2_ n3_; clear hb hbox hg) | (go_at_call 87; (with_reducible refine (zE.calls k a1 a2 t142 _ A4.out).mono ?_); rintro e w' ⟨rfl, ⟨nd, rfl⟩⟩; (try first | exact dA | exact dB))); go_upto_region 3 with (first | ((with_reducible refine gD (N := 6) rfl ?_); refine bE ?hg (N := 6) ?hd (cs := #[.int .i64 0, .int .i64 0]) (t := 30) ?hr ?_; (case hd => rfl); (case hg => rfl); (case hr => first | (go_simp; done) | (go_simp; rfl)); intro gb141 hg w7 hbox hb; have n0_ := aq (bt_ (by exact ul HB.out) hb); have n1_ := aq (hbox); have n2_ := aq ((by rw [hg]; exact (bz_ (by exact ul HB.out)) : w.heap.size ≤ gb141)); have n3_ := aq ((by rw [hg]; exact (bz_ (by exact ul HB.out)) : w.heap.size ≤ gb141)); clear HB; have HB := n0_; have BK141 := n1_; have GW141 := n2_; have GE141 := n3_; clear n0_ n1_ n2_ n3_; clear hb hbox hg) | (go_at_call 87; (with_reducible refine (zE.calls k a1 a2 t142 _ A4.out).mono ?_); rintro e w' ⟨rfl, ⟨nd, rfl⟩⟩; (try first | exact dA | exact dB))))
 (try simp only [Act.put, List.setIfInBounds_toArray, List.set_cons_zero, List.set_cons_succ])
 go_cut [23] (fun v23 wc => ∃ (kq : Nat) (x23_5 : Bool), v23 = .bool x23_5 ∧ zT (yJ.j0 kq a0 (IntKind.u64.wrap (Int.tdiv a1 t142)) (IntKind.u64.wrap (Int.tdiv a2 t142)) x23_5 = some (r1, r2, r3)) ∧ zT (kq ≤ k) ∧ zT (wc.heap[gb141]? = some (.cells #[.int .i64 0, .int .i64 0] 30 (0, 0))) ∧ zT (Below w.heap.size w wc))
 case first =>
  have H := HC6.out
  clear HC6
  by_cases c8 : (IntKind.u64.wrap (Int.tdiv a1 t142)) > 9223372036854775807
  case pos =>
   rw [if_pos c8] at H
   have c8b0 : decide (9223372036854775807 < (IntKind.u64.wrap (Int.tdiv a1 t142))) = true := decide_eq_true c8
   clear c8
   (first | rw [c8b0] | (simp only [iw, jw]; rw [c8b0]) | skip)
   have H' := aq H
   clear H
   go_wp2
   repeat (go_quiet (fail); try go_wp2)
   go_meet
   case rel => exact ⟨_, (true), (by first | rfl | simp [*]), H', ⟨by first | omega | exact Nat.le_refl _⟩, ⟨by exact ub BK141.out⟩, ⟨by repeat first | exact HB.out | refine bs_ ?_ GE141.out | refine ul ?_⟩⟩
  rw [if_neg c8] at H
  have c8b0 : decide (9223372036854775807 < (IntKind.u64.wrap (Int.tdiv a1 t142))) = false := decide_eq_false c8
  clear c8
  (first | rw [c8b0] | (simp only [iw, jw]; rw [c8b0]) | skip)
  have H' := aq H
  clear H
  go_wp2
  repeat (go_quiet (fail); try go_wp2)
  go_meet
  case rel => exact ⟨_, (decide ((IntKind.u64.wrap (Int.tdiv a2 t142)) > 9223372036854775807)), (by first | rfl | simp [*]), H', ⟨by first | omega | exact Nat.le_refl _⟩, ⟨by exact ub BK141.out⟩, ⟨by repeat first | exact HB.out | refine bs_ ?_ GE141.out | refine ul ?_⟩⟩
 case rest =>
  clear HC6
  obtain ⟨kq, x23_5, rfl, HA, HJ5, BK141, HB⟩ := hcut
  cases kq with
  | zero => exact absurd HA.out (by simp [yJ.j0])
  | succ kj5 =>
   have H := HA.out
   clear HA
   simp only [yJ.j0] at H
   by_cases c9 : x23_5 = true
   case pos =>
    subst c9
    have H1 : (some (0, 0, 3)) = some (r1, r2, r3) := by rw [if_pos rfl] at H; exact H
    clear H
    have H := H1
    clear H1
    simp only [Option.some.injEq, Prod.mk.injEq] at H
    obtain ⟨rfl, rfl, rfl⟩ := H
    have hcz10_0 := bT BK141.out 0 (.int .i64 0)
    have hcz10_1 := bT BK141.out 1 (.int .i64 0)
    have hfz10_0 := bf_ BK141.out 0
    have hfz10_1 := bf_ BK141.out 1
    go_wp2
    repeat (go_quiet (fail); try go_wp2)
    refine bodyPost_ret (zB rfl _ _ gb141 30 #[.int .i64 0, .int .i64 0] (0, 0) _ rfl (by refine ub ?_; refine yV (cs := #[.int .i64 0, .int .i64 0]) ?_ 1 _ rfl; refine ub ?_; refine yV (cs := #[.int .i64 0, .int .i64 0]) ?_ 0 _ rfl; refine ub ?_; exact BK141.out) Try.underlying30 rfl (by kernel_rfl)) rfl ?_
    exact ⟨by first | rfl | (simp [eN_, eS_] <;> rfl) | (simp [*, eN_, eS_] <;> rfl), by repeat first | exact HB.out | refine bs_ ?_ GE141.out | refine ul ?_⟩
   replace c9 := Bool.eq_false_iff.mpr c9
   subst c9
   have H1 : (if a0 = true then (some (wrap64 (-(wrap64 ((IntKind.u64.wrap (Int.tdiv a1 t142))))), wrap64 ((IntKind.u64.wrap (Int.tdiv a2 t142))), 0)) else (some (wrap64 ((IntKind.u64.wrap (Int.tdiv a1 t142))), wrap64 ((IntKind.u64.wrap (Int.tdiv a2 t142))), 0))) = some (r1, r2, r3) := by rw [if_neg (show ¬ (false = true) by decide)] at H; exact H
   clear H
   have H := H1
   clear H1
   by_cases c11 : a0 = true
   case pos =>
    subst c11
    have H1 : (some (wrap64 (-(wrap64 ((IntKind.u64.wrap (Int.tdiv a1 t142))))), wrap64 ((IntKind.u64.wrap (Int.tdiv a2 t142))), 0)) = some (r1, r2, r3) := by rw [if_pos rfl] at H; exact H
    clear H
    have H := H1
    clear H1
    simp only [Option.some.injEq, Prod.mk.injEq] at H
    obtain ⟨rfl, rfl, rfl⟩ := H
    have hcz12_0 := bT BK141.out 0 (.int .i64 0)
    have hcz12_1 := bT BK141.out 1 (.int .i64 0)
    have hfz12_0 := bf_ BK141.out 0
    have hfz12_1 := bf_ BK141.out 1
    go_wp2
    repeat (go_quiet (fail); try go_wp2)
    refine bodyPost_ret (zB rfl _ _ gb141 30 #[.int .i64 (wrap64 (-(wrap64 ((IntKind.u64.wrap (Int.tdiv a1 t142)))))), .int .i64 (wrap64 ((IntKind.u64.wrap (Int.tdiv a2 t142))))] (0, 0) _ rfl (by refine ub ?_; refine yV (cs := #[.int .i64 (wrap64 (-(wrap64 ((IntKind.u64.wrap (Int.tdiv a1 t142)))))), .int .i64 0]) ?_ 1 _ rfl; refine ub ?_; refine yV (cs := #[.int .i64 0, .int .i64 0]) ?_ 0 _ rfl; refine ub ?_; exact BK141.out) Try.underlying30 rfl (by kernel_rfl)) rfl ?_
    exact ⟨by first | rfl | (simp [eN_, eS_] <;> rfl) | (simp [*, eN_, eS_] <;> rfl), by repeat first | exact HB.out | refine bs_ ?_ GE141.out | refine ul ?_⟩
   replace c11 := Bool.eq_false_iff.mpr c11
   subst c11
   have H1 : (some (wrap64 ((IntKind.u64.wrap (Int.tdiv a1 t142))), wrap64 ((IntKind.u64.wrap (Int.tdiv a2 t142))), 0)) = some (r1, r2, r3) := by rw [if_neg (show ¬ (false = true) by decide)] at H; exact H
   clear H
   have H := H1
   clear H1
   simp only [Option.some.injEq, Prod.mk.injEq] at H
   obtain ⟨rfl, rfl, rfl⟩ := H
   have hcz13_0 := bT BK141.out 0 (.int .i64 0)
   have hcz13_1 := bT BK141.out 1 (.int .i64 0)
   have hfz13_0 := bf_ BK141.out 0
   have hfz13_1 := bf_ BK141.out 1
   go_wp2
   repeat (go_quiet (fail); try go_wp2)
   refine bodyPost_ret (zB rfl _ _ gb141 30 #[.int .i64 (wrap64 ((IntKind.u64.wrap (Int.tdiv a1 t142)))), .int .i64 (wrap64 ((IntKind.u64.wrap (Int.tdiv a2 t142))))] (0, 0) _ rfl (by refine ub ?_; refine yV (cs := #[.int .i64 (wrap64 ((IntKind.u64.wrap (Int.tdiv a1 t142)))), .int .i64 0]) ?_ 1 _ rfl; refine ub ?_; refine yV (cs := #[.int .i64 0, .int .i64 0]) ?_ 0 _ rfl; refine ub ?_; exact BK141.out) Try.underlying30 rfl (by kernel_rfl)) rfl ?_
   exact ⟨by first | rfl | (simp [eN_, eS_] <;> rfl) | (simp [*, eN_, eS_] <;> rfl), by repeat first | exact HB.out | refine bs_ ?_ GE141.out | refine ul ?_⟩
end Go.Proofs.Ytoonahobmlnflaa.PC
