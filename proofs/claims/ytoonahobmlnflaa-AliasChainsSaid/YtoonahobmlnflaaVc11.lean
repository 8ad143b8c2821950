/- Texts of this claim, one behind the other. -/
import Derived.Test.YtoonahobmlnflaaVc10
import Derived.Shelf.Bits.Mul64
import Derived.Lib.Mul64
import Derived.Test.YtoonahobmlnflaaVc5
set_option linter.unusedVariables false
set_option linter.unusedSimpArgs false
set_option maxRecDepth 100000
set_option maxHeartbeats 16000000
namespace Go.Proofs.Ytoonahobmlnflaa.PC
open Go.RowKit A B C
attribute [local go_sem] yC yE xO xP yK yL yD yF
mutual
def zU.j2 : Nat → Int → Int → Int → Int → Int → Int → Int → Int → Option (Int × Int)
  | 0, _, _, _, _, _, _, _, _ => none
  | k + 1, x2, x8, x9, x10, x11, x13, x14, x15 => if x9 = 0 then (none) else (zU.l1 k x2 x8 x9 x10 x14 x15 (IntKind.u64.wrap ((IntKind.u64.wrap ((IntKind.u64.wrap ((IntKind.u64.wrap (x11 * 4294967296)) + x13)) - (IntKind.u64.wrap (x15 * x2)))) - (IntKind.u64.wrap ((IntKind.u64.wrap (Int.tdiv (IntKind.u64.wrap ((IntKind.u64.wrap ((IntKind.u64.wrap (x11 * 4294967296)) + x13)) - (IntKind.u64.wrap (x15 * x2)))) x9)) * x9)))) (IntKind.u64.wrap ((IntKind.u64.wrap ((IntKind.u64.wrap (x11 * 4294967296)) + x13)) - (IntKind.u64.wrap (x15 * x2)))) (IntKind.u64.wrap (Int.tdiv (IntKind.u64.wrap ((IntKind.u64.wrap ((IntKind.u64.wrap (x11 * 4294967296)) + x13)) - (IntKind.u64.wrap (x15 * x2)))) x9)))
def zU.l1 : Nat → Int → Int → Int → Int → Int → Int → Int → Int → Int → Option (Int × Int)
  | 0, _, _, _, _, _, _, _, _, _ => none
  | k + 1, x2, x8, x9, x10, x14, x15, x16, x17, x18 => if x18 ≥ 4294967296 then (zU.j4 k x2 x8 x9 x10 x14 x15 x16 x17 x18 true) else (zU.j4 k x2 x8 x9 x10 x14 x15 x16 x17 x18 (decide ((IntKind.u64.wrap (x18 * x10)) > (IntKind.u64.wrap ((IntKind.u64.wrap (4294967296 * x16)) + x14)))))
def zU.j4 : Nat → Int → Int → Int → Int → Int → Int → Int → Int → Int → Bool → Option (Int × Int)
  | 0, _, _, _, _, _, _, _, _, _, _ => none
  | k + 1, x2, x8, x9, x10, x14, x15, x16, x17, x18, x113 => if x113 = true then (if (IntKind.u64.wrap (x16 + x9)) ≥ 4294967296 then (if 0 ≤ x8 then (some (IntKind.u64.wrap ((IntKind.u64.wrap (x15 * 4294967296)) + (IntKind.u64.wrap (x18 - 1))), shr .u64 (IntKind.u64.wrap ((IntKind.u64.wrap ((IntKind.u64.wrap (x17 * 4294967296)) + x14)) - (IntKind.u64.wrap ((IntKind.u64.wrap (x18 - 1)) * x2)))) x8)) else (none)) else (zU.l1 k x2 x8 x9 x10 x14 x15 (IntKind.u64.wrap (x16 + x9)) x17 (IntKind.u64.wrap (x18 - 1)))) else (if 0 ≤ x8 then (some (IntKind.u64.wrap ((IntKind.u64.wrap (x15 * 4294967296)) + x18), shr .u64 (IntKind.u64.wrap ((IntKind.u64.wrap ((IntKind.u64.wrap (x17 * 4294967296)) + x14)) - (IntKind.u64.wrap (x18 * x2)))) x8)) else (none))
def zU.l0 : Nat → Int → Int → Int → Int → Int → Int → Int → Int → Int → Option (Int × Int)
  | 0, _, _, _, _, _, _, _, _, _ => none
  | k + 1, x2, x8, x9, x10, x11, x13, x14, x15, x16 => if x15 ≥ 4294967296 then (zU.j1 k x2 x8 x9 x10 x11 x13 x14 x15 x16 true) else (zU.j1 k x2 x8 x9 x10 x11 x13 x14 x15 x16 (decide ((IntKind.u64.wrap (x15 * x10)) > (IntKind.u64.wrap ((IntKind.u64.wrap (4294967296 * x16)) + x13)))))
def zU.j1 : Nat → Int → Int → Int → Int → Int → Int → Int → Int → Int → Bool → Option (Int × Int)
  | 0, _, _, _, _, _, _, _, _, _, _ => none
  | k + 1, x2, x8, x9, x10, x11, x13, x14, x15, x16, x78 => if x78 = true then (if (IntKind.u64.wrap (x16 + x9)) ≥ 4294967296 then (zU.j2 k x2 x8 x9 x10 x11 x13 x14 (IntKind.u64.wrap (x15 - 1))) else (zU.l0 k x2 x8 x9 x10 x11 x13 x14 (IntKind.u64.wrap (x15 - 1)) (IntKind.u64.wrap (x16 + x9)))) else (zU.j2 k x2 x8 x9 x10 x11 x13 x14 x15)
end
def zU.f (k : Nat) (a0 : Int) (a1 : Int) (a2 : Int) : Option (Int × Int) := if a2 = 0 then (none) else (if a2 ≤ a0 then (none) else (if a0 = 0 then (some (IntKind.u64.wrap (Int.tdiv a1 a2), Int.tmod a1 a2)) else ((bits_LeadingZeros64.f a2).bind fun t229 => (if 0 ≤ (IntKind.u64.wrap (t229)) then (if 0 ≤ (IntKind.u64.wrap (64 - (IntKind.u64.wrap (t229)))) then (if ((shl .u64 a2 (IntKind.u64.wrap (t229))) / 4294967296) = 0 then (none) else (zU.l0 k (shl .u64 a2 (IntKind.u64.wrap (t229))) (IntKind.u64.wrap (t229)) ((shl .u64 a2 (IntKind.u64.wrap (t229))) / 4294967296) (Go.bits .and .u64 (shl .u64 a2 (IntKind.u64.wrap (t229))) 4294967295) (Go.bits .or .u64 (shl .u64 a0 (IntKind.u64.wrap (t229))) (shr .u64 a1 (IntKind.u64.wrap (64 - (IntKind.u64.wrap (t229)))))) ((shl .u64 a1 (IntKind.u64.wrap (t229))) / 4294967296) (Go.bits .and .u64 (shl .u64 a1 (IntKind.u64.wrap (t229))) 4294967295) (IntKind.u64.wrap (Int.tdiv (Go.bits .or .u64 (shl .u64 a0 (IntKind.u64.wrap (t229))) (shr .u64 a1 (IntKind.u64.wrap (64 - (IntKind.u64.wrap (t229)))))) ((shl .u64 a2 (IntKind.u64.wrap (t229))) / 4294967296))) (IntKind.u64.wrap ((Go.bits .or .u64 (shl .u64 a0 (IntKind.u64.wrap (t229))) (shr .u64 a1 (IntKind.u64.wrap (64 - (IntKind.u64.wrap (t229)))))) - (IntKind.u64.wrap ((IntKind.u64.wrap (Int.tdiv (Go.bits .or .u64 (shl .u64 a0 (IntKind.u64.wrap (t229))) (shr .u64 a1 (IntKind.u64.wrap (64 - (IntKind.u64.wrap (t229)))))) ((shl .u64 a2 (IntKind.u64.wrap (t229))) / 4294967296))) * ((shl .u64 a2 (IntKind.u64.wrap (t229))) / 4294967296))))))) else (none)) else (none)))))
theorem zU.calls (k : Nat) (a0 : Int) (a1 : Int) (a2 : Int) (r1 : Int) (r2 : Int) (w : World) (h : zU.f k a0 a1 a2 = some (r1, r2)) :
    Calls Try.prog 125 #[.int .u64 a0, .int .u64 a1, .int .u64 a2] w fun e w' => e = .returned (.tuple #[.int .u64 r1, .int .u64 r2]) ∧ Below w.heap.size w w' := by
 have HB := aq (Below.refl w.heap.size w)
 have H := h
 unfold zU.f at H
 clear h
 by_cases c4 : a2 = 0
 case pos => rw [if_pos c4] at H; exact absurd H (by simp)
 rw [if_neg c4] at H
 have c4b0 : (a2 == 0) = false := beq_eq_false_iff_ne.mpr c4
 have c4b1 : (a2 != 0) = true := bne_iff_ne.mpr c4
 by_cases c5 : a2 ≤ a0
 case pos => rw [if_pos c5] at H; exact absurd H (by simp)
 rw [if_neg c5] at H
 have c5b0 : decide (a2 ≤ a0) = false := decide_eq_false c5
 clear c5
 by_cases c6 : a0 = 0
 case pos =>
  rw [if_pos c6] at H
  have c6b0 : (a0 == 0) = true := beq_iff_eq.mpr c6
  have c6b1 : (a0 != 0) = false := bne_eq_false_iff_eq.mpr c6
  clear c6
  simp only [Option.some.injEq, Prod.mk.injEq] at H
  obtain ⟨rfl, rfl⟩ := H
  go_enter Try.func125, Try.ntmps125
  go_wp2
  repeat (go_quiet (fail); try go_wp2)
  go_ret2
  exact ⟨by first | rfl | (simp [eN_, eS_] <;> rfl) | (simp [*, eN_, eS_] <;> rfl), by exact ul HB.out⟩
 rw [if_neg c6] at H
 have c6b0 : (a0 == 0) = false := beq_eq_false_iff_ne.mpr c6
 have c6b1 : (a0 != 0) = true := bne_iff_ne.mpr c6
 replace H := Option.bind_eq_some_iff.mp H
 obtain ⟨t229, A70, H⟩ := H
 try dsimp only at H
 have A7 := aq A70
 clear A70
 obtain ⟨ji8, hji8⟩ : ∃ j_ : Int, (IntKind.u64.wrap (t229)) = j_ := ⟨_, rfl⟩
 first | rw [hji8] at H | simp only [hji8] at H
 (try rw [hji8] at A7)
 replace H := gp H
 obtain ⟨c9, H⟩ := H
 have c9b0 := eq_true c9
 have c9b1 : decide (0 ≤ (ji8)) = true := decide_eq_true c9
 clear c9
 obtain ⟨ji10, hji10⟩ : ∃ j_ : Int, (shl .u64 a2 (ji8)) = j_ := ⟨_, rfl⟩
 first | rw [hji10] at H | simp only [hji10] at H
 (try rw [hji10] at A7)
 have hji10_ : (IntKind.u64.wrap (a2 * 2 ^ min (ji8).toNat 64)) = ji10 := hji10
 have hji10z : (ji8) ≤ 64 → (IntKind.u64.wrap (a2 * 2 ^ (ji8).toNat)) = ji10 := shl_small hji10
 have c11b0 := eq_true (of_decide_eq_true (by assumption) : 0 ≤ (ji8))
 obtain ⟨ji12, hji12⟩ : ∃ j_ : Int, (shl .u64 a0 (ji8)) = j_ := ⟨_, rfl⟩
 first | rw [hji12] at H | simp only [hji12] at H
 (try rw [hji12] at A7)
 have hji12_ : (IntKind.u64.wrap (a0 * 2 ^ min (ji8).toNat 64)) = ji12 := hji12
 have hji12z : (ji8) ≤ 64 → (IntKind.u64.wrap (a0 * 2 ^ (ji8).toNat)) = ji12 := shl_small hji12
 obtain ⟨ji13, hji13⟩ : ∃ j_ : Int, (IntKind.u64.wrap (64 - (ji8))) = j_ := ⟨_, rfl⟩
 first | rw [hji13] at H | simp only [hji13] at H
 (try rw [hji13] at A7)
 replace H := gp H
 obtain ⟨c14, H⟩ := H
 have c14b0 := eq_true c14
 have c14b1 : decide (0 ≤ (ji13)) = true := decide_eq_true c14
 clear c14
 obtain ⟨ji15, hji15⟩ : ∃ j_ : Int, (shr .u64 a1 (ji13)) = j_ := ⟨_, rfl⟩
 first | rw [hji15] at H | simp only [hji15] at H
 (try rw [hji15] at A7)
 have hji15_ : (a1 / 2 ^ min (ji13).toNat 64) = ji15 := hji15
 have hji15z : (ji13) ≤ 64 → (a1 / 2 ^ (ji13).toNat) = ji15 := shr_small hji15
 have c16b0 := eq_true (of_decide_eq_true (by assumption) : 0 ≤ (ji8))
 obtain ⟨ji17, hji17⟩ : ∃ j_ : Int, (shl .u64 a1 (ji8)) = j_ := ⟨_, rfl⟩
 first | rw [hji17] at H | simp only [hji17] at H
 (try rw [hji17] at A7)
 have hji17_ : (IntKind.u64.wrap (a1 * 2 ^ min (ji8).toNat 64)) = ji17 := hji17
 have hji17z : (ji8) ≤ 64 → (IntKind.u64.wrap (a1 * 2 ^ (ji8).toNat)) = ji17 := shl_small hji17
 by_cases c18 : ((ji10) / 4294967296) = 0
 case pos => rw [if_pos c18] at H; exact absurd H (by simp)
 rw [if_neg c18] at H
 have c18b0 : (((ji10) / 4294967296) == 0) = false := beq_eq_false_iff_ne.mpr c18
 have c18b1 : (((ji10) / 4294967296) != 0) = true := bne_iff_ne.mpr c18
 have HC19 := aq H
 clear H
 go_enter Try.func125, Try.ntmps125
 go_upto_block 0 with (first | (go_at_call 128; (with_reducible refine (bits_LeadingZeros64.calls a2 t229 _ A7.out).mono ?_); rintro e w20 ⟨rfl, hb⟩; replace HB := aq (bt_ (by exact ul HB.out) hb)))
 repeat (go_quiet (first | (go_at_call 128; (with_reducible refine (bits_LeadingZeros64.calls a2 t229 _ A7.out).mono ?_); rintro e w20 ⟨rfl, hb⟩; replace HB := aq (bt_ (by exact ul HB.out) hb))); go_upto_block 0 with (first | (go_at_call 128; (with_reducible refine (bits_LeadingZeros64.calls a2 t229 _ A7.out).mono ?_); rintro e w20 ⟨rfl, hb⟩; replace HB := aq (bt_ (by exact ul HB.out) hb))))
 (try simp only [Act.put, List.setIfInBounds_toArray, List.set_cons_zero, List.set_cons_succ])
 go_cut [15] (fun v15 wc => ∃ (kq : Nat) (x15_18 : Int), v15 = .int .u64 x15_18 ∧ zT (zU.j2 kq ji10 ji8 ((ji10) / 4294967296) (Go.bits .and .u64 (ji10) 4294967295) (Go.bits .or .u64 (ji12) (ji15)) ((ji17) / 4294967296) (Go.bits .and .u64 (ji17) 4294967295) x15_18 = some (r1, r2)) ∧ zT (kq ≤ k) ∧ zT (Below w.heap.size w wc))
 case first =>
  have H := HC19.out
  clear HC19
  have H' := aq H
  clear H
  go_wp2
  repeat (go_quiet (fail); try go_wp2)
  go_loopg [15, 16] k (fun kq v15 v16 w' => ∃ (x15_1 : Int) (x16_1 : Int), v15 = .int .u64 x15_1 ∧ v16 = .int .u64 x16_1 ∧ zT (zU.l0 kq ji10 ji8 ((ji10) / 4294967296) (Go.bits .and .u64 (ji10) 4294967295) (Go.bits .or .u64 (ji12) (ji15)) ((ji17) / 4294967296) (Go.bits .and .u64 (ji17) 4294967295) x15_1 x16_1 = some (r1, r2)) ∧ zT (kq ≤ k) ∧ zT (Below w.heap.size w w'))
  case atStart => exact ⟨(IntKind.u64.wrap (Int.tdiv (Go.bits .or .u64 (ji12) (ji15)) ((ji10) / 4294967296))), (IntKind.u64.wrap ((Go.bits .or .u64 (ji12) (ji15)) - (IntKind.u64.wrap ((IntKind.u64.wrap (Int.tdiv (Go.bits .or .u64 (ji12) (ji15)) ((ji10) / 4294967296))) * ((ji10) / 4294967296))))), (by first | rfl | (simp; done) | (simp only [← hji10, ← hji12, ← hji15] <;> (first | rfl | simp)) | (simp [*]; done)), (by first | rfl | (simp; done) | (simp only [← hji10, ← hji12, ← hji15] <;> (first | rfl | simp)) | (simp [*]; done)), H', ⟨Nat.le_refl _⟩, ⟨by exact ul HB.out⟩⟩
  case round =>
   clear H'
   obtain ⟨x15_1, x16_1, rfl, rfl, HA, HK1, HB⟩ := hrel
   cases gk with
   | zero => exact absurd HA.out (by simp [zU.l0])
   | succ k1 =>
    have H := HA.out
    clear HA
    simp only [zU.l0] at H
    have HC21 := aq H
    clear H
    go_upto_region 17 with (fail)
    repeat (go_quiet (fail); go_upto_region 17 with (fail))
    go_cut [78] (fun v78 wc => ∃ (kq : Nat) (x78_20 : Bool), v78 = .bool x78_20 ∧ zT (zU.j1 kq ji10 ji8 ((ji10) / 4294967296) (Go.bits .and .u64 (ji10) 4294967295) (Go.bits .or .u64 (ji12) (ji15)) ((ji17) / 4294967296) (Go.bits .and .u64 (ji17) 4294967295) x15_1 x16_1 x78_20 = some (r1, r2)) ∧ zT (kq ≤ k1) ∧ zT (Below w.heap.size w wc))
    case first =>
     have H := HC21.out
     clear HC21
     by_cases c22 : x15_1 ≥ 4294967296
     case pos =>
      rw [if_pos c22] at H
      have c22b0 : decide (4294967296 ≤ x15_1) = true := decide_eq_true c22
      clear c22
      (first | rw [c22b0] | (simp only [iw, jw]; rw [c22b0]) | skip)
      have H' := aq H
      clear H
      go_wp2
      repeat (go_quiet (fail); try go_wp2)
      go_meet
      case rel => exact ⟨_, (true), (by first | rfl | simp [*]), H', ⟨by have := HK1.out; first | omega | exact Nat.le_refl _⟩, ⟨by exact ul HB.out⟩⟩
     rw [if_neg c22] at H
     have c22b0 : decide (4294967296 ≤ x15_1) = false := decide_eq_false c22
     clear c22
     (first | rw [c22b0] | (simp only [iw, jw]; rw [c22b0]) | skip)
     have H' := aq H
     clear H
     go_wp2
     repeat (go_quiet (fail); try go_wp2)
     go_meet
     case rel => exact ⟨_, (decide ((IntKind.u64.wrap (x15_1 * (Go.bits .and .u64 (ji10) 4294967295))) > (IntKind.u64.wrap ((IntKind.u64.wrap (4294967296 * x16_1)) + ((ji17) / 4294967296))))), (by first | rfl | (simp; done) | (simp only [← hji10, ← hji17] <;> (first | rfl | simp)) | (simp [*]; done)), H', ⟨by have := HK1.out; first | omega | exact Nat.le_refl _⟩, ⟨by exact ul HB.out⟩⟩
    case rest =>
     clear HC21
     obtain ⟨kq, x78_20, rfl, HA, HJ20, HB⟩ := hcut
     cases kq with
     | zero => exact absurd HA.out (by simp [zU.j1])
     | succ kj20 =>
      have H := HA.out
      clear HA
      simp only [zU.j1] at H
      by_cases c23 : x78_20 = true
      case neg =>
       replace c23 := Bool.eq_false_iff.mpr c23
       subst c23
       have H1 : (zU.j2 kj20 ji10 ji8 ((ji10) / 4294967296) (Go.bits .and .u64 (ji10) 4294967295) (Go.bits .or .u64 (ji12) (ji15)) ((ji17) / 4294967296) (Go.bits .and .u64 (ji17) 4294967295) x15_1) = some (r1, r2) := by rw [if_neg (show ¬ (false = true) by decide)] at H; exact H
       clear H
       have H := H1
       clear H1
       have H' := aq H
       clear H
       go_wp2
       repeat (go_quiet (fail); try go_wp2)
       go_meet
       case rel => exact ⟨_, (x15_1), (by first | rfl | simp [*]), H', ⟨by have := HK1.out; have := HJ20.out; first | omega | exact Nat.le_refl _⟩, ⟨by exact ul HB.out⟩⟩
      subst c23
      have H1 : (if (IntKind.u64.wrap (x16_1 + ((ji10) / 4294967296))) ≥ 4294967296 then (zU.j2 kj20 ji10 ji8 ((ji10) / 4294967296) (Go.bits .and .u64 (ji10) 4294967295) (Go.bits .or .u64 (ji12) (ji15)) ((ji17) / 4294967296) (Go.bits .and .u64 (ji17) 4294967295) (IntKind.u64.wrap (x15_1 - 1))) else (zU.l0 kj20 ji10 ji8 ((ji10) / 4294967296) (Go.bits .and .u64 (ji10) 4294967295) (Go.bits .or .u64 (ji12) (ji15)) ((ji17) / 4294967296) (Go.bits .and .u64 (ji17) 4294967295) (IntKind.u64.wrap (x15_1 - 1)) (IntKind.u64.wrap (x16_1 + ((ji10) / 4294967296))))) = some (r1, r2) := by rw [if_pos rfl] at H; exact H
      clear H
      have H := H1
      clear H1
      by_cases c24 : (IntKind.u64.wrap (x16_1 + ((ji10) / 4294967296))) ≥ 4294967296
      case pos =>
       rw [if_pos c24] at H
       have c24b0 : decide (4294967296 ≤ (IntKind.u64.wrap (x16_1 + ((ji10) / 4294967296)))) = true := decide_eq_true c24
       clear c24
       have H' := aq H
       clear H
       go_wp2
       repeat (go_quiet (fail); try go_wp2)
       go_meet
       case rel => exact ⟨_, (IntKind.u64.wrap (x15_1 - 1)), (by first | rfl | simp [*]), H', ⟨by have := HK1.out; have := HJ20.out; first | omega | exact Nat.le_refl _⟩, ⟨by exact ul HB.out⟩⟩
      rw [if_neg c24] at H
      have c24b0 : decide (4294967296 ≤ (IntKind.u64.wrap (x16_1 + ((ji10) / 4294967296)))) = false := decide_eq_false c24
      clear c24
      have H' := aq H
      clear H
      go_wp2
      repeat (go_quiet (fail); try go_wp2)
      (first | go_roundg kj20 | (refine Handed.intro kj20 ?measure ?_; rotate_left; go_step; (repeat apply Exists.intro); (refine ⟨?rel, ?fr_⟩); (case fr_ => (simp only [add_plain]; rfl))))
      case measure => have := HK1.out; have := HJ20.out; omega
      case rel => exact ⟨(IntKind.u64.wrap (x15_1 - 1)), (IntKind.u64.wrap (x16_1 + ((ji10) / 4294967296))), (by first | rfl | simp [*]), (by first | rfl | (simp; done) | (simp only [← hji10] <;> (first | rfl | simp)) | (simp [*]; done)), H', ⟨by have := HK1.out; have := HJ20.out; omega⟩, ⟨by exact ul HB.out⟩⟩
 case rest =>
  clear HC19
  obtain ⟨kq, x15_18, rfl, HA, HJ18, HB⟩ := hcut
  cases kq with
  | zero => exact absurd HA.out (by simp [zU.j2])
  | succ kj18 =>
   have H := HA.out
   clear HA
   simp only [zU.j2] at H
   by_cases c25 : ((ji10) / 4294967296) = 0
   case pos => rw [if_pos c25] at H; exact absurd H (by simp)
   rw [if_neg c25] at H
   have c25b0 : (((ji10) / 4294967296) == 0) = false := beq_eq_false_iff_ne.mpr c25
   have c25b1 : (((ji10) / 4294967296) != 0) = true := bne_iff_ne.mpr c25
   have H' := aq H
   clear H
   go_wp2
   repeat (go_quiet (fail); try go_wp2)
   go_loopg [16, 18] kj18 (fun kq v16 v18 w' => ∃ (x16_2 : Int) (x18_2 : Int), v16 = .int .u64 x16_2 ∧ v18 = .int .u64 x18_2 ∧ zT (zU.l1 kq ji10 ji8 ((ji10) / 4294967296) (Go.bits .and .u64 (ji10) 4294967295) (Go.bits .and .u64 (ji17) 4294967295) x15_18 x16_2 (IntKind.u64.wrap ((IntKind.u64.wrap ((IntKind.u64.wrap ((Go.bits .or .u64 (ji12) (ji15)) * 4294967296)) + ((ji17) / 4294967296))) - (IntKind.u64.wrap (x15_18 * ji10)))) x18_2 = some (r1, r2)) ∧ zT (kq ≤ kj18) ∧ zT (Below w.heap.size w w'))
   case atStart => exact ⟨(IntKind.u64.wrap ((IntKind.u64.wrap ((IntKind.u64.wrap ((IntKind.u64.wrap ((Go.bits .or .u64 (ji12) (ji15)) * 4294967296)) + ((ji17) / 4294967296))) - (IntKind.u64.wrap (x15_18 * ji10)))) - (IntKind.u64.wrap ((IntKind.u64.wrap (Int.tdiv (IntKind.u64.wrap ((IntKind.u64.wrap ((IntKind.u64.wrap ((Go.bits .or .u64 (ji12) (ji15)) * 4294967296)) + ((ji17) / 4294967296))) - (IntKind.u64.wrap (x15_18 * ji10)))) ((ji10) / 4294967296))) * ((ji10) / 4294967296))))), (IntKind.u64.wrap (Int.tdiv (IntKind.u64.wrap ((IntKind.u64.wrap ((IntKind.u64.wrap ((Go.bits .or .u64 (ji12) (ji15)) * 4294967296)) + ((ji17) / 4294967296))) - (IntKind.u64.wrap (x15_18 * ji10)))) ((ji10) / 4294967296))), (by first | rfl | (simp; done) | (simp only [← hji10, ← hji12, ← hji15, ← hji17] <;> (first | rfl | simp)) | (simp [*]; done)), (by first | rfl | (simp; done) | (simp only [← hji10, ← hji12, ← hji15, ← hji17] <;> (first | rfl | simp)) | (simp [*]; done)), H', ⟨Nat.le_refl _⟩, ⟨by exact ul HB.out⟩⟩
   case round =>
    clear H'
    obtain ⟨x16_2, x18_2, rfl, rfl, HA, HK2, HB⟩ := hrel
    cases gk with
    | zero => exact absurd HA.out (by simp [zU.l1])
    | succ k2 =>
     have H := HA.out
     clear HA
     simp only [zU.l1] at H
     have HC26 := aq H
     clear H
     go_upto_region 24 with (fail)
     repeat (go_quiet (fail); go_upto_region 24 with (fail))
     go_cut [113] (fun v113 wc => ∃ (kq : Nat) (x113_25 : Bool), v113 = .bool x113_25 ∧ zT (zU.j4 kq ji10 ji8 ((ji10) / 4294967296) (Go.bits .and .u64 (ji10) 4294967295) (Go.bits .and .u64 (ji17) 4294967295) x15_18 x16_2 (IntKind.u64.wrap ((IntKind.u64.wrap ((IntKind.u64.wrap ((Go.bits .or .u64 (ji12) (ji15)) * 4294967296)) + ((ji17) / 4294967296))) - (IntKind.u64.wrap (x15_18 * ji10)))) x18_2 x113_25 = some (r1, r2)) ∧ zT (kq ≤ k2) ∧ zT (Below w.heap.size w wc))
     case first =>
      have H := HC26.out
      clear HC26
      by_cases c27 : x18_2 ≥ 4294967296
      case pos =>
       rw [if_pos c27] at H
       have c27b0 : decide (4294967296 ≤ x18_2) = true := decide_eq_true c27
       clear c27
       (first | rw [c27b0] | (simp only [iw, jw]; rw [c27b0]) | skip)
       have H' := aq H
       clear H
       go_wp2
       repeat (go_quiet (fail); try go_wp2)
       go_meet
       case rel => exact ⟨_, (true), (by first | rfl | simp [*]), H', ⟨by have := HJ18.out; have := HK2.out; first | omega | exact Nat.le_refl _⟩, ⟨by exact ul HB.out⟩⟩
      rw [if_neg c27] at H
      have c27b0 : decide (4294967296 ≤ x18_2) = false := decide_eq_false c27
      clear c27
      (first | rw [c27b0] | (simp only [iw, jw]; rw [c27b0]) | skip)
      have H' := aq H
      clear H
      go_wp2
      repeat (go_quiet (fail); try go_wp2)
      go_meet
      case rel => exact ⟨_, (decide ((IntKind.u64.wrap (x18_2 * (Go.bits .and .u64 (ji10) 4294967295))) > (IntKind.u64.wrap ((IntKind.u64.wrap (4294967296 * x16_2)) + (Go.bits .and .u64 (ji17) 4294967295))))), (by first | rfl | (simp; done) | (simp only [← hji10, ← hji17] <;> (first | rfl | simp)) | (simp [*]; done)), H', ⟨by have := HJ18.out; have := HK2.out; first | omega | exact Nat.le_refl _⟩, ⟨by exact ul HB.out⟩⟩
     case rest =>
      clear HC26
      obtain ⟨kq, x113_25, rfl, HA, HJ25, HB⟩ := hcut
      cases kq with
      | zero => exact absurd HA.out (by simp [zU.j4])
      | succ kj25 =>
       have H := HA.out
       clear HA
       simp only [zU.j4] at H
       by_cases c28 : x113_25 = true
       case neg =>
        replace c28 := Bool.eq_false_iff.mpr c28
        subst c28
        have H1 : (if 0 ≤ ji8 then (some (IntKind.u64.wrap ((IntKind.u64.wrap (x15_18 * 4294967296)) + x18_2), shr .u64 (IntKind.u64.wrap ((IntKind.u64.wrap ((IntKind.u64.wrap ((IntKind.u64.wrap ((IntKind.u64.wrap ((IntKind.u64.wrap ((Go.bits .or .u64 (ji12) (ji15)) * 4294967296)) + ((ji17) / 4294967296))) - (IntKind.u64.wrap (x15_18 * ji10)))) * 4294967296)) + (Go.bits .and .u64 (ji17) 4294967295))) - (IntKind.u64.wrap (x18_2 * ji10)))) ji8)) else (none)) = some (r1, r2) := by rw [if_neg (show ¬ (false = true) by decide)] at H; exact H
        clear H
        have H := H1
        clear H1
        replace H := gp H
        obtain ⟨c32, H⟩ := H
        have c32b0 := eq_true c32
        have c32b1 : decide (0 ≤ ji8) = true := decide_eq_true c32
        clear c32
        obtain ⟨ji33, hji33⟩ : ∃ j_ : Int, (shr .u64 (IntKind.u64.wrap ((IntKind.u64.wrap ((IntKind.u64.wrap ((IntKind.u64.wrap ((IntKind.u64.wrap ((IntKind.u64.wrap ((Go.bits .or .u64 (ji12) (ji15)) * 4294967296)) + ((ji17) / 4294967296))) - (IntKind.u64.wrap (x15_18 * ji10)))) * 4294967296)) + (Go.bits .and .u64 (ji17) 4294967295))) - (IntKind.u64.wrap (x18_2 * ji10)))) ji8) = j_ := ⟨_, rfl⟩
        first | rw [hji33] at H | simp only [hji33] at H
        have hji33_ : ((IntKind.u64.wrap ((IntKind.u64.wrap ((IntKind.u64.wrap ((IntKind.u64.wrap ((IntKind.u64.wrap ((IntKind.u64.wrap ((Go.bits .or .u64 (ji12) (ji15)) * 4294967296)) + ((ji17) / 4294967296))) - (IntKind.u64.wrap (x15_18 * ji10)))) * 4294967296)) + (Go.bits .and .u64 (ji17) 4294967295))) - (IntKind.u64.wrap (x18_2 * ji10)))) / 2 ^ min ji8.toNat 64) = ji33 := hji33
        have hji33z : ji8 ≤ 64 → ((IntKind.u64.wrap ((IntKind.u64.wrap ((IntKind.u64.wrap ((IntKind.u64.wrap ((IntKind.u64.wrap ((IntKind.u64.wrap ((Go.bits .or .u64 (ji12) (ji15)) * 4294967296)) + ((ji17) / 4294967296))) - (IntKind.u64.wrap (x15_18 * ji10)))) * 4294967296)) + (Go.bits .and .u64 (ji17) 4294967295))) - (IntKind.u64.wrap (x18_2 * ji10)))) / 2 ^ ji8.toNat) = ji33 := shr_small hji33
        simp only [Option.some.injEq, Prod.mk.injEq] at H
        obtain ⟨rfl, rfl⟩ := H
        go_wp2
        repeat (go_quiet (fail); try go_wp2)
        go_ret2
        exact ⟨by first | rfl | (simp [eN_, eS_] <;> rfl) | (simp only [← hji8, ← hji10, ← hji12, ← hji13, ← hji15, ← hji17, ← hji33]; first | rfl | (simp [eN_, eS_] <;> rfl)) | (simp [*, eN_, eS_] <;> rfl), by exact ul HB.out⟩
       subst c28
       have H1 : (if (IntKind.u64.wrap (x16_2 + ((ji10) / 4294967296))) ≥ 4294967296 then (if 0 ≤ ji8 then (some (IntKind.u64.wrap ((IntKind.u64.wrap (x15_18 * 4294967296)) + (IntKind.u64.wrap (x18_2 - 1))), shr .u64 (IntKind.u64.wrap ((IntKind.u64.wrap ((IntKind.u64.wrap ((IntKind.u64.wrap ((IntKind.u64.wrap ((IntKind.u64.wrap ((Go.bits .or .u64 (ji12) (ji15)) * 4294967296)) + ((ji17) / 4294967296))) - (IntKind.u64.wrap (x15_18 * ji10)))) * 4294967296)) + (Go.bits .and .u64 (ji17) 4294967295))) - (IntKind.u64.wrap ((IntKind.u64.wrap (x18_2 - 1)) * ji10)))) ji8)) else (none)) else (zU.l1 kj25 ji10 ji8 ((ji10) / 4294967296) (Go.bits .and .u64 (ji10) 4294967295) (Go.bits .and .u64 (ji17) 4294967295) x15_18 (IntKind.u64.wrap (x16_2 + ((ji10) / 4294967296))) (IntKind.u64.wrap ((IntKind.u64.wrap ((IntKind.u64.wrap ((Go.bits .or .u64 (ji12) (ji15)) * 4294967296)) + ((ji17) / 4294967296))) - (IntKind.u64.wrap (x15_18 * ji10)))) (IntKind.u64.wrap (x18_2 - 1)))) = some (r1, r2) := by rw [if_pos rfl] at H; exact H
       clear H
       have H := H1
       clear H1
       by_cases c29 : (IntKind.u64.wrap (x16_2 + ((ji10) / 4294967296))) ≥ 4294967296
       case neg =>
        rw [if_neg c29] at H
        have c29b0 : decide (4294967296 ≤ (IntKind.u64.wrap (x16_2 + ((ji10) / 4294967296)))) = false := decide_eq_false c29
        clear c29
        have H' := aq H
        clear H
        go_wp2
        repeat (go_quiet (fail); try go_wp2)
        (first | go_roundg kj25 | (refine Handed.intro kj25 ?measure ?_; rotate_left; go_step; (repeat apply Exists.intro); (refine ⟨?rel, ?fr_⟩); (case fr_ => (simp only [add_plain]; rfl))))
        case measure => have := HJ18.out; have := HK2.out; have := HJ25.out; omega
        case rel => exact ⟨(IntKind.u64.wrap (x16_2 + ((ji10) / 4294967296))), (IntKind.u64.wrap (x18_2 - 1)), (by first | rfl | (simp; done) | (simp only [← hji10] <;> (first | rfl | simp)) | (simp [*]; done)), (by first | rfl | simp [*]), H', ⟨by have := HJ18.out; have := HK2.out; have := HJ25.out; omega⟩, ⟨by exact ul HB.out⟩⟩
       rw [if_pos c29] at H
       have c29b0 : decide (4294967296 ≤ (IntKind.u64.wrap (x16_2 + ((ji10) / 4294967296)))) = true := decide_eq_true c29
       clear c29
       replace H := gp H
       obtain ⟨c30, H⟩ := H
       have c30b0 := eq_true c30
       have c30b1 : decide (0 ≤ ji8) = true := decide_eq_true c30
       clear c30
       obtain ⟨ji31, hji31⟩ : ∃ j_ : Int, (shr .u64 (IntKind.u64.wrap ((IntKind.u64.wrap ((IntKind.u64.wrap ((IntKind.u64.wrap ((IntKind.u64.wrap ((IntKind.u64.wrap ((Go.bits .or .u64 (ji12) (ji15)) * 4294967296)) + ((ji17) / 4294967296))) - (IntKind.u64.wrap (x15_18 * ji10)))) * 4294967296)) + (Go.bits .and .u64 (ji17) 4294967295))) - (IntKind.u64.wrap ((IntKind.u64.wrap (x18_2 - 1)) * ji10)))) ji8) = j_ := ⟨_, rfl⟩
       first | rw [hji31] at H | simp only [hji31] at H
       have hji31_ : ((IntKind.u64.wrap ((IntKind.u64.wrap ((IntKind.u64.wrap ((IntKind.u64.wrap ((IntKind.u64.wrap ((IntKind.u64.wrap ((Go.bits .or .u64 (ji12) (ji15)) * 4294967296)) + ((ji17) / 4294967296))) - (IntKind.u64.wrap (x15_18 * ji10)))) * 4294967296)) + (Go.bits .and .u64 (ji17) 4294967295))) - (IntKind.u64.wrap ((IntKind.u64.wrap (x18_2 - 1)) * ji10)))) / 2 ^ min ji8.toNat 64) = ji31 := hji31
       have hji31z : ji8 ≤ 64 → ((IntKind.u64.wrap ((IntKind.u64.wrap ((IntKind.u64.wrap ((IntKind.u64.wrap ((IntKind.u64.wrap ((IntKind.u64.wrap ((Go.bits .or .u64 (ji12) (ji15)) * 4294967296)) + ((ji17) / 4294967296))) - (IntKind.u64.wrap (x15_18 * ji10)))) * 4294967296)) + (Go.bits .and .u64 (ji17) 4294967295))) - (IntKind.u64.wrap ((IntKind.u64.wrap (x18_2 - 1)) * ji10)))) / 2 ^ ji8.toNat) = ji31 := shr_small hji31
       simp only [Option.some.injEq, Prod.mk.injEq] at H
       obtain ⟨rfl, rfl⟩ := H
       go_wp2
       repeat (go_quiet (fail); try go_wp2)
       go_ret2
       exact ⟨by first | rfl | (simp [eN_, eS_] <;> rfl) | (simp only [← hji8, ← hji10, ← hji12, ← hji13, ← hji15, ← hji17, ← hji31]; first | rfl | (simp [eN_, eS_] <;> rfl)) | (simp [*, eN_, eS_] <;> rfl), by exact ul HB.out⟩
def uA.f (k : Nat) (a0 : Int) (a1 : Int) (a2 : Int) : Option (Int) := if a2 = 0 then (none) else ((zU.f k (Int.tmod a0 a2) a1 a2).bind fun bt230 => (some bt230.2))
theorem uA.calls (k : Nat) (a0 : Int) (a1 : Int) (a2 : Int) (r : Int) (w : World) (h : uA.f k a0 a1 a2 = some r) :
    Calls Try.prog 124 #[.int .u64 a0, .int .u64 a1, .int .u64 a2] w fun e w' => e = .returned (.int .u64 r) ∧ Below w.heap.size w w' := by
 have HB := aq (Below.refl w.heap.size w)
 have H := h
 unfold uA.f at H
 clear h
 by_cases c4 : a2 = 0
 case pos => rw [if_pos c4] at H; exact absurd H (by simp)
 rw [if_neg c4] at H
 have c4b0 : (a2 == 0) = false := beq_eq_false_iff_ne.mpr c4
 have c4b1 : (a2 != 0) = true := bne_iff_ne.mpr c4
 replace H := Option.bind_eq_some_iff.mp H
 obtain ⟨⟨t230, t231⟩, A50, H⟩ := H
 try dsimp only at H
 have A5 := aq A50
 clear A50
 obtain rfl := Option.some.inj H
 go_enter Try.func124, Try.ntmps124
 go_wp2_with (first | ((with_reducible refine xL (f := 125) rfl ?_); refine tS (some 15) rfl rfl Try.func125 (by kernel_rfl) rfl #[.int .u64 (Int.tmod a0 a2), .int .u64 a1, .int .u64 a2] rfl (by (try simp only [List.map_toArray, List.map_cons, List.map_nil]); first | done | rfl | (simp only [List.length_drop, List.length_take]; rfl)) ?_; (with_reducible refine (zU.calls k (Int.tmod a0 a2) a1 a2 t230 t231 _ A5.out).mono ?_); rintro e w6 ⟨rfl, hb⟩; refine ⟨_, rfl, ?_⟩; replace HB := aq (bt_ (by exact ul HB.out) hb); (try clear hb); (try clear hb2); (try clear hk); (try clear hi)))
 go_ret
 exact ⟨by first | rfl | (simp [eN_, eS_] <;> rfl) | (simp [*, eN_, eS_] <;> rfl), by exact ul HB.out⟩
end Go.Proofs.Ytoonahobmlnflaa.PC
namespace Go.Proofs
open Go.Shelf
def Try.lays264_ren : Go.Shelf.Ren := ⟨fun | 264 => 121 | n => n, fun | 53 => 142 | 46 => 104 | n => n, fun | n => n⟩
theorem Try.lays264 : Go.Proofs.Lays.n264 Try.prog Try.lays264_ren := {
  mixed := by kernel_rfl
  f264 := Try.func121.trans (congrArg some (by kernel_rfl))
  t46 := Try.underlying104
  a46 := Try.isAgg104
  z46 := Try.sizeOf104
  v46 := Try.zeroValue104
  t53 := Try.underlying142
  a53 := Try.isAgg142
  z53 := Try.sizeOf142
  v53 := Try.zeroValue142 }
open Go.RowKit Go.Lib in
theorem Try.bits_Mul64 (x y : Nat) (hx : x < 18446744073709551616) (hy : y < 18446744073709551616) (w : World) :
    Calls Try.prog 121 #[.int .u64 x, .int .u64 y] w fun e w' => e = .returned (.tuple #[.int .u64 ((x * y / 18446744073709551616 : Nat) : Int), .int .u64 ((x * y % 18446744073709551616 : Nat) : Int)]) ∧ w' = w := Any.bits_Mul64 Try.lays264 x y hx hy w
end Go.Proofs
namespace Go.Proofs.Ytoonahobmlnflaa.PC
open Go.RowKit Go.Shelf A B C
theorem and32 (a : Nat) (ha : a < 18446744073709551616) : Go.bits .and .u64 (a : Int) 4294967295 = ((a % 4294967296 : Nat) : Int) := Go.Proofs.Mul64.maskN a ha
theorem tK {x y : Nat} (hx : x < 18446744073709551616) (hy : y < 18446744073709551616) :
    bits_Mul64.f (x : Int) (y : Int) = some (((x * y / 18446744073709551616 : Nat) : Int), ((x * y % 18446744073709551616 : Nat) : Int)) := by
  have e := Go.Lib.split_mul (x / 4294967296) (x % 4294967296) (y / 4294967296) (y % 4294967296) 4294967296
  rw [Nat.div_add_mod', Nat.div_add_mod'] at e
  have hA := Go.Lib.half_mul_le (a := x / 4294967296) (b := y / 4294967296) (by omega) (by omega)
  have hB := Go.Lib.half_mul_le (a := x / 4294967296) (b := y % 4294967296) (by omega) (by omega)
  have hC := Go.Lib.half_mul_le (a := x % 4294967296) (b := y / 4294967296) (by omega) (by omega)
  have hD := Go.Lib.half_mul_le (a := x % 4294967296) (b := y % 4294967296) (by omega) (by omega)
  unfold bits_Mul64.f
  rw [and32 x hx, and32 y hy]
  have d1 : (x : Int) / 4294967296 = ((x / 4294967296 : Nat) : Int) := rfl
  have d2 : (y : Int) / 4294967296 = ((y / 4294967296 : Nat) : Int) := rfl
  rw [d1, d2, ← Int.natCast_mul, ← Int.natCast_mul, ← Int.natCast_mul, ← Int.natCast_mul, ← Int.natCast_mul]
  generalize x / 4294967296 * (y / 4294967296) = A at *
  generalize x / 4294967296 * (y % 4294967296) = B at *
  generalize x % 4294967296 * (y / 4294967296) = C at *
  generalize x % 4294967296 * (y % 4294967296) = D at *
  rw [e]
  have w1 : IntKind.u64.wrap (D : Int) = D := by rw [IntKind.wrap_u64]; omega
  have w2 : IntKind.u64.wrap (B : Int) = B := by rw [IntKind.wrap_u64]; omega
  have w3 : IntKind.u64.wrap (C : Int) = C := by rw [IntKind.wrap_u64]; omega
  have w4 : IntKind.u64.wrap (A : Int) = A := by rw [IntKind.wrap_u64]; omega
  rw [w1, w2, w3, w4]
  have w5 : IntKind.u64.wrap ((B : Int) + (D : Int) / 4294967296) = ((B + D / 4294967296 : Nat) : Int) := by rw [IntKind.wrap_u64]; omega
  rw [w5, and32 _ (by omega)]
  refine congrArg some (Prod.ext ?_ ?_)
  · show IntKind.u64.wrap _ = _
    simp only [IntKind.wrap_u64]; omega
  · show IntKind.u64.wrap _ = _
    simp only [IntKind.wrap_u64]; omega
theorem half_no {y1 y0 u d q r : Nat} (hv : 0 < y1 * 4294967296 + y0) (e : q * y1 + r = u) (hq : (u * 4294967296 + d) / (y1 * 4294967296 + y0) ≤ q) (h : q * y0 ≤ 4294967296 * r + d) : q = (u * 4294967296 + d) / (y1 * 4294967296 + y0) := by
  refine Nat.le_antisymm ?_ hq
  rw [Nat.le_div_iff_mul_le hv, Nat.mul_add, ← Nat.mul_assoc]
  subst e
  generalize q * y1 = A at *
  generalize q * y0 = B at *
  omega
theorem half_lt {u d v : Nat} (hu : u < v) (hd : d < 4294967296) : u * 4294967296 + d < 4294967296 * v := by omega
theorem half_yes {y1 y0 u d q r : Nat} (hv : 0 < y1 * 4294967296 + y0) (hu : u < y1 * 4294967296 + y0) (hd : d < 4294967296) (e : q * y1 + r = u) (h : 4294967296 ≤ q ∨ 4294967296 * r + d < q * y0) : (u * 4294967296 + d) / (y1 * 4294967296 + y0) < q := by
  rcases h with h | h
  · refine Nat.lt_of_lt_of_le ?_ h
    rw [Nat.div_lt_iff_lt_mul hv]
    exact half_lt hu hd
  · rw [Nat.div_lt_iff_lt_mul hv, Nat.mul_add, ← Nat.mul_assoc]
    subst e
    generalize q * y1 = A at *
    generalize q * y0 = B at *
    omega
theorem half_end {y1 y0 u d q r : Nat} (hv : 0 < y1 * 4294967296 + y0) (h0 : y0 < 4294967296) (e : q * y1 + r = u) (hq : (u * 4294967296 + d) / (y1 * 4294967296 + y0) ≤ q) (hq1 : q ≤ 4294967296) (hr : 4294967296 ≤ r) : q = (u * 4294967296 + d) / (y1 * 4294967296 + y0) := by
  refine half_no hv e hq ?_
  have : q * y0 ≤ 4294967296 * 4294967296 := Nat.mul_le_mul hq1 (by omega)
  omega
theorem half_first {y1 y0 u d : Nat} (h1 : 0 < y1) (hd : d < 4294967296) : (u * 4294967296 + d) / (y1 * 4294967296 + y0) ≤ u / y1 := by
  rw [Nat.le_div_iff_mul_le h1]
  have h := Nat.div_mul_le_self (u * 4294967296 + d) (y1 * 4294967296 + y0)
  generalize (u * 4294967296 + d) / (y1 * 4294967296 + y0) = Q at *
  rw [Nat.mul_add, ← Nat.mul_assoc] at h
  generalize Q * y1 = A at *
  generalize Q * y0 = B at *
  omega
theorem half_bound {y1 y0 u : Nat} (h1 : 2147483648 ≤ y1) (h0 : y0 < 4294967296) (hu : u < y1 * 4294967296 + y0) : u / y1 ≤ 4294967297 := by
  have : u / y1 < 4294967298 := by
    rw [Nat.div_lt_iff_lt_mul (by omega)]
    omega
  omega
theorem wU {n : Nat} (h : n < 18446744073709551616) : IntKind.u64.wrap (n : Int) = (n : Int) := by rw [IntKind.wrap_u64]; omega
theorem w32 {r d : Nat} (hr : r < 4294967296) (hd : d < 4294967296) : IntKind.u64.wrap (IntKind.u64.wrap (4294967296 * (r : Int)) + (d : Int)) = ((4294967296 * r + d : Nat) : Int) := by
  have e1 : (4294967296 * (r : Int)) = ((4294967296 * r : Nat) : Int) := by omega
  have e2 : (((4294967296 * r : Nat) : Int) + (d : Int)) = ((4294967296 * r + d : Nat) : Int) := by omega
  rw [e1, wU (by omega), e2, wU (by omega)]
theorem w1m {q : Nat} (h : 0 < q) (h2 : q < 18446744073709551616) : IntKind.u64.wrap ((q : Int) - 1) = ((q - 1 : Nat) : Int) := by
  have e : ((q : Int) - 1) = ((q - 1 : Nat) : Int) := by omega
  rw [e, wU (by omega)]
theorem half_step {y1 u q r : Nat} (h : q * y1 + r = u) (hq : 0 < q) : (q - 1) * y1 + (r + y1) = u := by
  obtain ⟨p, rfl⟩ : ∃ p, q = p + 1 := ⟨q - 1, by omega⟩
  rw [Nat.add_sub_cancel, ← h, Nat.add_mul]
  omega
theorem dv_l0 {y2 s un0 : Int} {y1 y0 u d : Nat} {R : Int × Int} (h1 : 2147483648 ≤ y1) (h1' : y1 < 4294967296) (h0 : y0 < 4294967296) (hd : d < 4294967296) (hu : u < y1 * 4294967296 + y0)
    (hj : Ev (fun k => zU.j2 k y2 s y1 y0 u d un0 (((u * 4294967296 + d) / (y1 * 4294967296 + y0) : Nat) : Int)) R) : ∀ (m q r : Nat), r + m = 4294967296 → 0 < m → q * y1 + r = u → (u * 4294967296 + d) / (y1 * 4294967296 + y0) ≤ q → q ≤ 4294967297 →
    Ev (fun k => zU.l0 k y2 s y1 y0 u d un0 (q : Int) (r : Int)) R := by
  have hv : 0 < y1 * 4294967296 + y0 := by omega
  intro m
  induction m using Nat.strongRecOn with
  | _ m ih =>
  intro q r hm hm0 he hq hq2
  have hsmall : q < 4294967296 → q * y0 < 18446744073709551616 := fun h => by
    have : q * y0 ≤ 4294967295 * 4294967295 := Nat.mul_le_mul (by omega) (by omega)
    omega
  by_cases ht : 4294967296 ≤ q ∨ 4294967296 * r + d < q * y0
  · have hlt := half_yes hv hu hd he ht
    have hq0 : 0 < q := Nat.lt_of_le_of_lt (Nat.zero_le _) hlt
    have hlt' := Nat.le_sub_one_of_lt hlt
    have hst := half_step he hq0
    refine Ev.step (f := fun k => zU.j1 k y2 s y1 y0 u d un0 (q : Int) (r : Int) true) (fun k => ?_) ?_
    · rw [zU.l0]
      by_cases hb : (4294967296 : Int) ≤ (q : Int)
      · rw [if_pos hb]
      · rw [if_neg hb]
        rcases ht with ht | ht
        · omega
        · have w1 : IntKind.u64.wrap ((q : Int) * (y0 : Int)) = ((q * y0 : Nat) : Int) := by rw [← Int.natCast_mul, wU (hsmall (by omega))]
          have w2 : IntKind.u64.wrap (IntKind.u64.wrap (4294967296 * (r : Int)) + (d : Int)) = ((4294967296 * r + d : Nat) : Int) := w32 (by omega) hd
          rw [w1, w2, decide_eq_true (by omega)]
    refine Ev.step (f := fun k => if 4294967296 ≤ r + y1 then zU.j2 k y2 s y1 y0 u d un0 ((q - 1 : Nat) : Int) else zU.l0 k y2 s y1 y0 u d un0 ((q - 1 : Nat) : Int) ((r + y1 : Nat) : Int)) (fun k => ?_) ?_
    · rw [zU.j1, if_pos rfl]
      have w1 : IntKind.u64.wrap ((r : Int) + (y1 : Int)) = ((r + y1 : Nat) : Int) := by rw [← Int.natCast_add, wU (by omega)]
      have w2 : IntKind.u64.wrap ((q : Int) - 1) = ((q - 1 : Nat) : Int) := w1m hq0 (by omega)
      rw [w1, w2]
      by_cases hb : 4294967296 ≤ r + y1
      · rw [if_pos (by omega), if_pos hb]
      · rw [if_neg (by omega), if_neg hb]
    by_cases hb : 4294967296 ≤ r + y1
    · refine Ev.congr (fun k => if_pos hb) ?_
      rw [half_end hv h0 hst hlt' (by omega) hb]
      exact hj
    · refine Ev.congr (fun k => if_neg hb) ?_
      exact ih (m - y1) (by omega) (q - 1) (r + y1) (by omega) (by omega) hst hlt' (by omega)
  · have hn : q < 4294967296 ∧ q * y0 ≤ 4294967296 * r + d := ⟨by omega, by omega⟩
    refine Ev.step (f := fun k => zU.j1 k y2 s y1 y0 u d un0 (q : Int) (r : Int) false) (fun k => ?_) ?_
    · rw [zU.l0, if_neg (by omega)]
      have w1 : IntKind.u64.wrap ((q : Int) * (y0 : Int)) = ((q * y0 : Nat) : Int) := by rw [← Int.natCast_mul, wU (hsmall (by omega))]
      have w2 : IntKind.u64.wrap (IntKind.u64.wrap (4294967296 * (r : Int)) + (d : Int)) = ((4294967296 * r + d : Nat) : Int) := w32 (by omega) hd
      rw [w1, w2, decide_eq_false (by omega)]
    refine Ev.step (f := fun k => zU.j2 k y2 s y1 y0 u d un0 (q : Int)) (fun k => ?_) ?_
    · rw [zU.j1, if_neg (by decide)]
    · rw [half_no hv he hq hn.2]
      exact hj
theorem dv_l1 {y2 s un21 q1 : Int} {y1 y0 u d : Nat} {R : Int × Int} (hs : 0 ≤ s) (h1 : 2147483648 ≤ y1) (h1' : y1 < 4294967296) (h0 : y0 < 4294967296) (hd : d < 4294967296) (hu : u < y1 * 4294967296 + y0)
    (hj : R = (IntKind.u64.wrap (IntKind.u64.wrap (q1 * 4294967296) + (((u * 4294967296 + d) / (y1 * 4294967296 + y0) : Nat) : Int)), shr .u64 (IntKind.u64.wrap (IntKind.u64.wrap (IntKind.u64.wrap (un21 * 4294967296) + (d : Int)) - IntKind.u64.wrap ((((u * 4294967296 + d) / (y1 * 4294967296 + y0) : Nat) : Int) * y2))) s)) : ∀ (m q r : Nat), r + m = 4294967296 → 0 < m → q * y1 + r = u → (u * 4294967296 + d) / (y1 * 4294967296 + y0) ≤ q → q ≤ 4294967297 →
    Ev (fun k => zU.l1 k y2 s y1 y0 d q1 (r : Int) un21 (q : Int)) R := by
  have hv : 0 < y1 * 4294967296 + y0 := by omega
  intro m
  induction m using Nat.strongRecOn with
  | _ m ih =>
  intro q r hm hm0 he hq hq2
  have hsmall : q < 4294967296 → q * y0 < 18446744073709551616 := fun h => by
    have : q * y0 ≤ 4294967295 * 4294967295 := Nat.mul_le_mul (by omega) (by omega)
    omega
  by_cases ht : 4294967296 ≤ q ∨ 4294967296 * r + d < q * y0
  · have hlt := half_yes hv hu hd he ht
    have hq0 : 0 < q := Nat.lt_of_le_of_lt (Nat.zero_le _) hlt
    have hlt' := Nat.le_sub_one_of_lt hlt
    have hst := half_step he hq0
    refine Ev.step (f := fun k => zU.j4 k y2 s y1 y0 d q1 (r : Int) un21 (q : Int) true) (fun k => ?_) ?_
    · rw [zU.l1]
      by_cases hb : (4294967296 : Int) ≤ (q : Int)
      · rw [if_pos hb]
      · rw [if_neg hb]
        rcases ht with ht | ht
        · omega
        · have w1 : IntKind.u64.wrap ((q : Int) * (y0 : Int)) = ((q * y0 : Nat) : Int) := by rw [← Int.natCast_mul, wU (hsmall (by omega))]
          have w2 : IntKind.u64.wrap (IntKind.u64.wrap (4294967296 * (r : Int)) + (d : Int)) = ((4294967296 * r + d : Nat) : Int) := w32 (by omega) hd
          rw [w1, w2, decide_eq_true (by omega)]
    refine Ev.step (f := fun k => if 4294967296 ≤ r + y1 then some R else zU.l1 k y2 s y1 y0 d q1 ((r + y1 : Nat) : Int) un21 ((q - 1 : Nat) : Int)) (fun k => ?_) ?_
    · rw [zU.j4, if_pos rfl]
      have w1 : IntKind.u64.wrap ((r : Int) + (y1 : Int)) = ((r + y1 : Nat) : Int) := by rw [← Int.natCast_add, wU (by omega)]
      have w2 : IntKind.u64.wrap ((q : Int) - 1) = ((q - 1 : Nat) : Int) := w1m hq0 (by omega)
      rw [w1, w2]
      by_cases hb : 4294967296 ≤ r + y1
      · rw [if_pos (by omega), if_pos hb, if_pos hs, hj, half_end hv h0 hst hlt' (by omega) hb]
      · rw [if_neg (by omega), if_neg hb]
    by_cases hb : 4294967296 ≤ r + y1
    · refine Ev.congr (fun k => if_pos hb) ?_
      exact Ev.now R
    · refine Ev.congr (fun k => if_neg hb) ?_
      exact ih (m - y1) (by omega) (q - 1) (r + y1) (by omega) (by omega) hst hlt' (by omega)
  · have hn : q < 4294967296 ∧ q * y0 ≤ 4294967296 * r + d := ⟨by omega, by omega⟩
    refine Ev.step (f := fun k => zU.j4 k y2 s y1 y0 d q1 (r : Int) un21 (q : Int) false) (fun k => ?_) ?_
    · rw [zU.l1, if_neg (by omega)]
      have w1 : IntKind.u64.wrap ((q : Int) * (y0 : Int)) = ((q * y0 : Nat) : Int) := by rw [← Int.natCast_mul, wU (hsmall (by omega))]
      have w2 : IntKind.u64.wrap (IntKind.u64.wrap (4294967296 * (r : Int)) + (d : Int)) = ((4294967296 * r + d : Nat) : Int) := w32 (by omega) hd
      rw [w1, w2, decide_eq_false (by omega)]
    refine Ev.step (f := fun k => some R) (fun k => ?_) (Ev.now R)
    rw [zU.j4, if_neg (by decide), if_pos hs, hj, ← half_no hv he hq hn.2]
theorem bitLen_two : ∀ x : Nat, 0 < x → x < 18446744073709551616 → 1 ≤ Go.Lib.bitLen x ∧ 2 ^ (Go.Lib.bitLen x - 1) ≤ x ∧ x < 2 ^ (Go.Lib.bitLen x) := by
  intro x
  induction x using Nat.strongRecOn with
  | _ x ih =>
  intro h0 h1
  have e := Go.Lib.bitLen_half x (by omega) h1
  by_cases h2 : x = 1
  · subst h2; decide
  · obtain ⟨i1, i2, i3⟩ := ih (x / 2) (by omega) (by omega) (by omega)
    rw [e]
    have e2 : 1 + Go.Lib.bitLen (x / 2) - 1 = (Go.Lib.bitLen (x / 2) - 1) + 1 := by omega
    rw [e2, Nat.pow_succ, Nat.add_comm 1, Nat.pow_succ]
    omega
theorem bitLen_le64 {x : Nat} (h0 : 0 < x) (h1 : x < 18446744073709551616) : Go.Lib.bitLen x ≤ 64 := by
  obtain ⟨i1, i2, i3⟩ := bitLen_two x h0 h1
  refine Nat.le_of_not_lt fun h => ?_
  have : (2 : Nat) ^ 64 ≤ 2 ^ (Go.Lib.bitLen x - 1) := Nat.pow_le_pow_right (by omega) (by omega)
  have e : (2 : Nat) ^ 64 = 18446744073709551616 := rfl
  omega
theorem lead_ok {y : Nat} (h0 : 0 < y) (h1 : y < 18446744073709551616) : ∃ s : Nat, s ≤ 63 ∧ bits_LeadingZeros64.f (y : Int) = some (s : Int) ∧ 9223372036854775808 ≤ y * 2 ^ s ∧ y * 2 ^ s < 18446744073709551616 := by
  obtain ⟨i1, i2, i3⟩ := bitLen_two y h0 h1
  have i4 := bitLen_le64 h0 h1
  refine ⟨64 - Go.Lib.bitLen y, by omega, ?_, ?_, ?_⟩
  · unfold bits_LeadingZeros64.f
    rw [if_pos ⟨by omega, by omega⟩, Int.toNat_natCast]
    congr 1
    omega
  · have h := Nat.mul_le_mul_right (2 ^ (64 - Go.Lib.bitLen y)) i2
    rw [← Nat.pow_add, show Go.Lib.bitLen y - 1 + (64 - Go.Lib.bitLen y) = 63 by omega] at h
    exact h
  · have h := Nat.mul_lt_mul_of_pos_right i3 (show 0 < 2 ^ (64 - Go.Lib.bitLen y) from Nat.two_pow_pos _)
    rw [← Nat.pow_add, show Go.Lib.bitLen y + (64 - Go.Lib.bitLen y) = 64 by omega] at h
    exact h
theorem div_halves {N v q1 r1 d0 B : Nat} (hv : 0 < v) (h1 : q1 = N / v) (hr : r1 = N % v) : (N * B + d0) / v = q1 * B + (r1 * B + d0) / v ∧ (N * B + d0) % v = (r1 * B + d0) % v := by
  have e : N * B + d0 = v * (q1 * B) + (r1 * B + d0) := by
    have h := Nat.div_add_mod N v
    rw [← h1, ← hr] at h
    conv => lhs; rw [← h]
    rw [Nat.add_mul, Nat.mul_assoc]
    omega
  rw [e, Nat.mul_add_div hv, Nat.mul_add_mod]
  exact ⟨rfl, rfl⟩
theorem div_scale {D y P : Nat} (hP : 0 < P) : D * P / (y * P) = D / y ∧ D * P % (y * P) / P = D % y := by
  refine ⟨Nat.mul_div_mul_right _ _ hP, ?_⟩
  rw [Nat.mul_mod_mul_right, Nat.mul_div_cancel _ hP]
theorem nX (x y : Int) : IntKind.u64.wrap (IntKind.u64.wrap x - IntKind.u64.wrap y) = IntKind.u64.wrap (x - y) := by
  simp only [IntKind.wrap_u64]; rw [← Int.sub_emod]
theorem uF (x y : Int) : IntKind.u64.wrap (x - IntKind.u64.wrap y) = IntKind.u64.wrap (x - y) := by
  simp only [IntKind.wrap_u64]; rw [Int.sub_emod, Int.emod_emod, ← Int.sub_emod]
theorem nW (x y : Int) : IntKind.u64.wrap (IntKind.u64.wrap x + y) = IntKind.u64.wrap (x + y) := by
  simp only [IntKind.wrap_u64]; rw [Int.emod_add_emod]
theorem wrap_eq {x : Int} {n : Nat} (h : x = (n : Int)) (hn : n < 18446744073709551616) : IntKind.u64.wrap x = (n : Int) := by rw [h, wU hn]
theorem first_quo {u y1 : Nat} (h1 : 0 < y1) (hu : u < 18446744073709551616) : IntKind.u64.wrap (Int.tdiv (u : Int) (y1 : Int)) = ((u / y1 : Nat) : Int) := by
  have : Int.tdiv (u : Int) (y1 : Int) = ((u / y1 : Nat) : Int) := rfl
  rw [this, wU (Nat.lt_of_le_of_lt (Nat.div_le_self _ _) hu)]
theorem first_rest {u y1 : Nat} (hu : u < 18446744073709551616) : IntKind.u64.wrap ((u : Int) - IntKind.u64.wrap (((u / y1 : Nat) : Int) * (y1 : Int))) = ((u % y1 : Nat) : Int) := by
  rw [uF]
  refine wrap_eq ?_ (Nat.lt_of_le_of_lt (Nat.mod_le _ _) hu)
  have h := Nat.div_add_mod u y1
  rw [← Int.natCast_mul, Nat.mul_comm]
  generalize y1 * (u / y1) = A at *
  omega
theorem big_rest {u d v : Nat} (hv : 0 < v) (hv2 : v < 18446744073709551616) : IntKind.u64.wrap (IntKind.u64.wrap (IntKind.u64.wrap ((u : Int) * 4294967296) + (d : Int)) - IntKind.u64.wrap ((((u * 4294967296 + d) / v : Nat) : Int) * (v : Int))) = (((u * 4294967296 + d) % v : Nat) : Int) := by
  rw [uF, nW, ← uF, nX]
  refine wrap_eq ?_ (Nat.lt_trans (Nat.mod_lt _ hv) hv2)
  have h := Nat.div_add_mod (u * 4294967296 + d) v
  have e : ((u : Int) * 4294967296 + (d : Int)) = ((u * 4294967296 + d : Nat) : Int) := by omega
  rw [e, ← Int.natCast_mul, Nat.mul_comm ((u * 4294967296 + d) / v) v]
  generalize u * 4294967296 + d = N at *
  generalize v * (N / v) = A at *
  omega
theorem or_shift {hi s c : Nat} (h : hi * 2 ^ s < 18446744073709551616) (hc : c < 2 ^ s) (hc2 : c < 18446744073709551616) : Go.bits .or .u64 ((hi * 2 ^ s : Nat) : Int) (c : Int) = ((hi * 2 ^ s + c : Nat) : Int) := by
  rw [u64_or _ _ (by omega) (by omega) (by omega) (by omega), Int.toNat_natCast, Int.toNat_natCast]
  congr 1
  rw [← Nat.shiftLeft_eq, ← Nat.shiftLeft_add_eq_or_of_lt hc]
theorem wfin {q c : Nat} (hq : q < 4294967296) (hc : c < 4294967296) : IntKind.u64.wrap ((q : Int) * 4294967296 + (c : Int)) = ((q * 4294967296 + c : Nat) : Int) := by
  have e : (q : Int) * 4294967296 + (c : Int) = ((q * 4294967296 + c : Nat) : Int) := by omega
  rw [e, wU (by omega)]
theorem hm32 (n : Nat) : n % 4294967296 < 4294967296 := Nat.mod_lt n (by omega)
theorem Ev_dv {u w v s r1 q1 : Nat} (hs : s ≤ 63) (hu : u < v) (hw : w < 18446744073709551616) (hv1 : 9223372036854775808 ≤ v) (hv2 : v < 18446744073709551616) (hq1 : (u * 4294967296 + w / 4294967296) / v = q1) (hr1 : (u * 4294967296 + w / 4294967296) % v = r1) :
    Ev (fun k => zU.l0 k (v : Int) (s : Int) ((v / 4294967296 : Nat) : Int) ((v % 4294967296 : Nat) : Int) (u : Int) ((w / 4294967296 : Nat) : Int) ((w % 4294967296 : Nat) : Int) ((u / (v / 4294967296) : Nat) : Int) ((u % (v / 4294967296) : Nat) : Int))
      (((q1 * 4294967296 + (r1 * 4294967296 + w % 4294967296) / v : Nat) : Int), (((r1 * 4294967296 + w % 4294967296) % v / 2 ^ s : Nat) : Int)) := by
  have hv0 : 0 < v := by omega
  have hsplit : v / 4294967296 * 4294967296 + v % 4294967296 = v := Nat.div_add_mod' v 4294967296
  have hy1 : 2147483648 ≤ v / 4294967296 := by omega
  have hrl : r1 < v := by rw [← hr1]; exact Nat.mod_lt _ hv0
  have hq1l : q1 < 4294967296 := by
    rw [← hq1, Nat.div_lt_iff_lt_mul hv0]
    omega
  have hq0 : (r1 * 4294967296 + w % 4294967296) / v < 4294967296 := by
    rw [Nat.div_lt_iff_lt_mul hv0]
    omega
  have hub : u < v / 4294967296 * 4294967296 + v % 4294967296 := by rw [hsplit]; exact hu
  have hrb : r1 < v / 4294967296 * 4294967296 + v % 4294967296 := by rw [hsplit]; exact hrl
  have hbig1 := big_rest (u := u) (d := w / 4294967296) hv0 hv2
  have hbig0 := big_rest (u := r1) (d := w % 4294967296) hv0 hv2
  rw [hq1, hr1] at hbig1
  refine dv_l0 (by omega) (by omega) (hm32 v) (by omega) hub ?_ (4294967296 - u % (v / 4294967296)) _ _ ?_ ?_ (Nat.div_add_mod' _ _) (half_first (by omega) (by omega)) (half_bound (by omega) (hm32 v) hub)
  rotate_left
  · have := Nat.mod_lt u (show 0 < v / 4294967296 by omega); omega
  · have := Nat.mod_lt u (show 0 < v / 4294967296 by omega); omega
  rw [hsplit, hq1]
  refine Ev.step (f := fun k => zU.l1 k (v : Int) (s : Int) ((v / 4294967296 : Nat) : Int) ((v % 4294967296 : Nat) : Int) ((w % 4294967296 : Nat) : Int) (q1 : Int) ((r1 % (v / 4294967296) : Nat) : Int) (r1 : Int) ((r1 / (v / 4294967296) : Nat) : Int)) (fun k => ?_) ?_
  · rw [zU.j2, if_neg (by omega), hbig1, first_quo (by omega) (by omega), first_rest (by omega)]
  refine dv_l1 (by omega) (by omega) (by omega) (hm32 v) (hm32 w) hrb ?_ (4294967296 - r1 % (v / 4294967296)) _ _ ?_ ?_ (Nat.div_add_mod' _ _) (half_first (by omega) (hm32 w)) (half_bound (by omega) (hm32 v) hrb)
  rotate_left
  · have := Nat.mod_lt r1 (show 0 < v / 4294967296 by omega); omega
  · have := Nat.mod_lt r1 (show 0 < v / 4294967296 by omega); omega
  rw [hsplit, hbig0]
  refine Prod.ext ?_ ?_
  · show _ = IntKind.u64.wrap _
    rw [nW]
    exact (wfin hq1l hq0).symm
  · show _ = shr .u64 _ (s : Int)
    unfold shr
    rw [Int.toNat_natCast, Nat.min_eq_left (by show s ≤ 64; omega), Int.natCast_ediv, Int.natCast_pow]
    rfl
theorem split64 (u w : Nat) : u * 18446744073709551616 + w = (u * 4294967296 + w / 4294967296) * 4294967296 + w % 4294967296 := by omega
theorem Ev_Div64 {hi lo y : Nat} (hy : y < 18446744073709551616) (hh : hi < y) (hlo : lo < 18446744073709551616) :
    Ev (fun k => zU.f k (hi : Int) (lo : Int) (y : Int)) ((((hi * 18446744073709551616 + lo) / y : Nat) : Int), (((hi * 18446744073709551616 + lo) % y : Nat) : Int)) := by
  have hy0 : 0 < y := by omega
  by_cases hz : hi = 0
  · subst hz
    refine Ev.congr (f := fun _ => some _) (fun k => ?_) (Ev.now _)
    unfold zU.f
    rw [if_neg (by omega), if_neg (by omega), if_pos (show ((0 : Nat) : Int) = 0 from rfl), first_quo hy0 hlo]
    simp only [Nat.zero_mul, Nat.zero_add]
    rfl
  obtain ⟨s, hs, hlz, hv1, hv2⟩ := lead_ok hy0 hy
  have hP : 0 < 2 ^ s := Nat.two_pow_pos s
  have hQ : 0 < 2 ^ (64 - s) := Nat.two_pow_pos _
  have hPQ : 2 ^ (64 - s) * 2 ^ s = 18446744073709551616 := by rw [← Nat.pow_add, show 64 - s + s = 64 by omega]
  have k1 : IntKind.u64.wrap (s : Int) = (s : Int) := wU (by omega)
  have k2 : IntKind.u64.wrap (64 - (s : Int)) = ((64 - s : Nat) : Int) := by rw [show (64 - (s : Int)) = ((64 - s : Nat) : Int) by omega, wU (by omega)]
  have hhi : hi * 2 ^ s < 18446744073709551616 := Nat.lt_of_le_of_lt (Nat.mul_le_mul_right _ (by omega)) hv2
  have sl : ∀ n : Nat, shl .u64 (n : Int) (s : Int) = ((n * 2 ^ s % 18446744073709551616 : Nat) : Int) := fun n => by
    unfold shl
    rw [Int.toNat_natCast, Nat.min_eq_left (by show s ≤ 64; omega), IntKind.wrap_u64, Int.natCast_emod, Int.natCast_mul, Int.natCast_pow]
    rfl
  have s1 : shl .u64 (y : Int) (s : Int) = ((y * 2 ^ s : Nat) : Int) := by rw [sl, Nat.mod_eq_of_lt hv2]
  have s2 : shl .u64 (hi : Int) (s : Int) = ((hi * 2 ^ s : Nat) : Int) := by rw [sl, Nat.mod_eq_of_lt hhi]
  have s3 : shr .u64 (lo : Int) ((64 - s : Nat) : Int) = ((lo / 2 ^ (64 - s) : Nat) : Int) := by
    unfold shr
    rw [Int.toNat_natCast, Nat.min_eq_left (by show 64 - s ≤ 64; omega), Int.natCast_ediv, Int.natCast_pow]
    rfl
  have hc : lo / 2 ^ (64 - s) < 2 ^ s := by rw [Nat.div_lt_iff_lt_mul hQ, Nat.mul_comm, hPQ]; exact hlo
  have hc2 : lo / 2 ^ (64 - s) < 18446744073709551616 := Nat.lt_of_le_of_lt (Nat.div_le_self _ _) hlo
  have s4 := or_shift hhi hc hc2
  -- the shifted number
  have hM : (hi * 18446744073709551616 + lo) * 2 ^ s = (hi * 2 ^ s + lo / 2 ^ (64 - s)) * 18446744073709551616 + lo * 2 ^ s % 18446744073709551616 := by
    have e1 : lo * 2 ^ s / 18446744073709551616 = lo / 2 ^ (64 - s) := by rw [← hPQ, Nat.mul_div_mul_right _ _ hP]
    have e2 := Nat.div_add_mod (lo * 2 ^ s) 18446744073709551616
    rw [e1] at e2
    rw [Nat.add_mul, Nat.add_mul, Nat.mul_right_comm]
    generalize lo * 2 ^ s = A at *
    generalize lo / 2 ^ (64 - s) = C at *
    omega
  have hu : hi * 2 ^ s + lo / 2 ^ (64 - s) < y * 2 ^ s := by
    have : (hi + 1) * 2 ^ s ≤ y * 2 ^ s := Nat.mul_le_mul_right _ (by omega)
    rw [Nat.add_mul, Nat.one_mul] at this
    omega
  have hD := div_scale (D := hi * 18446744073709551616 + lo) (y := y) hP
  rw [hM] at hD
  generalize hue : hi * 2 ^ s + lo / 2 ^ (64 - s) = u at *
  generalize hwe : lo * 2 ^ s % 18446744073709551616 = w at *
  have hw : w < 18446744073709551616 := by rw [← hwe]; exact Nat.mod_lt _ (by omega)
  generalize hve : y * 2 ^ s = v at *
  have hv0 : 0 < v := by omega
  have hsplit : v / 4294967296 * 4294967296 + v % 4294967296 = v := Nat.div_add_mod' v 4294967296
  have hy1 : 2147483648 ≤ v / 4294967296 := by omega
  have hN := split64 u w
  obtain ⟨h1, h2⟩ := div_halves (N := u * 4294967296 + w / 4294967296) (v := v) (q1 := (u * 4294967296 + w / 4294967296) / v) (r1 := (u * 4294967296 + w / 4294967296) % v) (d0 := w % 4294967296) (B := 4294967296) hv0 rfl rfl
  rw [← hN] at h1 h2
  rw [← hD.1, ← hD.2, h1, h2]
  have hfin := Ev_dv hs hu hw hv1 hv2 (q1 := (u * 4294967296 + w / 4294967296) / v) (r1 := (u * 4294967296 + w / 4294967296) % v) rfl rfl
  refine Ev.congr (fun k => ?_) hfin
  unfold zU.f
  rw [if_neg (by omega), if_neg (by omega), if_neg (by omega), hlz]
  simp only [Option.bind_some]
  rw [k1, if_pos (by omega), k2, if_pos (by omega), s1, s2, s3, s4]
  have sw : shl .u64 (lo : Int) (s : Int) = (w : Int) := by rw [sl, hwe]
  rw [sw, show ((v : Int) / 4294967296) = ((v / 4294967296 : Nat) : Int) from rfl, show ((w : Int) / 4294967296) = ((w / 4294967296 : Nat) : Int) from rfl, if_neg (by omega), and32 v hv2, and32 w hw, first_quo (by omega) (by omega), first_rest (by omega)]
def pA (neg : Bool) (n d : Nat) : S30 × Int :=
  if n / Nat.gcd n d > 9223372036854775807 ∨ d / Nat.gcd n d > 9223372036854775807 then (⟨0, 0⟩, 3)
  else (⟨if neg then -((n / Nat.gcd n d : Nat) : Int) else ((n / Nat.gcd n d : Nat) : Int), ((d / Nat.gcd n d : Nat) : Int)⟩, 0)
theorem quoW {n g : Nat} (hn : n < 18446744073709551616) : IntKind.u64.wrap (Int.tdiv (n : Int) (g : Int)) = ((n / g : Nat) : Int) := by
  have h1 : Int.tdiv (n : Int) (g : Int) = ((n / g : Nat) : Int) := rfl
  have h2 : n / g ≤ n := Nat.div_le_self _ _
  rw [h1]
  generalize n / g = q at h2
  rw [IntKind.wrap_u64]
  omega
theorem Ev_made (neg : Bool) {n d : Nat} (hn : n < 18446744073709551616) (hd : d < 18446744073709551616) (hg : Nat.gcd n d ≠ 0) :
    Ev (fun k => yJ.f k neg (n : Int) (d : Int)) ((pA neg n d).1.f0, (pA neg n d).1.f1, (pA neg n d).2) := by
  obtain ⟨K, h⟩ := Ev_gcd (a := (n : Int)) (b := (d : Int)) (by omega) (by omega)
  refine ⟨K + 1, fun k0 hk0 => ?_⟩
  obtain ⟨k, rfl⟩ : ∃ k, k0 = k + 1 := ⟨k0 - 1, by omega⟩
  have h' : zE.f (k + 1) (n : Int) (d : Int) = some _ := h (k + 1) (by omega)
  rw [Int.toNat_natCast, Int.toNat_natCast] at h'
  show yJ.f (k + 1) neg (n : Int) (d : Int) = _
  unfold yJ.f
  rw [h']
  simp only [Option.bind_some]
  rw [if_neg (by omega), quoW hn, quoW hd]
  unfold pA
  generalize n / Nat.gcd n d = x
  generalize d / Nat.gcd n d = y
  by_cases c1 : x > 9223372036854775807
  · rw [if_pos (by omega), if_pos (Or.inl c1)]
    rfl
  rw [if_neg (by omega)]
  by_cases c2 : y > 9223372036854775807
  · rw [if_pos (Or.inr c2), decide_eq_true (by omega)]
    rfl
  rw [if_neg (by omega), decide_eq_false (by omega)]
  have e0 : yJ.j0 (k + 1) neg (x : Int) (y : Int) false = (if neg = true then (some (wrap64 (-(wrap64 (x : Int))), wrap64 (y : Int), 0)) else (some (wrap64 (x : Int), wrap64 (y : Int), 0))) := rfl
  rw [e0]
  have e1 : wrap64 (x : Int) = x := wr64 (by omega) (by omega)
  have e2 : wrap64 (y : Int) = y := wr64 (by omega) (by omega)
  have e3 : wrap64 (-(x : Int)) = -x := wr64 (by omega) (by omega)
  rw [e1, e2, e3]
  cases neg <;> rfl
theorem madeQ_right {neg : Bool} {n d : Nat} (hd : 0 < d) (h : (pA neg n d).2 = 0) : yU (pA neg n d).1.f0 (pA neg n d).1.f1 = true ∧ I64 (pA neg n d).1.f0 ∧ I64 (pA neg n d).1.f1 := by
  have g0 : 0 < Nat.gcd n d := Nat.gcd_pos_of_pos_right _ hd
  have g1 : 0 < d / Nat.gcd n d := Nat.div_pos (Nat.le_of_dvd hd (Nat.gcd_dvd_right n d)) g0
  have g2 : Nat.gcd (n / Nat.gcd n d) (d / Nat.gcd n d) = 1 := Nat.gcd_div_gcd_div_gcd_of_pos_right hd
  unfold pA at h ⊢
  generalize n / Nat.gcd n d = x at *
  generalize d / Nat.gcd n d = y at *
  by_cases c : x > 9223372036854775807 ∨ y > 9223372036854775807
  · rw [if_pos c] at h; cases h
  rw [if_neg c]
  unfold yU I64
  cases neg
  · simp only [decide_eq_true_eq, Bool.false_eq_true, if_false, Int.natAbs_natCast]
    omega
  · simp only [decide_eq_true_eq, if_true, Int.natAbs_neg, Int.natAbs_natCast]
    omega
def sE (a b : S30) : S30 × Int :=
  if yU a.f0 a.f1 = true ∧ yU b.f0 b.f1 = true then
    (if 18446744073709551616 ≤ a.f0.natAbs / Nat.gcd a.f0.natAbs b.f1.natAbs * (b.f0.natAbs / Nat.gcd b.f0.natAbs a.f1.natAbs) then (⟨0, 0⟩, 3)
    else if 18446744073709551616 ≤ a.f1.natAbs / Nat.gcd b.f0.natAbs a.f1.natAbs * (b.f1.natAbs / Nat.gcd a.f0.natAbs b.f1.natAbs) then (⟨0, 0⟩, 3)
    else pA (decide (a.f0 < 0) != decide (b.f0 < 0)) (a.f0.natAbs / Nat.gcd a.f0.natAbs b.f1.natAbs * (b.f0.natAbs / Nat.gcd b.f0.natAbs a.f1.natAbs)) (a.f1.natAbs / Nat.gcd b.f0.natAbs a.f1.natAbs * (b.f1.natAbs / Nat.gcd a.f0.natAbs b.f1.natAbs)))
  else (⟨0, 0⟩, 1)
theorem uY {n d : Int} (h : yU n d = true) : 1 ≤ d ∧ -9223372036854775808 < n ∧ Nat.gcd n.natAbs d.natAbs = 1 := by
  unfold yU at h
  simpa using h
theorem wrapD {d : Int} (h : I64 d) (h1 : 1 ≤ d) : IntKind.u64.wrap d = (d.natAbs : Int) := by
  have := h.2
  rw [IntKind.wrap_u64]
  omega
theorem oE {n : Int} (h : I64 n) : n.natAbs < 18446744073709551616 := by have := h.1; have := h.2; omega
theorem quo_lt {n g : Nat} (hn : n < 18446744073709551616) : n / g < 18446744073709551616 := Nat.lt_of_le_of_lt (Nat.div_le_self _ _) hn
theorem oA {a b : S30} (ha0 : I64 a.f0) (ha1 : I64 a.f1) (hb0 : I64 b.f0) (hb1 : I64 b.f1) :
    Ev (fun k => yA.f k a.f0 a.f1 b.f0 b.f1) ((sE a b).1.f0, (sE a b).1.f1, (sE a b).2) := by
  obtain ⟨k1, h1⟩ := vN ha0 ha1
  obtain ⟨k2, h2⟩ := vN hb0 hb1
  cases ra : yU a.f0 a.f1 with
  | false =>
    refine ⟨k1 + 1, fun k hk => ?_⟩
    obtain ⟨j, rfl⟩ : ∃ j, k = j + 1 := ⟨k - 1, by omega⟩
    have e : zO.f (j + 1) a.f0 a.f1 = some false := (h1 (j + 1) (by omega)).trans (by rw [ra])
    show yA.f (j + 1) a.f0 a.f1 b.f0 b.f1 = _
    unfold yA.f sE
    rw [e, ra]
    rfl
  | true =>
  cases rb : yU b.f0 b.f1 with
  | false =>
    refine ⟨k1 + k2 + 1, fun k hk => ?_⟩
    obtain ⟨j, rfl⟩ : ∃ j, k = j + 1 := ⟨k - 1, by omega⟩
    have e : zO.f (j + 1) a.f0 a.f1 = some true := (h1 (j + 1) (by omega)).trans (by rw [ra])
    have e2 : zO.f (j + 1) b.f0 b.f1 = some false := (h2 (j + 1) (by omega)).trans (by rw [rb])
    show yA.f (j + 1) a.f0 a.f1 b.f0 b.f1 = _
    unfold yA.f sE
    rw [e, ra, rb]
    simp only [Option.bind_some, if_true]
    rw [e2]
    rfl
  | true =>
    obtain ⟨oa1, _, _⟩ := uY ra
    obtain ⟨ob1, _, _⟩ := uY rb
    have la0 := oE ha0
    have la1 := oE ha1
    have lb0 := oE hb0
    have lb1 := oE hb1
    have g0 : 0 < Nat.gcd a.f0.natAbs b.f1.natAbs := Nat.gcd_pos_of_pos_right _ (by omega)
    have g1 : 0 < Nat.gcd b.f0.natAbs a.f1.natAbs := Nat.gcd_pos_of_pos_right _ (by omega)
    have p1 : 0 < a.f1.natAbs / Nat.gcd b.f0.natAbs a.f1.natAbs := Nat.div_pos (Nat.le_of_dvd (by omega) (Nat.gcd_dvd_right _ _)) g1
    have p2 : 0 < b.f1.natAbs / Nat.gcd a.f0.natAbs b.f1.natAbs := Nat.div_pos (Nat.le_of_dvd (by omega) (Nat.gcd_dvd_right _ _)) g0
    have p3 := Nat.mul_pos p1 p2
    obtain ⟨k3, h3⟩ := Ev_gcd (a := (a.f0.natAbs : Int)) (b := (b.f1.natAbs : Int)) (by omega) (by omega)
    obtain ⟨k4, h4⟩ := Ev_gcd (a := (b.f0.natAbs : Int)) (b := (a.f1.natAbs : Int)) (by omega) (by omega)
    have hq : ∀ {m g : Nat}, m < 18446744073709551616 → IntKind.u64.wrap (Int.tdiv (m : Int) (g : Int)) = ((m / g : Nat) : Int) := fun h => quoW h
    have M1 := tK (quo_lt (g := Nat.gcd a.f0.natAbs b.f1.natAbs) la0) (quo_lt (g := Nat.gcd b.f0.natAbs a.f1.natAbs) lb0)
    have M2 := tK (quo_lt (g := Nat.gcd b.f0.natAbs a.f1.natAbs) la1) (quo_lt (g := Nat.gcd a.f0.natAbs b.f1.natAbs) lb1)
    obtain ⟨k5, h5⟩ : ∃ k5, ∀ k, k5 ≤ k → a.f0.natAbs / Nat.gcd a.f0.natAbs b.f1.natAbs * (b.f0.natAbs / Nat.gcd b.f0.natAbs a.f1.natAbs) < 18446744073709551616 → a.f1.natAbs / Nat.gcd b.f0.natAbs a.f1.natAbs * (b.f1.natAbs / Nat.gcd a.f0.natAbs b.f1.natAbs) < 18446744073709551616 →
        yJ.f k (decide (a.f0 < 0) != decide (b.f0 < 0)) ((a.f0.natAbs / Nat.gcd a.f0.natAbs b.f1.natAbs * (b.f0.natAbs / Nat.gcd b.f0.natAbs a.f1.natAbs) : Nat) : Int) ((a.f1.natAbs / Nat.gcd b.f0.natAbs a.f1.natAbs * (b.f1.natAbs / Nat.gcd a.f0.natAbs b.f1.natAbs) : Nat) : Int) = some _ := by
      by_cases c1 : a.f0.natAbs / Nat.gcd a.f0.natAbs b.f1.natAbs * (b.f0.natAbs / Nat.gcd b.f0.natAbs a.f1.natAbs) < 18446744073709551616
      · by_cases c2 : a.f1.natAbs / Nat.gcd b.f0.natAbs a.f1.natAbs * (b.f1.natAbs / Nat.gcd a.f0.natAbs b.f1.natAbs) < 18446744073709551616
        · obtain ⟨K, h⟩ := Ev_made (decide (a.f0 < 0) != decide (b.f0 < 0)) c1 c2 (by have := Nat.gcd_pos_of_pos_right (a.f0.natAbs / Nat.gcd a.f0.natAbs b.f1.natAbs * (b.f0.natAbs / Nat.gcd b.f0.natAbs a.f1.natAbs)) p3; omega)
          exact ⟨K, fun k hk _ _ => h k hk⟩
        · exact ⟨0, fun _ _ _ h => absurd h c2⟩
      · exact ⟨0, fun _ _ h _ => absurd h c1⟩
    refine ⟨k1 + k2 + k3 + k4 + k5 + 1, fun k hk => ?_⟩
    obtain ⟨j, rfl⟩ : ∃ j, k = j + 1 := ⟨k - 1, by omega⟩
    have e : zO.f (j + 1) a.f0 a.f1 = some true := (h1 (j + 1) (by omega)).trans (by rw [ra])
    have e2 : zO.f (j + 1) b.f0 b.f1 = some true := (h2 (j + 1) (by omega)).trans (by rw [rb])
    have e3 : zE.f j (a.f0.natAbs : Int) (b.f1.natAbs : Int) = some _ := h3 j (by omega)
    have e4 : zE.f j (b.f0.natAbs : Int) (a.f1.natAbs : Int) = some _ := h4 j (by omega)
    rw [Int.toNat_natCast, Int.toNat_natCast] at e3 e4
    have h5j := h5 j (by omega)
    show yA.f (j + 1) a.f0 a.f1 b.f0 b.f1 = _
    unfold yA.f sE
    rw [e, ra, rb]
    simp only [Option.bind_some, if_true]
    rw [e2]
    simp only [Option.bind_some, yA.j0, Bool.not_true, Bool.false_eq_true, if_false]
    rw [sF ha0, sF hb0, wrapD ha1 oa1, wrapD hb1 ob1]
    simp only [Option.bind_some]
    rw [e3]
    simp only [Option.bind_some]
    rw [e4]
    simp only [Option.bind_some]
    rw [if_neg (by omega), if_neg (by omega), hq la0, hq lb0, hq la1, hq lb1, M1]
    simp only [Option.bind_some]
    rw [M2]
    simp only [Option.bind_some, and_self, if_true]
    generalize a.f0.natAbs / Nat.gcd a.f0.natAbs b.f1.natAbs * (b.f0.natAbs / Nat.gcd b.f0.natAbs a.f1.natAbs) = n at *
    generalize a.f1.natAbs / Nat.gcd b.f0.natAbs a.f1.natAbs * (b.f1.natAbs / Nat.gcd a.f0.natAbs b.f1.natAbs) = d at *
    by_cases c1 : 18446744073709551616 ≤ n
    · rw [if_pos (by omega), if_pos c1]
    rw [if_neg (by omega), if_neg c1]
    by_cases c2 : 18446744073709551616 ≤ d
    · rw [if_pos (by omega), if_pos c2]
    rw [if_neg (by omega), if_neg c2, Nat.mod_eq_of_lt (by omega), Nat.mod_eq_of_lt (by omega), h5j (by omega) (by omega)]
    rfl
def divQ (a b : S30) : S30 × Int :=
  if yU a.f0 a.f1 = true ∧ yU b.f0 b.f1 = true then
    (if b.f0 = 0 then (⟨0, 0⟩, 6) else if b.f0 < 0 then sE a ⟨-b.f1, -b.f0⟩ else sE a ⟨b.f1, b.f0⟩)
  else (⟨0, 0⟩, 1)
theorem Ev_ratDiv {a b : S30} (ha0 : I64 a.f0) (ha1 : I64 a.f1) (hb0 : I64 b.f0) (hb1 : I64 b.f1) :
    Ev (fun k => xQ.f k a.f0 a.f1 b.f0 b.f1) ((divQ a b).1.f0, (divQ a b).1.f1, (divQ a b).2) := by
  obtain ⟨k1, h1⟩ := vN ha0 ha1
  obtain ⟨k2, h2⟩ := vN hb0 hb1
  cases ra : yU a.f0 a.f1 with
  | false =>
    refine ⟨k1 + 1, fun k hk => ?_⟩
    obtain ⟨j, rfl⟩ : ∃ j, k = j + 1 := ⟨k - 1, by omega⟩
    have e : zO.f (j + 1) a.f0 a.f1 = some false := (h1 (j + 1) (by omega)).trans (by rw [ra])
    show xQ.f (j + 1) a.f0 a.f1 b.f0 b.f1 = _
    unfold xQ.f divQ
    rw [e, ra]
    rfl
  | true =>
  cases rb : yU b.f0 b.f1 with
  | false =>
    refine ⟨k1 + k2 + 1, fun k hk => ?_⟩
    obtain ⟨j, rfl⟩ : ∃ j, k = j + 1 := ⟨k - 1, by omega⟩
    have e : zO.f (j + 1) a.f0 a.f1 = some true := (h1 (j + 1) (by omega)).trans (by rw [ra])
    have e2 : zO.f (j + 1) b.f0 b.f1 = some false := (h2 (j + 1) (by omega)).trans (by rw [rb])
    show xQ.f (j + 1) a.f0 a.f1 b.f0 b.f1 = _
    unfold xQ.f divQ
    rw [e, ra, rb]
    simp only [Option.bind_some, if_true]
    rw [e2]
    rfl
  | true =>
    obtain ⟨ob1, ob0, _⟩ := uY rb
    have hb0' := hb0.2
    have hb1' := hb1.2
    have w1 : wrap64 (-b.f1) = -b.f1 := wr64 (by omega) (by omega)
    have w2 : wrap64 (-b.f0) = -b.f0 := wr64 (by omega) (by omega)
    obtain ⟨k3, h3⟩ := oA (b := ⟨-b.f1, -b.f0⟩) ha0 ha1 (show I64 (-b.f1) from ⟨by omega, by omega⟩) (show I64 (-b.f0) from ⟨by omega, by omega⟩)
    obtain ⟨k4, h4⟩ := oA (b := ⟨b.f1, b.f0⟩) ha0 ha1 hb1 hb0
    refine ⟨k1 + k2 + k3 + k4 + 1, fun k hk => ?_⟩
    obtain ⟨j, rfl⟩ : ∃ j, k = j + 1 := ⟨k - 1, by omega⟩
    have e : zO.f (j + 1) a.f0 a.f1 = some true := (h1 (j + 1) (by omega)).trans (by rw [ra])
    have e2 : zO.f (j + 1) b.f0 b.f1 = some true := (h2 (j + 1) (by omega)).trans (by rw [rb])
    have e3 : yA.f j a.f0 a.f1 (-b.f1) (-b.f0) = some _ := h3 j (by omega)
    have e4 : yA.f j a.f0 a.f1 b.f1 b.f0 = some _ := h4 j (by omega)
    show xQ.f (j + 1) a.f0 a.f1 b.f0 b.f1 = _
    unfold xQ.f divQ
    rw [e, ra, rb]
    simp only [Option.bind_some, if_true]
    rw [e2]
    simp only [Option.bind_some, xQ.j0, Bool.not_true, Bool.false_eq_true, if_false, and_self, if_true]
    rw [w1, w2, e3, e4]
    by_cases c1 : b.f0 = 0
    · rw [if_pos c1, if_pos c1]
    rw [if_neg c1, if_neg c1]
    by_cases c2 : b.f0 < 0
    · rw [if_pos c2, if_pos c2]; rfl
    · rw [if_neg c2, if_neg c2]; rfl
theorem qR {a b : S30} (h : (sE a b).2 = 0) : yU (sE a b).1.f0 (sE a b).1.f1 = true ∧ I64 (sE a b).1.f0 ∧ I64 (sE a b).1.f1 := by
  unfold sE at h ⊢
  by_cases c : yU a.f0 a.f1 = true ∧ yU b.f0 b.f1 = true
  · rw [if_pos c] at h ⊢
    obtain ⟨oa1, _, _⟩ := uY c.1
    obtain ⟨ob1, _, _⟩ := uY c.2
    have g0 : 0 < Nat.gcd a.f0.natAbs b.f1.natAbs := Nat.gcd_pos_of_pos_right _ (by omega)
    have g1 : 0 < Nat.gcd b.f0.natAbs a.f1.natAbs := Nat.gcd_pos_of_pos_right _ (by omega)
    have p1 : 0 < a.f1.natAbs / Nat.gcd b.f0.natAbs a.f1.natAbs := Nat.div_pos (Nat.le_of_dvd (by omega) (Nat.gcd_dvd_right _ _)) g1
    have p2 : 0 < b.f1.natAbs / Nat.gcd a.f0.natAbs b.f1.natAbs := Nat.div_pos (Nat.le_of_dvd (by omega) (Nat.gcd_dvd_right _ _)) g0
    have p3 := Nat.mul_pos p1 p2
    split at h
    · cases h
    split at h
    · cases h
    rename_i c1 c2
    rw [if_neg c1, if_neg c2]
    exact madeQ_right p3 h
  · rw [if_neg c] at h; cases h
theorem divQ_right {a b : S30} (h : (divQ a b).2 = 0) : yU (divQ a b).1.f0 (divQ a b).1.f1 = true ∧ I64 (divQ a b).1.f0 ∧ I64 (divQ a b).1.f1 := by
  unfold divQ at h ⊢
  split at h
  · rename_i c
    rw [if_pos c]
    split at h
    · cases h
    rename_i c1
    rw [if_neg c1]
    split at h
    · rename_i c2; rw [if_pos c2]; exact qR h
    · rename_i c2; rw [if_neg c2]; exact qR h
  · cases h
end Go.Proofs.Ytoonahobmlnflaa.PC
