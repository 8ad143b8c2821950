/- Texts of this claim, one behind the other. -/
import Derived.Test.YtoonahobmlnflaaVc12
import Derived.Test.YtoonahobmlnflaaVc6
set_option linter.unusedVariables false
set_option linter.unusedSimpArgs false
set_option maxRecDepth 100000
set_option maxHeartbeats 16000000
namespace Go.Proofs.Ytoonahobmlnflaa.PC
open Go.RowKit Go.Shelf A B C
theorem wrap_add_wrap' (x y : Int) : IntKind.u64.wrap (x + IntKind.u64.wrap y) = IntKind.u64.wrap (x + y) := by
  simp only [IntKind.wrap_u64]; rw [Int.add_emod_emod]
theorem wrap_sub_left (x y : Int) : IntKind.u64.wrap (IntKind.u64.wrap x - y) = IntKind.u64.wrap (x - y) := by
  rw [← uF, nX]
def vS (neg : Bool) (M g p q : Nat) : S30 × Int :=
  if Nat.gcd M g ≤ M / 18446744073709551616 then (⟨0, 0⟩, 3)
  else if M / Nat.gcd M g = 0 then (⟨0, 1⟩, 0)
  else if 18446744073709551616 ≤ p * (g / Nat.gcd M g) * q then (⟨0, 0⟩, 3)
  else pA neg (M / Nat.gcd M g) (p * (g / Nat.gcd M g) * q)
def sumX (a b : S30) : Int := a.f0 * ((b.f1.natAbs / Nat.gcd a.f1.natAbs b.f1.natAbs : Nat) : Int) + b.f0 * ((a.f1.natAbs / Nat.gcd a.f1.natAbs b.f1.natAbs : Nat) : Int)
def addQ (a b : S30) : S30 × Int :=
  if yU a.f0 a.f1 = true ∧ yU b.f0 b.f1 = true then
    vS (decide (sumX a b < 0)) (sumX a b).natAbs (Nat.gcd a.f1.natAbs b.f1.natAbs) (a.f1.natAbs / Nat.gcd a.f1.natAbs b.f1.natAbs) (b.f1.natAbs / Nat.gcd a.f1.natAbs b.f1.natAbs)
  else (⟨0, 0⟩, 1)
def subQ (a b : S30) : S30 × Int := if yU b.f0 b.f1 = true then addQ a ⟨-b.f0, b.f1⟩ else (⟨0, 0⟩, 1)
theorem Ev_Rem64 {hi lo y : Nat} (hy0 : 0 < y) (hy : y < 18446744073709551616) (hlo : lo < 18446744073709551616) : Ev (fun k => uA.f k (hi : Int) (lo : Int) (y : Int)) (((hi * 18446744073709551616 + lo) % y : Nat) : Int) := by
  have h := Ev_Div64 (hi := hi % y) hy (Nat.mod_lt _ hy0) hlo
  refine Ev.congr (f := fun k => (zU.f k ((hi % y : Nat) : Int) (lo : Int) (y : Int)).bind fun bt => some bt.2) (fun k => ?_) ?_
  · unfold uA.f
    rw [if_neg (by omega)]
    rfl
  · refine Ev.bind h ?_
    have e : (hi % y * 18446744073709551616 + lo) % y = (hi * 18446744073709551616 + lo) % y := by
      rw [Nat.add_mod, Nat.mul_mod, Nat.mod_mod, ← Nat.mul_mod, ← Nat.add_mod]
    rw [e]
    exact Ev.now _
theorem pR {M g : Nat} (hg : 0 < g) : 0 < Nat.gcd M g ∧ Nat.gcd M g ≤ g := ⟨Nat.gcd_pos_of_pos_right _ hg, Nat.le_of_dvd hg (Nat.gcd_dvd_right _ _)⟩
theorem Ev_j2 {hi lo g p q M : Nat} {neg : Bool} (eM : hi * 18446744073709551616 + lo = M) (hM : M / 18446744073709551616 = hi) (hhi : hi < 18446744073709551616) (hlo : lo < 18446744073709551616) (hg : 0 < g) (hg2 : g < 9223372036854775808) (hp : 0 < p) (hpg : p * g < 9223372036854775808) (hq : 0 < q) (hq2 : q < 9223372036854775808) :
    Ev (fun k => zP.j2 k (g : Int) (p : Int) (q : Int) (hi : Int) (lo : Int) neg) ((vS neg M g p q).1.f0, (vS neg M g p q).1.f1, (vS neg M g p q).2) := by
  refine Ev.step (fun k => by rw [zP.j2]) ?_
  have hr := Ev_Rem64 (hi := hi) hg (by omega) hlo
  have hD := fun c hc => Ev_Div64 (hi := hi) (lo := lo) (y := c) hc
  have hML : ∀ c, hi < c → (hi * 18446744073709551616 + lo) / c < 18446744073709551616 := fun c hc => by
    rw [Nat.div_lt_iff_lt_mul (by omega)]
    omega
  rw [eM] at hr
  simp only [eM] at hD hML
  clear eM
  refine Ev.bind hr ?_
  have hgc := Ev_gcd (a := ((M % g : Nat) : Int)) (b := (g : Int)) (by omega) (by omega)
  have egc : Nat.gcd ((M % g : Nat) : Int).toNat ((g : Nat) : Int).toNat = Nat.gcd M g := by
    rw [Int.toNat_natCast, Int.toNat_natCast, ← Nat.gcd_rec, Nat.gcd_comm]
  rw [egc] at hgc
  refine Ev.bind hgc ?_
  unfold vS
  rw [hM]
  obtain ⟨k0, k1⟩ := pR (M := M) hg
  have hdv := Nat.div_mul_cancel (Nat.gcd_dvd_right M g)
  have hMN := hML (Nat.gcd M g)
  have hDc := hD (Nat.gcd M g) (by omega)
  clear hD hML
  generalize Nat.gcd M g = c at *
  refine Ev.congr (f := fun k => zP.j3 k (g : Int) (p : Int) (q : Int) (hi : Int) (lo : Int) neg (c : Int) (decide (c ≤ hi))) (fun k => ?_) ?_
  · show (if (c : Int) = 0 then _ else _) = _
    rw [if_neg (by omega)]
    congr 1
    by_cases h : c ≤ hi
    · rw [decide_eq_true h, decide_eq_true (by omega)]
    · rw [decide_eq_false h, decide_eq_false (by omega)]
  refine Ev.step (fun k => by rw [zP.j3]) ?_
  by_cases h : c ≤ hi
  · rw [if_pos h]
    refine Ev.congr (fun k => if_pos (decide_eq_true h)) (Ev.now _)
  rw [if_neg h]
  have hd := hDc (by omega) hlo
  refine Ev.congr (fun k => if_neg (by simpa using h)) ?_
  refine Ev.bind hd ?_
  by_cases hz : M / c = 0
  · rw [if_pos hz]
    refine Ev.congr (fun k => if_pos (show ((M / c : Nat) : Int) = 0 by omega)) (Ev.now _)
  rw [if_neg hz]
  refine Ev.congr (fun k => if_neg (show ¬ ((M / c : Nat) : Int) = 0 by omega)) ?_
  refine Ev.congr (fun k => if_neg (show ¬ (c : Int) = 0 by omega)) ?_
  have hgc2 : 0 < g / c := by
    refine Nat.pos_of_ne_zero fun e => ?_
    rw [e] at hdv
    omega
  have hpq : p * (g / c) ≤ p * g := Nat.mul_le_mul_left _ (Nat.div_le_self _ _)
  have e1 : IntKind.u64.wrap (Int.tdiv (g : Int) (c : Int)) = ((g / c : Nat) : Int) := quoW (by omega)
  have e2 : IntKind.u64.wrap ((p : Int) * ((g / c : Nat) : Int)) = ((p * (g / c) : Nat) : Int) := by rw [← Int.natCast_mul, wU (by omega)]
  have eM := tK (x := p * (g / c)) (y := q) (by omega) (by omega)
  refine Ev.congr (f := fun k => if ((p * (g / c) * q / 18446744073709551616 : Nat) : Int) > 0 then some (0, 0, 3) else (yJ.f k neg ((M / c : Nat) : Int) ((p * (g / c) * q % 18446744073709551616 : Nat) : Int)).bind fun bt => some (bt.1, bt.2.1, bt.2.2)) (fun k => ?_) ?_
  · show (bits_Mul64.f (IntKind.u64.wrap ((p : Int) * IntKind.u64.wrap (Int.tdiv (g : Int) (c : Int)))) (q : Int)).bind _ = _
    rw [e1, e2, eM]
    rfl
  have hpos : 0 < p * (g / c) * q := Nat.mul_pos (Nat.mul_pos hp hgc2) hq
  generalize p * (g / c) * q = D at *
  by_cases hov : 18446744073709551616 ≤ D
  · rw [if_pos hov]
    refine Ev.congr (fun k => if_pos (by omega)) (Ev.now _)
  · rw [if_neg hov]
    refine Ev.congr (fun k => if_neg (by omega)) ?_
    rw [Nat.mod_eq_of_lt (by omega)]
    have hm := Ev_made neg (n := M / c) (d := D) (hMN (by omega)) (by omega) (by have := Nat.gcd_pos_of_pos_right (M / c) hpos; omega)
    refine Ev.bind hm ?_
    exact Ev.now _
theorem addFin_zero (n n' : Bool) (g p q : Nat) (hg : 0 < g) : vS n 0 g p q = vS n' 0 g p q := by
  unfold vS
  rw [Nat.gcd_zero_left, Nat.zero_div, Nat.zero_div, if_neg (by omega), if_pos rfl, if_neg (by omega), if_pos rfl]
theorem rat_sum_abs {X Y : Nat} {an bn : Int} {p q : Nat} (hX : X = an.natAbs * q) (hY : Y = bn.natAbs * p) :
    ((an < 0 ↔ bn < 0) → (an * (q : Int) + bn * (p : Int)).natAbs = X + Y ∧ (0 < X + Y → (an * (q : Int) + bn * (p : Int) < 0 ↔ an < 0))) ∧
    (¬(an < 0 ↔ bn < 0) → (Y ≤ X → (an * (q : Int) + bn * (p : Int)).natAbs = X - Y ∧ (Y < X → (an * (q : Int) + bn * (p : Int) < 0 ↔ an < 0))) ∧ (X ≤ Y → (an * (q : Int) + bn * (p : Int)).natAbs = Y - X ∧ (X < Y → (an * (q : Int) + bn * (p : Int) < 0 ↔ bn < 0)))) := by
  subst hX; subst hY
  have ea : an * (q : Int) = if an < 0 then -((an.natAbs * q : Nat) : Int) else ((an.natAbs * q : Nat) : Int) := by
    rw [Int.natCast_mul]
    split
    · rw [← Int.neg_mul]; congr 1; omega
    · congr 1; omega
  have eb : bn * (p : Int) = if bn < 0 then -((bn.natAbs * p : Nat) : Int) else ((bn.natAbs * p : Nat) : Int) := by
    rw [Int.natCast_mul]
    split
    · rw [← Int.neg_mul]; congr 1; omega
    · congr 1; omega
  rw [ea, eb]
  clear ea eb
  generalize an.natAbs * q = X
  generalize bn.natAbs * p = Y
  by_cases h1 : an < 0 <;> by_cases h2 : bn < 0
  · rw [if_pos h1, if_pos h2]
    exact ⟨fun _ => ⟨by omega, fun _ => ⟨fun _ => h1, fun _ => by omega⟩⟩, fun hs => absurd (iff_of_true h1 h2) hs⟩
  · rw [if_pos h1, if_neg h2]
    exact ⟨fun hs => absurd (hs.1 h1) h2, fun _ => ⟨fun _ => ⟨by omega, fun _ => ⟨fun _ => h1, fun _ => by omega⟩⟩, fun _ => ⟨by omega, fun _ => ⟨fun _ => by omega, fun h => absurd h h2⟩⟩⟩⟩
  · rw [if_neg h1, if_pos h2]
    exact ⟨fun hs => absurd (hs.2 h2) h1, fun _ => ⟨fun _ => ⟨by omega, fun _ => ⟨fun _ => by omega, fun h => absurd h h1⟩⟩, fun _ => ⟨by omega, fun _ => ⟨fun _ => h2, fun _ => by omega⟩⟩⟩⟩
  · rw [if_neg h1, if_neg h2]
    exact ⟨fun _ => ⟨by omega, fun _ => ⟨fun _ => by omega, fun h => absurd h h1⟩⟩, fun hs => absurd (iff_of_false h1 h2) hs⟩
theorem hl_add (X Y : Nat) : ((X % 18446744073709551616 + Y % 18446744073709551616 + 0) % 18446744073709551616) = (X + Y) % 18446744073709551616 ∧ X / 18446744073709551616 + (Y / 18446744073709551616 + (X % 18446744073709551616 + Y % 18446744073709551616 + 0) / 18446744073709551616) = (X + Y) / 18446744073709551616 := by omega
theorem hl_sub {X Y : Nat} (h : Y ≤ X) : (((X % 18446744073709551616 : Nat) : Int) - ((Y % 18446744073709551616 : Nat) : Int) - 0) % 18446744073709551616 = (((X - Y) % 18446744073709551616 : Nat) : Int) ∧ ((X / 18446744073709551616 : Nat) : Int) - (((Y / 18446744073709551616 : Nat) : Int) + (if ((X % 18446744073709551616 : Nat) : Int) < ((Y % 18446744073709551616 : Nat) : Int) + 0 then 1 else 0)) = (((X - Y) / 18446744073709551616 : Nat) : Int) := by
  refine ⟨by omega, ?_⟩
  split <;> omega
theorem hl_le (X Y : Nat) : (Y ≤ X) ↔ (Y / 18446744073709551616 < X / 18446744073709551616 ∨ (Y / 18446744073709551616 = X / 18446744073709551616 ∧ Y % 18446744073709551616 ≤ X % 18446744073709551616)) := by omega
theorem hl_self (M : Nat) : M / 18446744073709551616 * 18446744073709551616 + M % 18446744073709551616 = M := Nat.div_add_mod' M _
theorem hl_lt {M : Nat} (h : M < 340282366920938463463374607431768211456) : M / 18446744073709551616 < 18446744073709551616 := by omega
theorem hl_lo (M : Nat) : M % 18446744073709551616 < 18446744073709551616 := Nat.mod_lt M (by omega)
theorem mul63 {x y : Nat} (hx : x < 9223372036854775808) (hy : y < 9223372036854775808) : x * y < 85070591730234615865843651857942052864 := by
  have : x * y ≤ 9223372036854775807 * 9223372036854775807 := Nat.mul_le_mul (by omega) (by omega)
  omega
theorem abs63 {n d : Int} (h : I64 n) (hn : -9223372036854775808 < n) : n.natAbs < 9223372036854775808 := by have := h.2; omega
theorem Ev_j2M {g p q M : Nat} {neg : Bool} (hM : M < 340282366920938463463374607431768211456) (hg : 0 < g) (hg2 : g < 9223372036854775808) (hp : 0 < p) (hpg : p * g < 9223372036854775808) (hq : 0 < q) (hq2 : q < 9223372036854775808) :
    Ev (fun k => zP.j2 k (g : Int) (p : Int) (q : Int) ((M / 18446744073709551616 : Nat) : Int) ((M % 18446744073709551616 : Nat) : Int) neg) ((vS neg M g p q).1.f0, (vS neg M g p q).1.f1, (vS neg M g p q).2) :=
  Ev_j2 (hl_self M) rfl (hl_lt hM) (hl_lo M) hg hg2 hp hpg hq hq2
theorem Add64_f {x y : Nat} : bits_Add64.f (x : Int) (y : Int) 0 = some ((((x + y + 0) % 18446744073709551616 : Nat) : Int), (((x + y + 0) / 18446744073709551616 : Nat) : Int)) := by
  unfold bits_Add64.f
  rw [if_pos ⟨⟨by omega, by omega⟩, by omega, by omega⟩]
  rfl
theorem Sub64_f {x y : Nat} (hy : y < 18446744073709551616) : bits_Sub64.f (x : Int) (y : Int) 0 = some (((x : Int) - (y : Int) - 0) % 18446744073709551616, if (x : Int) < (y : Int) + 0 then 1 else 0) := by
  unfold bits_Sub64.f
  rw [if_pos ⟨⟨by omega, by omega, by omega⟩, by omega, by omega⟩]
theorem Ev_j1 {g p q X Y : Nat} {an : Bool} {bn bd : Int} (hX : X < 85070591730234615865843651857942052864) (hY : Y < 85070591730234615865843651857942052864) (hg : 0 < g) (hg2 : g < 9223372036854775808) (hp : 0 < p) (hpg : p * g < 9223372036854775808) (hq : 0 < q) (hq2 : q < 9223372036854775808) :
    Ev (fun k => zP.j1 k (g : Int) (p : Int) (q : Int) ((X / 18446744073709551616 : Nat) : Int) ((X % 18446744073709551616 : Nat) : Int) ((Y / 18446744073709551616 : Nat) : Int) ((Y % 18446744073709551616 : Nat) : Int) an (decide (Y ≤ X)) bn bd)
      ((vS (if Y ≤ X then an else decide (bn < 0)) (if Y ≤ X then X - Y else Y - X) g p q).1.f0, (vS (if Y ≤ X then an else decide (bn < 0)) (if Y ≤ X then X - Y else Y - X) g p q).1.f1, (vS (if Y ≤ X then an else decide (bn < 0)) (if Y ≤ X then X - Y else Y - X) g p q).2) := by
  refine Ev.step (fun k => by rw [zP.j1]) ?_
  by_cases h : Y ≤ X
  · rw [if_pos h, if_pos h]
    refine Ev.congr (fun k => if_pos (decide_eq_true h)) ?_
    obtain ⟨e1, e2⟩ := hl_sub h
    refine Ev.congr (fun k => ?_) (Ev_j2M (neg := an) (M := X - Y) (by omega) hg hg2 hp hpg hq hq2)
    rw [Sub64_f (hl_lo Y), Option.bind_some]
    simp only
    rw [e1, uF, e2, wU (Nat.lt_of_le_of_lt (Nat.div_le_div_right (Nat.sub_le X Y)) (hl_lt (by omega)))]
  · rw [if_neg h, if_neg h]
    refine Ev.congr (fun k => if_neg (by simpa using h)) ?_
    have h' : X ≤ Y := by omega
    obtain ⟨e1, e2⟩ := hl_sub h'
    refine Ev.congr (fun k => ?_) (Ev_j2M (neg := decide (bn < 0)) (M := Y - X) (by omega) hg hg2 hp hpg hq hq2)
    rw [Sub64_f (hl_lo X), Option.bind_some]
    simp only
    rw [e1]
    congr 1
    rw [← wU (Nat.lt_of_le_of_lt (Nat.div_le_div_right (Nat.sub_le Y X)) (hl_lt (by omega))), ← e2, wrap_sub_left, Int.sub_sub]
theorem Ev_j0 {a b : S30} (ha0 : I64 a.f0) (ha1 : I64 a.f1) (hb0 : I64 b.f0) (hb1 : I64 b.f1) (ra : yU a.f0 a.f1 = true) (rb : yU b.f0 b.f1 = true) :
    Ev (fun k => zP.j0 k false a.f0 a.f1 b.f0 b.f1) ((addQ a b).1.f0, (addQ a b).1.f1, (addQ a b).2) := by
  obtain ⟨oa1, oa2, _⟩ := uY ra
  obtain ⟨ob1, ob2, _⟩ := uY rb
  have la0 := abs63 (d := 0) ha0 oa2
  have lb0 := abs63 (d := 0) hb0 ob2
  have la1 := abs63 (d := 0) ha1 (by omega)
  have lb1 := abs63 (d := 0) hb1 (by omega)
  unfold addQ
  rw [if_pos ⟨ra, rb⟩]
  unfold sumX
  have hg : 0 < Nat.gcd a.f1.natAbs b.f1.natAbs := Nat.gcd_pos_of_pos_right _ (by omega)
  have dA := Nat.div_mul_cancel (Nat.gcd_dvd_left a.f1.natAbs b.f1.natAbs)
  have dB := Nat.div_mul_cancel (Nat.gcd_dvd_right a.f1.natAbs b.f1.natAbs)
  have hg2 : Nat.gcd a.f1.natAbs b.f1.natAbs ≤ a.f1.natAbs := Nat.le_of_dvd (by omega) (Nat.gcd_dvd_left _ _)
  have hp : 0 < a.f1.natAbs / Nat.gcd a.f1.natAbs b.f1.natAbs := Nat.pos_of_ne_zero fun e => by rw [e] at dA; omega
  have hq : 0 < b.f1.natAbs / Nat.gcd a.f1.natAbs b.f1.natAbs := Nat.pos_of_ne_zero fun e => by rw [e] at dB; omega
  have hp2 := Nat.div_le_self a.f1.natAbs (Nat.gcd a.f1.natAbs b.f1.natAbs)
  have hq2 := Nat.div_le_self b.f1.natAbs (Nat.gcd a.f1.natAbs b.f1.natAbs)
  have hgc := Ev_gcd (a := (a.f1.natAbs : Int)) (b := (b.f1.natAbs : Int)) (by omega) (by omega)
  rw [Int.toNat_natCast, Int.toNat_natCast] at hgc
  have q1 : IntKind.u64.wrap (Int.tdiv (a.f1.natAbs : Int) (Nat.gcd a.f1.natAbs b.f1.natAbs : Int)) = ((a.f1.natAbs / Nat.gcd a.f1.natAbs b.f1.natAbs : Nat) : Int) := quoW (by omega)
  have q2 : IntKind.u64.wrap (Int.tdiv (b.f1.natAbs : Int) (Nat.gcd a.f1.natAbs b.f1.natAbs : Int)) = ((b.f1.natAbs / Nat.gcd a.f1.natAbs b.f1.natAbs : Nat) : Int) := quoW (by omega)
  have wa := wrapD ha1 oa1
  have wb := wrapD hb1 ob1
  refine Ev.step (fun k => by rw [zP.j0]) ?_
  refine Ev.congr (fun k => if_neg (by decide)) ?_
  rw [wa, wb]
  refine Ev.bind hgc ?_
  rw [q1, q2]
  have hpg : a.f1.natAbs / Nat.gcd a.f1.natAbs b.f1.natAbs * Nat.gcd a.f1.natAbs b.f1.natAbs < 9223372036854775808 := by rw [dA]; exact la1
  clear dA dB hgc q1 q2 wa wb
  generalize Nat.gcd a.f1.natAbs b.f1.natAbs = g at *
  generalize a.f1.natAbs / g = p at *
  generalize b.f1.natAbs / g = q at *
  refine Ev.congr (fun k => if_neg (by omega)) ?_
  obtain ⟨X, hX⟩ : ∃ X, X = a.f0.natAbs * q := ⟨_, rfl⟩
  obtain ⟨Y, hY⟩ : ∃ Y, Y = b.f0.natAbs * p := ⟨_, rfl⟩
  have lX : X < 85070591730234615865843651857942052864 := by rw [hX]; exact mul63 la0 (by omega)
  have lY : Y < 85070591730234615865843651857942052864 := by rw [hY]; exact mul63 lb0 (by omega)
  have mX := tK (x := a.f0.natAbs) (y := q) (by omega) (by omega)
  have mY := tK (x := b.f0.natAbs) (y := p) (by omega) (by omega)
  rw [← hX] at mX
  rw [← hY] at mY
  obtain ⟨hS, hD⟩ := rat_sum_abs (an := a.f0) (bn := b.f0) hX hY
  have eA : zS.f a.f0 = some (a.f0.natAbs : Int) := sF ha0
  have eB : zS.f b.f0 = some (b.f0.natAbs : Int) := sF hb0
  rw [eA]
  simp only [Option.bind_some]
  rw [mX]
  simp only [Option.bind_some]
  rw [eB]
  simp only [Option.bind_some]
  rw [mY]
  simp only [Option.bind_some]
  clear mX mY eA eB
  by_cases hs : (a.f0 < 0 ↔ b.f0 < 0)
  · obtain ⟨s1, s2⟩ := hS hs
    have hb : (decide (a.f0 < 0) == decide (b.f0 < 0)) = true := by
      rw [beq_iff_eq]
      by_cases h : a.f0 < 0
      · rw [decide_eq_true h, decide_eq_true (hs.1 h)]
      · rw [decide_eq_false h, decide_eq_false (fun h2 => h (hs.2 h2))]
    refine Ev.congr (fun k => if_pos hb) ?_
    obtain ⟨e1, e2⟩ := hl_add X Y
    rw [s1]
    have en : vS (decide (a.f0 * (q : Int) + b.f0 * (p : Int) < 0)) (X + Y) g p q = vS (decide (a.f0 < 0)) (X + Y) g p q := by
      by_cases hz : X + Y = 0
      · rw [hz]; exact addFin_zero _ _ _ _ _ hg
      · have := s2 (by omega)
        by_cases h : a.f0 < 0
        · rw [decide_eq_true h, decide_eq_true (this.2 h)]
        · rw [decide_eq_false h, decide_eq_false (fun h2 => h (this.1 h2))]
    rw [en]
    refine Ev.congr (fun k => ?_) (Ev_j2M (neg := decide (a.f0 < 0)) (M := X + Y) (by omega) hg (by omega) hp hpg hq (by omega))
    rw [Add64_f, Option.bind_some]
    simp only
    rw [e1]
    congr 1
    rw [wrap_add_wrap', ← Int.natCast_add, ← Int.natCast_add, e2, wU (hl_lt (by omega))]
  · obtain ⟨s1, s2⟩ := hD hs
    have hb : ¬ (decide (a.f0 < 0) == decide (b.f0 < 0)) = true := by
      rw [beq_iff_eq]
      intro h
      apply hs
      by_cases h1 : a.f0 < 0
      · rw [decide_eq_true h1] at h; exact ⟨fun _ => of_decide_eq_true h.symm, fun _ => h1⟩
      · rw [decide_eq_false h1] at h; exact ⟨fun h2 => absurd h2 h1, fun h2 => absurd h2 (of_decide_eq_false h.symm)⟩
    refine Ev.congr (fun k => if_neg hb) ?_
    have en : vS (decide (a.f0 * (q : Int) + b.f0 * (p : Int) < 0)) (a.f0 * (q : Int) + b.f0 * (p : Int)).natAbs g p q = vS (if Y ≤ X then decide (a.f0 < 0) else decide (b.f0 < 0)) (if Y ≤ X then X - Y else Y - X) g p q := by
      by_cases h : Y ≤ X
      · rw [if_pos h, if_pos h, (s1 h).1]
        by_cases hz : X - Y = 0
        · rw [hz]; exact addFin_zero _ _ _ _ _ hg
        · have := (s1 h).2 (by omega)
          by_cases h : a.f0 < 0
          · rw [decide_eq_true h, decide_eq_true (this.2 h)]
          · rw [decide_eq_false h, decide_eq_false (fun h2 => h (this.1 h2))]
      · rw [if_neg h, if_neg h, (s2 (by omega)).1]
        have := (s2 (by omega)).2 (by omega)
        by_cases h : b.f0 < 0
        · rw [decide_eq_true h, decide_eq_true (this.2 h)]
        · rw [decide_eq_false h, decide_eq_false (fun h2 => h (this.1 h2))]
    rw [en]
    refine Ev.congr (fun k => ?_) (Ev_j1 (an := decide (a.f0 < 0)) (bn := b.f0) (bd := b.f1) lX lY hg (by omega) hp hpg hq (by omega))
    have hle := hl_le X Y
    by_cases h1 : Y / 18446744073709551616 < X / 18446744073709551616
    · rw [if_pos (by omega), decide_eq_true (hle.2 (.inl h1))]
    · rw [if_neg (by omega)]
      by_cases h2 : X / 18446744073709551616 = Y / 18446744073709551616
      · rw [if_pos (by omega)]
        congr 1
        by_cases h3 : Y % 18446744073709551616 ≤ X % 18446744073709551616
        · rw [decide_eq_true (by omega), decide_eq_true (hle.2 (.inr ⟨h2.symm, h3⟩))]
        · rw [decide_eq_false (by omega), decide_eq_false (fun h => h3 (by rcases hle.1 h with h | h <;> omega))]
      · rw [if_neg (by omega), decide_eq_false (p := Y ≤ X) (fun h => by rcases hle.1 h with h | h <;> omega)]
theorem Ev_ratAdd {a b : S30} (ha0 : I64 a.f0) (ha1 : I64 a.f1) (hb0 : I64 b.f0) (hb1 : I64 b.f1) :
    Ev (fun k => zP.f k a.f0 a.f1 b.f0 b.f1) ((addQ a b).1.f0, (addQ a b).1.f1, (addQ a b).2) := by
  have h1 := vN ha0 ha1
  have h2 := vN hb0 hb1
  have hno : Ev (fun k => zP.j0 k true a.f0 a.f1 b.f0 b.f1) (0, 0, 1) := Ev.step (fun k => by rw [zP.j0, if_pos rfl]) (Ev.now _)
  unfold zP.f
  refine Ev.bind h1 ?_
  cases ra : yU a.f0 a.f1 with
  | false =>
    have e : addQ a b = (⟨0, 0⟩, 1) := if_neg (fun h => by rw [ra] at h; cases h.1)
    rw [e]
    exact Ev.congr (fun k => if_neg (by decide)) hno
  | true =>
    refine Ev.congr (fun k => if_pos rfl) (Ev.bind h2 ?_)
    cases rb : yU b.f0 b.f1 with
    | false =>
      have e : addQ a b = (⟨0, 0⟩, 1) := if_neg (fun h => by rw [rb] at h; cases h.2)
      rw [e]
      exact hno
    | true => exact Ev_j0 ha0 ha1 hb0 hb1 ra rb
theorem rightQ_neg {n d : Int} (h : yU n d = true) (hn : I64 n) : yU (-n) d = true ∧ I64 (-n) := by
  obtain ⟨h1, h2, h3⟩ := uY h
  have := hn.2
  refine ⟨?_, ⟨by omega, by omega⟩⟩
  unfold yU
  rw [Int.natAbs_neg]
  simp only [decide_eq_true_eq]
  exact ⟨h1, by omega, h3⟩
theorem Ev_ratSub {a b : S30} (ha0 : I64 a.f0) (ha1 : I64 a.f1) (hb0 : I64 b.f0) (hb1 : I64 b.f1) :
    Ev (fun k => rat_Sub.f k a.f0 a.f1 b.f0 b.f1) ((subQ a b).1.f0, (subQ a b).1.f1, (subQ a b).2) := by
  have h2 := vN hb0 hb1
  unfold rat_Sub.f subQ
  refine Ev.bind h2 ?_
  cases rb : yU b.f0 b.f1 with
  | false => exact Ev.congr (fun k => if_neg (by decide)) (Ev.now _)
  | true =>
    obtain ⟨rn, hn⟩ := rightQ_neg rb hb0
    have w : wrap64 (-b.f0) = -b.f0 := wr64 hn.1 hn.2
    rw [w]
    refine Ev.congr (fun k => if_pos rfl) (Ev.bind (Ev_ratAdd (b := ⟨-b.f0, b.f1⟩) ha0 ha1 hn hb1) ?_)
    exact Ev.now _
theorem addFin_right {neg : Bool} {M g p q : Nat} (hg : 0 < g) (hp : 0 < p) (hq : 0 < q) (h : (vS neg M g p q).2 = 0) : yU (vS neg M g p q).1.f0 (vS neg M g p q).1.f1 = true ∧ I64 (vS neg M g p q).1.f0 ∧ I64 (vS neg M g p q).1.f1 := by
  unfold vS at h ⊢
  split at h
  · cases h
  · split at h
    · rename_i h1 h2
      rw [if_neg h1, if_pos h2]
      exact ⟨by decide, ⟨by decide, by decide⟩, ⟨by decide, by decide⟩⟩
    · split at h
      · cases h
      · rename_i h1 h2 h3
        rw [if_neg h1, if_neg h2, if_neg h3]
        refine madeQ_right (Nat.mul_pos (Nat.mul_pos hp ?_) hq) h
        exact Nat.div_pos (pR hg).2 (pR hg).1
theorem addQ_right {a b : S30} (h : (addQ a b).2 = 0) : yU (addQ a b).1.f0 (addQ a b).1.f1 = true ∧ I64 (addQ a b).1.f0 ∧ I64 (addQ a b).1.f1 := by
  unfold addQ at h ⊢
  split at h
  · rename_i hc
    rw [if_pos hc]
    obtain ⟨oa1, oa2, _⟩ := uY hc.1
    obtain ⟨ob1, ob2, _⟩ := uY hc.2
    have hg : 0 < Nat.gcd a.f1.natAbs b.f1.natAbs := Nat.gcd_pos_of_pos_right _ (by omega)
    exact addFin_right hg (Nat.div_pos (Nat.le_of_dvd (by omega) (Nat.gcd_dvd_left _ _)) hg) (Nat.div_pos (Nat.le_of_dvd (by omega) (Nat.gcd_dvd_right _ _)) hg) h
  · cases h
theorem subQ_right {a b : S30} (h : (subQ a b).2 = 0) : yU (subQ a b).1.f0 (subQ a b).1.f1 = true ∧ I64 (subQ a b).1.f0 ∧ I64 (subQ a b).1.f1 := by
  unfold subQ at h ⊢
  split at h
  · rename_i hc
    rw [if_pos hc]
    exact addQ_right h
  · cases h
def powL (a : S30) : Nat → S30 → S30 × Int
  | 0, p => (p, 0)
  | n + 1, p => if (sE p a).2 = 0 then powL a n (sE p a).1 else (⟨0, 0⟩, (sE p a).2)
def powQ (a : S30) (n : Int) : S30 × Int :=
  if yU a.f0 a.f1 = true ∧ -64 ≤ n ∧ n ≤ 64 then
    (if n < 0 then (if (divQ ⟨1, 1⟩ a).2 = 0 then powL (divQ ⟨1, 1⟩ a).1 (-n).toNat ⟨1, 1⟩ else (⟨0, 0⟩, (divQ ⟨1, 1⟩ a).2)) else powL a n.toNat ⟨1, 1⟩)
  else (⟨0, 0⟩, 1)
theorem Ev_powL {a : S30} (ha0 : I64 a.f0) (ha1 : I64 a.f1) (N : Nat) (hN : N ≤ 64) : ∀ (m i : Nat) (p : S30), i + m = N → I64 p.f0 → I64 p.f1 → Ev (fun k => zH.l0 k (N : Int) (i : Int) a.f0 a.f1 p.f0 p.f1) ((powL a m p).1.f0, (powL a m p).1.f1, (powL a m p).2) := by
  intro m
  induction m with
  | zero =>
    intro i p hi _ _
    refine ⟨1, fun k hk => ?_⟩
    obtain ⟨j, rfl⟩ : ∃ j, k = j + 1 := ⟨k - 1, by omega⟩
    show zH.l0 (j + 1) (N : Int) (i : Int) a.f0 a.f1 p.f0 p.f1 = _
    simp only [zH.l0]
    rw [if_neg (by omega)]
    rfl
  | succ m ih =>
    intro i p hi hp0 hp1
    obtain ⟨k1, h1⟩ := oA (a := p) (b := a) hp0 hp1 ha0 ha1
    by_cases hz : (sE p a).2 = 0
    · obtain ⟨_, q0, q1⟩ := qR hz
      obtain ⟨k2, h2⟩ := ih (i + 1) (sE p a).1 (by omega) q0 q1
      refine ⟨k1 + k2 + 1, fun k hk => ?_⟩
      obtain ⟨j, rfl⟩ : ∃ j, k = j + 1 := ⟨k - 1, by omega⟩
      have e1 : yA.f j p.f0 p.f1 a.f0 a.f1 = some _ := h1 j (by omega)
      have e2 : zH.l0 j (N : Int) ((i + 1 : Nat) : Int) a.f0 a.f1 _ _ = some _ := h2 j (by omega)
      show zH.l0 (j + 1) (N : Int) (i : Int) a.f0 a.f1 p.f0 p.f1 = _
      simp only [zH.l0]
      rw [if_pos (by omega), e1]
      simp only [Option.bind_some]
      have w : wrap64 ((i : Int) + 1) = ((i + 1 : Nat) : Int) := by rw [wr64 (by omega) (by omega)]; rfl
      rw [if_pos hz, w, e2, show powL a (m + 1) p = powL a m (sE p a).1 from if_pos hz]
    · refine ⟨k1 + 1, fun k hk => ?_⟩
      obtain ⟨j, rfl⟩ : ∃ j, k = j + 1 := ⟨k - 1, by omega⟩
      have e1 : yA.f j p.f0 p.f1 a.f0 a.f1 = some _ := h1 j (by omega)
      show zH.l0 (j + 1) (N : Int) (i : Int) a.f0 a.f1 p.f0 p.f1 = _
      simp only [zH.l0]
      rw [if_pos (by omega), e1]
      simp only [Option.bind_some]
      rw [if_neg hz]
      unfold powL
      rw [if_neg hz]
theorem oB : I64 (1 : Int) := ⟨by decide, by decide⟩
theorem Ev_powUp {a : S30} (ha0 : I64 a.f0) (ha1 : I64 a.f1) (hr : yU a.f0 a.f1 = true) (n : Nat) (hn : n ≤ 64) : Ev (fun k => zH.f k a.f0 a.f1 (n : Int)) ((powL a n ⟨1, 1⟩).1.f0, (powL a n ⟨1, 1⟩).1.f1, (powL a n ⟨1, 1⟩).2) := by
  obtain ⟨k1, h1⟩ := vN ha0 ha1
  obtain ⟨k2, h2⟩ := Ev_powL ha0 ha1 n hn n 0 ⟨1, 1⟩ (by omega) oB oB
  refine ⟨k1 + k2 + 2, fun k hk => ?_⟩
  obtain ⟨j, rfl⟩ : ∃ j, k = j + 2 := ⟨k - 2, by omega⟩
  have e1 : zO.f (j + 1) a.f0 a.f1 = some true := (h1 (j + 1) (by omega)).trans (by rw [hr])
  have e2 : zH.l0 j (n : Int) 0 a.f0 a.f1 1 1 = some _ := h2 j (by omega)
  show zH.f (j + 2) a.f0 a.f1 (n : Int) = _
  simp only [zH.f]
  rw [e1]
  simp only [Option.bind_some, if_true]
  rw [if_neg (by omega), decide_eq_false (by omega)]
  simp only [zH.j0, Bool.false_eq_true, if_false]
  rw [if_neg (by omega), e2]
theorem Ev_ratPow {a : S30} (ha0 : I64 a.f0) (ha1 : I64 a.f1) (n : Int) : Ev (fun k => zH.f k a.f0 a.f1 n) ((powQ a n).1.f0, (powQ a n).1.f1, (powQ a n).2) := by
  obtain ⟨k1, h1⟩ := vN ha0 ha1
  cases hr : yU a.f0 a.f1 with
  | false =>
    refine ⟨k1 + 2, fun k hk => ?_⟩
    obtain ⟨j, rfl⟩ : ∃ j, k = j + 2 := ⟨k - 2, by omega⟩
    have e1 : zO.f (j + 1) a.f0 a.f1 = some false := (h1 (j + 1) (by omega)).trans (by rw [hr])
    show zH.f (j + 2) a.f0 a.f1 n = _
    simp only [zH.f]
    unfold powQ
    rw [e1, hr]
    rfl
  | true =>
  by_cases c1 : n < -64
  · refine ⟨k1 + 2, fun k hk => ?_⟩
    obtain ⟨j, rfl⟩ : ∃ j, k = j + 2 := ⟨k - 2, by omega⟩
    have e1 : zO.f (j + 1) a.f0 a.f1 = some true := (h1 (j + 1) (by omega)).trans (by rw [hr])
    show zH.f (j + 2) a.f0 a.f1 n = _
    simp only [zH.f]
    unfold powQ
    rw [e1, hr]
    simp only [Option.bind_some, if_true]
    rw [if_pos c1, if_neg (by omega)]
    rfl
  by_cases c2 : n > 64
  · refine ⟨k1 + 2, fun k hk => ?_⟩
    obtain ⟨j, rfl⟩ : ∃ j, k = j + 2 := ⟨k - 2, by omega⟩
    have e1 : zO.f (j + 1) a.f0 a.f1 = some true := (h1 (j + 1) (by omega)).trans (by rw [hr])
    show zH.f (j + 2) a.f0 a.f1 n = _
    simp only [zH.f]
    unfold powQ
    rw [e1, hr]
    simp only [Option.bind_some, if_true]
    rw [if_neg c1, decide_eq_true c2, if_neg (by omega)]
    rfl
  by_cases c3 : n < 0
  · obtain ⟨k2, h2⟩ := Ev_ratDiv (a := ⟨1, 1⟩) (b := a) oB oB ha0 ha1
    by_cases hz : (divQ ⟨1, 1⟩ a).2 = 0
    · obtain ⟨qr, q0, q1⟩ := divQ_right hz
      obtain ⟨k3, h3⟩ := Ev_powUp q0 q1 qr (-n).toNat (by omega)
      refine ⟨k1 + k2 + k3 + 2, fun k hk => ?_⟩
      obtain ⟨j, rfl⟩ : ∃ j, k = j + 2 := ⟨k - 2, by omega⟩
      have e1 : zO.f (j + 1) a.f0 a.f1 = some true := (h1 (j + 1) (by omega)).trans (by rw [hr])
      have e2 : xQ.f j 1 1 a.f0 a.f1 = some _ := h2 j (by omega)
      have e3 : zH.f j _ _ (((-n).toNat : Nat) : Int) = some _ := h3 j (by omega)
      show zH.f (j + 2) a.f0 a.f1 n = _
      rw [show zH.f (j + 2) a.f0 a.f1 n = (zO.f (j + 1) a.f0 a.f1).bind fun t318 => (if t318 = true then (if n < (-64) then (zH.j0 (j + 1) n true a.f0 a.f1 1 1) else (zH.j0 (j + 1) n (decide (n > 64)) a.f0 a.f1 1 1)) else (zH.j0 (j + 1) n true a.f0 a.f1 1 1)) from rfl]
      unfold powQ
      rw [e1]
      simp only [Option.bind_some, if_true]
      rw [if_neg c1, decide_eq_false c2, if_pos ⟨hr, by omega, by omega⟩, if_pos c3, if_pos hz]
      rw [show zH.j0 (j + 1) n false a.f0 a.f1 1 1 = (if n < 0 then ((xQ.f j 1 1 a.f0 a.f1).bind fun bt319 => (if bt319.2.2 = 0 then ((zH.f j bt319.1 bt319.2.1 (wrap64 (-n))).bind fun bt323 => (some (bt323.1, bt323.2.1, bt323.2.2))) else (some (0, 0, bt319.2.2)))) else (zH.l0 j n 0 a.f0 a.f1 1 1)) from rfl]
      rw [if_pos c3, e2]
      simp only [Option.bind_some]
      have w : wrap64 (-n) = (((-n).toNat : Nat) : Int) := by rw [wr64 (by omega) (by omega)]; omega
      rw [if_pos hz, w, e3]
      rfl
    · refine ⟨k1 + k2 + 2, fun k hk => ?_⟩
      obtain ⟨j, rfl⟩ : ∃ j, k = j + 2 := ⟨k - 2, by omega⟩
      have e1 : zO.f (j + 1) a.f0 a.f1 = some true := (h1 (j + 1) (by omega)).trans (by rw [hr])
      have e2 : xQ.f j 1 1 a.f0 a.f1 = some _ := h2 j (by omega)
      show zH.f (j + 2) a.f0 a.f1 n = _
      rw [show zH.f (j + 2) a.f0 a.f1 n = (zO.f (j + 1) a.f0 a.f1).bind fun t318 => (if t318 = true then (if n < (-64) then (zH.j0 (j + 1) n true a.f0 a.f1 1 1) else (zH.j0 (j + 1) n (decide (n > 64)) a.f0 a.f1 1 1)) else (zH.j0 (j + 1) n true a.f0 a.f1 1 1)) from rfl]
      unfold powQ
      rw [e1]
      simp only [Option.bind_some, if_true]
      rw [if_neg c1, decide_eq_false c2, if_pos ⟨hr, by omega, by omega⟩, if_pos c3, if_neg hz]
      rw [show zH.j0 (j + 1) n false a.f0 a.f1 1 1 = (if n < 0 then ((xQ.f j 1 1 a.f0 a.f1).bind fun bt319 => (if bt319.2.2 = 0 then ((zH.f j bt319.1 bt319.2.1 (wrap64 (-n))).bind fun bt323 => (some (bt323.1, bt323.2.1, bt323.2.2))) else (some (0, 0, bt319.2.2)))) else (zH.l0 j n 0 a.f0 a.f1 1 1)) from rfl]
      rw [if_pos c3, e2]
      simp only [Option.bind_some]
      rw [if_neg hz]
  · obtain ⟨k2, h2⟩ := Ev_powUp ha0 ha1 hr n.toNat (by omega)
    rw [Int.toNat_of_nonneg (by omega)] at h2
    refine ⟨k2, fun k hk => ?_⟩
    unfold powQ
    rw [if_pos ⟨hr, by omega, by omega⟩, if_neg c3]
    exact h2 k hk
theorem nR {a : S30} : ∀ (n : Nat) (p : S30), yU p.f0 p.f1 = true ∧ I64 p.f0 ∧ I64 p.f1 → (powL a n p).2 = 0 → yU (powL a n p).1.f0 (powL a n p).1.f1 = true ∧ I64 (powL a n p).1.f0 ∧ I64 (powL a n p).1.f1
  | 0, p, hp, _ => hp
  | n + 1, p, hp, h => by
    unfold powL at h ⊢
    by_cases hz : (sE p a).2 = 0
    · rw [if_pos hz] at h ⊢
      exact nR n _ (qR hz) h
    · rw [if_neg hz] at h; exact absurd h hz
theorem powQ_right {a : S30} {n : Int} (h : (powQ a n).2 = 0) : yU (powQ a n).1.f0 (powQ a n).1.f1 = true ∧ I64 (powQ a n).1.f0 ∧ I64 (powQ a n).1.f1 := by
  have h1 : yU (1 : Int) 1 = true ∧ I64 (1 : Int) ∧ I64 (1 : Int) := ⟨by decide, oB, oB⟩
  unfold powQ at h ⊢
  split at h
  · rename_i c
    rw [if_pos c]
    split at h
    · rename_i c1
      rw [if_pos c1]
      split at h
      · rename_i c2; rw [if_pos c2]; exact nR _ _ h1 h
      · rename_i c2; exact absurd h c2
    · rename_i c1; rw [if_neg c1]; exact nR _ _ h1 h
  · cases h
end Go.Proofs.Ytoonahobmlnflaa.PC
namespace Go.Proofs.Ytoonahobmlnflaa.PC
open Go.RowKit Go.Shelf A B C
structure xH where
  add : S30 → S30 → S30 × Int
  sub : S30 → S30 → S30 × Int
  pow : S30 → Int → S30 × Int
def okQ (r : S30 × Int) : S30 × Bool := (r.1, r.2 == 0)
def eqQ (x : S30) (n : Int) : Bool := x.f0 == n && x.f1 == 1
def foldQ (R : xH) (kind : Int) (x y : S30) (n : Int) : S30 × Bool :=
  if kind = 3 then okQ (R.add x y) else if kind = 4 then okQ (R.sub x y) else if kind = 5 then okQ (sE x y) else if kind = 6 then okQ (divQ x y)
  else if kind = 7 then okQ (R.sub ⟨0, 1⟩ x) else if kind = 8 then okQ (R.pow x n) else if kind = 9 then (x, eqQ x 0 || eqQ x 1)
  else if kind = 10 ∨ kind = 13 then (⟨1, 1⟩, eqQ x 0) else if kind = 11 then (⟨0, 1⟩, eqQ x 1) else (⟨0, 1⟩, eqQ x 0)
def tM (R : xH) (g : PG) (kind a b n : Int) : S30 × Bool :=
  if (rT g.L a).f0 ≠ 1 ∨ (zI kind = 2 ∧ (rT g.L b).f0 ≠ 1) then (⟨0, 0⟩, false) else foldQ R kind (rT g.L a).f4 (rT g.L b).f4 n
def wF (kind a b n : Int) : S37 := ⟨kind, a, if zI kind = 2 then b else 0, n, z30, z32, z35⟩
def neg7 (R : xH) (g : PG) (a : Int) : PG × Int :=
  if g.xD then (g, 0) else if (tM R g 7 a a 0).2 then wJ g (vP (tM R g 7 a a 0).1)
  else if (rT g.L a).f0 = 7 ∧ 0 ≤ (rT g.L a).f1 then (g, (rT g.L a).f1) else wJ g (wF 7 a a 0)
def wP (R : xH) (g : PG) (a b : Int) : PG × Int :=
  if isN g a 1 then (g, b) else if isN g b 1 then (g, a)
  else if (isN g a 0 && zJ false g.T b) || (isN g b 0 && zJ false g.T a) then wJ g (vP ⟨0, 1⟩)
  else if isN g a (-1) then neg7 R g b else if isN g b (-1) then neg7 R g a else (g, -1)
def yR (R : xH) (g : PG) (kind a b n : Int) : PG × Int :=
  if kind = 3 then (if isN g a 0 then (g, b) else if isN g b 0 then (g, a) else (g, -1))
  else if kind = 4 then (if isN g b 0 then (g, a) else if isN g a 0 then neg7 R g b else if a = b ∧ zJ false g.T a = true then wJ g (vP ⟨0, 1⟩) else (g, -1))
  else if kind = 5 then wP R g a b
  else if kind = 6 then (if isN g b 1 then (g, a) else (g, -1))
  else if kind = 7 then (if (rT g.L a).f0 = 7 then (g, (rT g.L a).f1) else (g, -1))
  else if kind = 8 then (if n = 1 then (g, a) else if n = 0 ∧ zJ false g.T a = true then wJ g (vP ⟨1, 1⟩) else (g, -1))
  else (g, -1)
def tT (R : xH) (g : PG) (kind a b n : Int) : PG × Int :=
  if g.xD then (g, 0) else if (tM R g kind a b n).2 then wJ g (vP (tM R g kind a b n).1)
  else if 0 ≤ (yR R g kind a b n).2 then yR R g kind a b n else wJ (yR R g kind a b n).1 (wF kind a b n)
end Go.Proofs.Ytoonahobmlnflaa.PC
namespace Go.Proofs.Ytoonahobmlnflaa.PC
open Go.RowKit Go.Shelf A B C
def xU (k : S32) : S37 := ⟨2, 0, 0, 0, z30, k, z35⟩
def nodeT : S37 := ⟨15, 0, 0, 0, z30, z32, z35⟩
def uQ (R : xH) (g : PG) (tv : List Int) (x : S37) : PG × Int :=
  if x.f0 = 1 then wJ g (vP x.f4) else if x.f0 = 2 then wJ g (xU x.f5) else if x.f0 = 15 then wJ g nodeT
  else if zI x.f0 = 1 then tT R g x.f0 (rd tv x.f1) (rd tv x.f1) (if x.f0 = 8 then x.f3 else 0)
  else tT R g x.f0 (rd tv x.f1) (rd tv x.f2) 0
def xT (R : xH) (nodes : List S37) (use : List Bool) : Nat → PG × List Int
  | 0 => (⟨[], [], false⟩, List.replicate nodes.length 0)
  | k + 1 => if zJ false use (k : Int) = true then
      ((uQ R (xT R nodes use k).1 (xT R nodes use k).2 (rT nodes (k : Int))).1, (xT R nodes use k).2.set k (uQ R (xT R nodes use k).1 (xT R nodes use k).2 (rT nodes (k : Int))).2)
    else xT R nodes use k
def builtG (R : xH) (nodes : List S37) (roots : List Int) : PG × List Int := xT R nodes (yH nodes roots) nodes.length
def atL (roots tv : List Int) : List Int := roots.map (rd tv)
def renN (tv : List Int) (x : S37) : S37 := if 0 < zI x.f0 then { x with f1 := rd tv x.f1, f2 := if 1 < zI x.f0 then rd tv x.f2 else x.f2 } else x
def tC (nodes : List S37) (use : List Bool) : Nat → List S37 × List Int
  | 0 => ([], List.replicate nodes.length 0)
  | k + 1 => if zJ false use (k : Int) = true then ((tC nodes use k).1 ++ [renN (tC nodes use k).2 (rT nodes (k : Int))], (tC nodes use k).2.set k ((tC nodes use k).1.length : Int)) else tC nodes use k
def wO (nodes : List S37) (roots : List Int) : List S37 × List Int := tC nodes (yH nodes roots) nodes.length
def xA (R : xH) (nodes : List S37) (roots : List Int) : List S37 × List Int :=
  let b := builtG R nodes roots
  let r := atL roots b.2
  let c := wO b.1.L r
  (c.1, atL r c.2)
theorem vD {L : List S37} {i : Nat} (h : i < L.length) : rT L (i : Int) = L[i] := by
  simp [rT, List.getD_eq_getElem?_getD, List.getElem?_eq_getElem h]
theorem tI {L s : List S37} {i : Int} (h0 : 0 ≤ i) (h1 : i < (L.length : Int)) : rT (L ++ s) i = rT L i := by
  unfold rT
  rw [List.getD_eq_getElem?_getD, List.getD_eq_getElem?_getD, List.getElem?_append_left (by omega)]
theorem rdO_app {α : Type} (d : α) {L s : List α} {i : Int} (h0 : 0 ≤ i) (h1 : i < (L.length : Int)) : zJ d (L ++ s) i = zJ d L i := by
  unfold zJ
  rw [List.getD_eq_getElem?_getD, List.getD_eq_getElem?_getD, List.getElem?_append_left (by omega)]
theorem qU {L : List S37} {x : S37} : rT (L ++ [x]) (L.length : Int) = x := by
  simp [rT, List.getD_eq_getElem?_getD]
theorem rdO_last {α : Type} (d : α) {L : List α} {x : α} {n : Nat} (h : L.length = n) : zJ d (L ++ [x]) (n : Int) = x := by
  subst h; simp [zJ, List.getD_eq_getElem?_getD]
def isC (x : S37) (n : Int) : Bool := x.f0 == 1 && (x.f4.f0 == n && x.f4.f1 == 1)
def foldX (R : xH) (kind : Int) (x y : S37) (n : Int) : S30 × Bool := if x.f0 ≠ 1 ∨ (zI kind = 2 ∧ y.f0 ≠ 1) then (⟨0, 0⟩, false) else foldQ R kind x.f4 y.f4 n
structure Stab (R : xH) (kind n : Int) (x y : S37) (tx ty e : Bool) : Prop where
  fold : (foldX R kind x y n).2 = false
  k3 : kind = 3 → isC x 0 = false ∧ isC y 0 = false
  k4 : kind = 4 → isC y 0 = false ∧ isC x 0 = false ∧ (e && tx) = false
  k5 : kind = 5 → isC x 1 = false ∧ isC y 1 = false ∧ (isC x 0 && ty) = false ∧ (isC y 0 && tx) = false ∧ isC x (-1) = false ∧ isC y (-1) = false
  k6 : kind = 6 → isC y 1 = false
  k7 : kind = 7 → x.f0 ≠ 7
  k8 : kind = 8 → n ≠ 1 ∧ (n = 0 → tx = false)
def sO (q : S30) : Prop := yU q.f0 q.f1 = true ∧ I64 q.f0 ∧ I64 q.f1
structure tR (R : xH) : Prop where
  add : ∀ x y, (R.add x y).2 = 0 → sO (R.add x y).1
  sub : ∀ x y, (R.sub x y).2 = 0 → sO (R.sub x y).1
  mul : ∀ x y, (sE x y).2 = 0 → sO (sE x y).1
  div : ∀ x y, (divQ x y).2 = 0 → sO (divQ x y).1
  pow : ∀ x n, (R.pow x n).2 = 0 → sO (R.pow x n).1
theorem qB {n : Int} (h0 : -9223372036854775808 < n) (h1 : n ≤ 9223372036854775807) : sO ⟨n, 1⟩ := by
  refine ⟨?_, ⟨by show _ ≤ n; omega, h1⟩, ⟨by show (_ : Int) ≤ 1; omega, by show (1 : Int) ≤ _; omega⟩⟩
  unfold yU
  simp
  exact h0
theorem foldQ_ok {R : xH} (hR : tR R) {kind : Int} {x y : S30} {n : Int} (hx : sO x) (h : (foldQ R kind x y n).2 = true) : sO (foldQ R kind x y n).1 := by
  have z : sO ⟨0, 1⟩ := qB (by omega) (by omega)
  have o : sO ⟨1, 1⟩ := qB (by omega) (by omega)
  unfold foldQ okQ at h ⊢
  repeat' split
  all_goals simp_all [hR.add, hR.sub, hR.mul, hR.div, hR.pow]
theorem neg7_cases {R : xH} (hR : tR R) {g : PG} {a : Int} (hl : g.xD = false) (hn : (rT g.L a).f0 = 1 → sO (rT g.L a).f4) (h7 : (rT g.L a).f0 = 7 → 0 ≤ (rT g.L a).f1) (tx ty e : Bool) :
    (∃ q, sO q ∧ neg7 R g a = wJ g (vP q)) ∨ ((rT g.L a).f0 = 7 ∧ neg7 R g a = (g, (rT g.L a).f1)) ∨ (Stab R 7 0 (rT g.L a) (rT g.L a) tx ty e ∧ neg7 R g a = wJ g (wF 7 a a 0)) := by
  unfold neg7
  rw [if_neg (by rw [hl]; decide)]
  cases hf : (tM R g 7 a a 0).2 with
  | true =>
    left
    rw [if_pos rfl]
    refine ⟨_, ?_, rfl⟩
    unfold tM at hf ⊢
    split at hf
    · cases hf
    · rename_i hc
      rw [if_neg hc]
      exact foldQ_ok hR (hn (Classical.byContradiction fun e => hc (.inl e))) hf
  | false =>
    right
    rw [if_neg (by decide)]
    by_cases hk : (rT g.L a).f0 = 7
    · rw [if_pos ⟨hk, h7 hk⟩]; exact .inl ⟨hk, rfl⟩
    · rw [if_neg (fun h => hk h.1)]
      exact .inr ⟨⟨hf, by omega, by omega, by omega, by omega, fun _ => hk, by omega⟩, rfl⟩
theorem sX (g : PG) (x : S37) : 0 ≤ (wJ g x).2 := by
  unfold wJ
  split
  · exact Int.natCast_nonneg _
  · split
    · exact Int.le_refl _
    · exact Int.natCast_nonneg _
inductive pQ (R : xH) (g : PG) (kind a b n : Int) : PG × Int → Prop
  | num (q : S30) (h : sO q) : pQ R g kind a b n (wJ g (vP q))
  | old (c : Int) (h : c = a ∨ c = b) : pQ R g kind a b n (g, c)
  | unneg (c : Int) (h : c = a ∨ c = b) (h7 : (rT g.L c).f0 = 7) : pQ R g kind a b n (g, (rT g.L c).f1)
  | neg (c : Int) (h : c = a ∨ c = b) (hs : Stab R 7 0 (rT g.L c) (rT g.L c) (zJ false g.T c) (zJ false g.T c) true) : pQ R g kind a b n (wJ g (wF 7 c c 0))
  | node (hs : Stab R kind n (rT g.L a) (rT g.L b) (zJ false g.T a) (zJ false g.T b) (a == b)) : pQ R g kind a b n (wJ g (wF kind a b n))
theorem neg7_by {R : xH} (hR : tR R) {g : PG} {kind a b n c : Int} (hc : c = a ∨ c = b) (hl : g.xD = false) (hn : (rT g.L c).f0 = 1 → sO (rT g.L c).f4) (h7 : (rT g.L c).f0 = 7 → 0 ≤ (rT g.L c).f1) : pQ R g kind a b n (neg7 R g c) ∧ 0 ≤ (neg7 R g c).2 := by
  rcases neg7_cases hR hl hn h7 (zJ false g.T c) (zJ false g.T c) true with ⟨q, hq, e⟩ | ⟨hk, e⟩ | ⟨hs, e⟩
  · rw [e]; exact ⟨.num q hq, sX _ _⟩
  · rw [e]; exact ⟨.unneg c hc hk, h7 hk⟩
  · rw [e]; exact ⟨.neg c hc hs, sX _ _⟩
def finG (g : PG) (kind a b n : Int) (r : PG × Int) : PG × Int := if 0 ≤ r.2 then r else wJ r.1 (wF kind a b n)
theorem vM {g : PG} {kind a b n : Int} {r : PG × Int} (h : 0 ≤ r.2) : finG g kind a b n r = r := if_pos h
theorem rM {g : PG} {kind a b n : Int} : finG g kind a b n (g, -1) = wJ g (wF kind a b n) := if_neg (show ¬(0 : Int) ≤ -1 by decide)
theorem makeG_fin {R : xH} {g : PG} {kind a b n : Int} (hl : g.xD = false) (hf : (tM R g kind a b n).2 = false) : tT R g kind a b n = finG g kind a b n (yR R g kind a b n) := by
  unfold tT finG
  rw [if_neg (by rw [hl]; decide), if_neg (by rw [hf]; decide)]
theorem make_by {R : xH} (hR : tR R) {g : PG} {kind a b n : Int} (hl : g.xD = false) (ha : 0 ≤ a) (hb : 0 ≤ b) (hn : ∀ c, c = a ∨ c = b → (rT g.L c).f0 = 1 → sO (rT g.L c).f4) (h7 : ∀ c, c = a ∨ c = b → (rT g.L c).f0 = 7 → 0 ≤ (rT g.L c).f1) :
    pQ R g kind a b n (tT R g kind a b n) := by
  cases hf : (tM R g kind a b n).2 with
  | true =>
    unfold tT
    rw [if_neg (by rw [hl]; decide), if_pos hf]
    refine .num _ ?_
    unfold tM at hf ⊢
    split at hf
    · cases hf
    · rename_i hc
      rw [if_neg hc]
      exact foldQ_ok hR (hn a (.inl rfl) (Classical.byContradiction fun e => hc (.inl e))) hf
  | false =>
  have hx : (foldX R kind (rT g.L a) (rT g.L b) n).2 = false := hf
  have z : sO ⟨0, 1⟩ := qB (by omega) (by omega)
  have o : sO ⟨1, 1⟩ := qB (by omega) (by omega)
  have n1 := neg7_by (kind := kind) (n := n) hR (.inl rfl : a = a ∨ a = b) hl (hn a (.inl rfl)) (h7 a (.inl rfl))
  have n2 := neg7_by (kind := kind) (n := n) hR (.inr rfl : b = a ∨ b = b) hl (hn b (.inr rfl)) (h7 b (.inr rfl))
  rw [makeG_fin hl hf]
  have olda : pQ R g kind a b n (g, a) := .old a (.inl rfl)
  have oldb : pQ R g kind a b n (g, b) := .old b (.inr rfl)
  unfold yR
  by_cases k3 : kind = 3
  · subst k3
    rw [if_pos rfl]
    cases h1 : isN g a 0 with
    | true => rw [if_pos rfl, vM hb]; exact oldb
    | false =>
    cases h2 : isN g b 0 with
    | true => rw [if_neg (by decide), if_pos rfl, vM ha]; exact olda
    | false =>
    rw [if_neg (by decide), if_neg (by decide), rM]
    exact .node ⟨hx, fun _ => ⟨h1, h2⟩, by omega, by omega, by omega, by omega, by omega⟩
  rw [if_neg k3]
  by_cases k4 : kind = 4
  · subst k4
    rw [if_pos rfl]
    cases h1 : isN g b 0 with
    | true => rw [if_pos rfl, vM ha]; exact olda
    | false =>
    cases h2 : isN g a 0 with
    | true => rw [if_neg (by decide), if_pos rfl, vM n2.2]; exact n2.1
    | false =>
    rw [if_neg (by decide), if_neg (by decide)]
    by_cases h3 : a = b ∧ zJ false g.T a = true
    · rw [if_pos h3, vM (sX _ _)]; exact .num _ z
    · rw [if_neg h3, rM]
      refine .node ⟨hx, by omega, fun _ => ⟨h1, h2, ?_⟩, by omega, by omega, by omega, by omega⟩
      by_cases h4 : a = b
      · have : zJ false g.T a = false := by simpa using fun h => h3 ⟨h4, h⟩
        rw [this, Bool.and_false]
      · rw [beq_eq_false_iff_ne.2 h4]; rfl
  rw [if_neg k4]
  by_cases k5 : kind = 5
  · subst k5
    rw [if_pos rfl]
    unfold wP
    cases h1 : isN g a 1 with
    | true => rw [if_pos rfl, vM hb]; exact oldb
    | false =>
    cases h2 : isN g b 1 with
    | true => rw [if_neg (by decide), if_pos rfl, vM ha]; exact olda
    | false =>
    rw [if_neg (by decide), if_neg (by decide)]
    cases h3 : (isN g a 0 && zJ false g.T b) with
    | true => rw [if_pos (by rfl), vM (sX _ _)]; exact .num _ z
    | false =>
    cases h4 : (isN g b 0 && zJ false g.T a) with
    | true => rw [if_pos (by rfl), vM (sX _ _)]; exact .num _ z
    | false =>
    rw [if_neg (by decide)]
    cases h5 : isN g a (-1) with
    | true => rw [if_pos rfl, vM n2.2]; exact n2.1
    | false =>
    cases h6 : isN g b (-1) with
    | true => rw [if_neg (by decide), if_pos rfl, vM n1.2]; exact n1.1
    | false =>
    rw [if_neg (by decide), if_neg (by decide), rM]
    exact .node ⟨hx, by omega, by omega, fun _ => ⟨h1, h2, h3, h4, h5, h6⟩, by omega, by omega, by omega⟩
  rw [if_neg k5]
  by_cases k6 : kind = 6
  · subst k6
    rw [if_pos rfl]
    cases h1 : isN g b 1 with
    | true => rw [if_pos rfl, vM ha]; exact olda
    | false =>
    rw [if_neg (by decide), rM]
    exact .node ⟨hx, by omega, by omega, by omega, fun _ => h1, by omega, by omega⟩
  rw [if_neg k6]
  by_cases k7 : kind = 7
  · subst k7
    rw [if_pos rfl]
    by_cases h1 : (rT g.L a).f0 = 7
    · rw [if_pos h1, vM (h7 a (.inl rfl) h1)]; exact .unneg a (.inl rfl) h1
    · rw [if_neg h1, rM]
      exact .node ⟨hx, by omega, by omega, by omega, by omega, fun _ => h1, by omega⟩
  rw [if_neg k7]
  by_cases k8 : kind = 8
  · subst k8
    rw [if_pos rfl]
    by_cases h1 : n = 1
    · rw [if_pos h1, vM ha]; exact olda
    rw [if_neg h1]
    by_cases h2 : n = 0 ∧ zJ false g.T a = true
    · rw [if_pos h2, vM (sX _ _)]; exact .num _ o
    · rw [if_neg h2, rM]
      exact .node ⟨hx, by omega, by omega, by omega, by omega, by omega, fun _ => ⟨h1, fun h => by simpa using fun ht => h2 ⟨h, ht⟩⟩⟩
  rw [if_neg k8, rM]
  exact .node ⟨hx, by omega, by omega, by omega, by omega, by omega, by omega⟩
theorem make_stab {R : xH} {g : PG} {kind a b n : Int} (hl : g.xD = false) (h : Stab R kind n (rT g.L a) (rT g.L b) (zJ false g.T a) (zJ false g.T b) (a == b)) : tT R g kind a b n = wJ g (wF kind a b n) := by
  have hf : (tM R g kind a b n).2 = false := h.fold
  rw [makeG_fin hl hf]
  have hs : yR R g kind a b n = (g, -1) := by
    unfold yR
    by_cases k3 : kind = 3
    · rw [if_pos k3, if_neg (by rw [show isN g a 0 = false from (h.k3 k3).1]; decide), if_neg (by rw [show isN g b 0 = false from (h.k3 k3).2]; decide)]
    rw [if_neg k3]
    by_cases k4 : kind = 4
    · obtain ⟨h1, h2, h3⟩ := h.k4 k4
      rw [if_pos k4, if_neg (by rw [show isN g b 0 = false from h1]; decide), if_neg (by rw [show isN g a 0 = false from h2]; decide), if_neg]
      rintro ⟨e, ht⟩
      rw [beq_iff_eq.2 e, ht] at h3
      cases h3
    rw [if_neg k4]
    by_cases k5 : kind = 5
    · obtain ⟨h1, h2, h3, h4, h5, h6⟩ := h.k5 k5
      rw [if_pos k5]
      unfold wP
      rw [if_neg (by rw [show isN g a 1 = false from h1]; decide), if_neg (by rw [show isN g b 1 = false from h2]; decide), if_neg (by rw [show (isN g a 0 && zJ false g.T b) = false from h3, show (isN g b 0 && zJ false g.T a) = false from h4]; decide), if_neg (by rw [show isN g a (-1) = false from h5]; decide), if_neg (by rw [show isN g b (-1) = false from h6]; decide)]
    rw [if_neg k5]
    by_cases k6 : kind = 6
    · rw [if_pos k6, if_neg (by rw [show isN g b 1 = false from h.k6 k6]; decide)]
    rw [if_neg k6]
    by_cases k7 : kind = 7
    · rw [if_pos k7, if_neg (h.k7 k7)]
    rw [if_neg k7]
    by_cases k8 : kind = 8
    · rw [if_pos k8, if_neg (h.k8 k8).1, if_neg]
      rintro ⟨e, ht⟩
      rw [(h.k8 k8).2 e] at ht
      cases ht
    rw [if_neg k8]
  rw [hs, rM]
end Go.Proofs.Ytoonahobmlnflaa.PC
namespace Go.Proofs.Ytoonahobmlnflaa.PC
open Go.RowKit Go.Shelf A B C
def yN : xH := ⟨addQ, subQ, powQ⟩
theorem qG : tR yN := ⟨fun _ _ h => addQ_right h, fun _ _ h => subQ_right h, fun _ _ h => qR h, fun _ _ h => divQ_right h, fun _ _ h => powQ_right h⟩
def ansQ (r : S30 × Int) : Value := .tuple #[.agg #[.int .i64 r.1.f0, .int .i64 r.1.f1], .int .i64 r.2]
abbrev aggQ (q : S30) : Value := .agg #[.int .i64 q.f0, .int .i64 q.f1]
def I64q (q : S30) : Prop := I64 q.f0 ∧ I64 q.f1
theorem add103 {a b : S30} (ha : I64q a) (hb : I64q b) (w : World) : Calls Try.prog 103 #[aggQ a, aggQ b] w fun e w' => e = .returned (ansQ (addQ a b)) ∧ Below w.heap.size w w' := by
  obtain ⟨k, h⟩ := (Ev_ratAdd ha.1 ha.2 hb.1 hb.2).rounds
  exact zP.calls k _ _ _ _ _ _ _ w h
theorem sub104 {a b : S30} (ha : I64q a) (hb : I64q b) (w : World) : Calls Try.prog 104 #[aggQ a, aggQ b] w fun e w' => e = .returned (ansQ (subQ a b)) ∧ Below w.heap.size w w' := by
  obtain ⟨k, h⟩ := (Ev_ratSub ha.1 ha.2 hb.1 hb.2).rounds
  exact rat_Sub.calls k _ _ _ _ _ _ _ w h
theorem mul105 {a b : S30} (ha : I64q a) (hb : I64q b) (w : World) : Calls Try.prog 105 #[aggQ a, aggQ b] w fun e w' => e = .returned (ansQ (sE a b)) ∧ Below w.heap.size w w' := by
  obtain ⟨k, h⟩ := (oA ha.1 ha.2 hb.1 hb.2).rounds
  exact yA.calls k _ _ _ _ _ _ _ w h
theorem div99 {a b : S30} (ha : I64q a) (hb : I64q b) (w : World) : Calls Try.prog 99 #[aggQ a, aggQ b] w fun e w' => e = .returned (ansQ (divQ a b)) ∧ Below w.heap.size w w' := by
  obtain ⟨k, h⟩ := (Ev_ratDiv ha.1 ha.2 hb.1 hb.2).rounds
  exact xQ.calls k _ _ _ _ _ _ _ w h
theorem pow107 {a : S30} (ha : I64q a) (n : Int) (w : World) : Calls Try.prog 107 #[aggQ a, .int .i64 n] w fun e w' => e = .returned (ansQ (powQ a n)) ∧ Below w.heap.size w w' := by
  obtain ⟨k, h⟩ := (Ev_ratPow ha.1 ha.2 n).rounds
  exact zH.calls k _ _ _ _ _ _ w h
end Go.Proofs.Ytoonahobmlnflaa.PC
namespace Go.Proofs.Ytoonahobmlnflaa.PC
open Go.RowKit Go.Shelf A B C
section
variable {a : Act} {w W : World} {ops : Array Oper} {oi : Oper} {N : Option Tmp} {K : Act → World → Prop} {Q : Exit → Act → World → Prop}
theorem nU {o : Oper} {p : Operand} {g off : Nat} {x : S37} (hop : o.op = .load 37 p) (hg : o.guard = none) (hp : a.eval p = .pointer (some ⟨g, off, none⟩)) (hc : ∀ (j : Nat) v, (wY x)[j]? = some v → W.cell? ⟨g, off + j, none⟩ = some v) :
    (execOp a.eval o).run Try.prog W = .ok (.value (.agg (zC x))) W := by
  rw [rV hop, hg]
  exact oD (cs := wY x) hp (by kernel_rfl) (by kernel_rfl) (fun j v hv => by rw [add_off]; exact hc j v hv)
theorem run_alloc37 (d : Option Tmp) (ty : TypeId) (pos : String) (after : Array Edge) (e : Operand → Value) (W : World) : (execOp e ⟨d, .alloc 37, ty, pos, after, none⟩).run Try.prog W = .ok (.value (.pointer (some ⟨W.heap.size, 0, none⟩))) (W.alloc (.cells (zC z37) 37)) := by kernel_rfl
theorem exec_alloc37 {o : Oper} (hop : o.op = .alloc 37) (hg : o.guard = none) : (execOp a.eval o).run Try.prog W = .ok (.value (.pointer (some ⟨W.heap.size, 0, none⟩))) (W.alloc (.cells (zC z37) 37)) := by
  rw [rV hop, hg]; exact run_alloc37 _ _ _ _ _ _
theorem alloc37_ (ho : oi.op = .alloc 37) (hg : oi.guard = none) (hw : Region.wanted oi (yielded ops a.tmps) = true) (hN : oi.dst = N)
    (h : ∀ g W', g = W.heap.size → W'.heap[g]? = some (.cells (zC z37) 37 (0, 0)) → Below W.heap.size W W' → K (a.put N (.pointer (some ⟨g, 0, none⟩))) W') :
    if Region.wanted oi (yielded ops a.tmps) = true then Oper.wp Try.prog oi a W K Q else K (a.put N undef) W :=
  sH hw hN (exec_alloc37 ho hg) (h _ _ rfl (blk_new W _) (zY (Below.refl _ _) _))
theorem store37_ {p v : Operand} {g : Nat} {cur : Array Value} {x : S37} (ho : oi.op = .store 37 p v) (hg : oi.guard = none) (hw : Region.wanted oi (yielded ops a.tmps) = true) (hN : oi.dst = none) (hp : a.eval p = .pointer (some ⟨g, 0, none⟩)) (hv : a.eval v = .agg (zC x)) (hx : W.heap[g]? = some (.cells cur 37 (0, 0))) (hs : cur.size = 22)
    (h : ∀ W', W'.heap[g]? = some (.cells (zC x) 37 (0, 0)) → rJ g W W' → K a W') :
    if Region.wanted oi (yielded ops a.tmps) = true then Oper.wp Try.prog oi a W K Q else K (a.put none undef) W := by
  refine sZ hw hN (w1 := W.setRow g (cur.toList.take 0 ++ (zC x).toList ++ cur.toList.drop (0 + (zC x).size)).toArray) ?_ ?_
  · rw [rV ho, hg]
    exact rW hp hv hx (by kernel_rfl) (by rw [xX]; omega) (by kernel_rfl)
  · have e : (cur.toList.take 0 ++ (zC x).toList ++ cur.toList.drop (0 + (zC x).size)).toArray = zC x := by
      rw [List.drop_eq_nil_of_le (by rw [xX, Array.length_toList]; omega)]
      simp
    rw [e]
    exact h _ (setRow_heap W g cur _ 37 (0, 0) hx) (rO W g _)
abbrev numA (q : S30) : Array Value := #[.int .i64 q.f0, .int .i64 q.f1]
theorem rQ {p v : Operand} {g : Nat} {cur : Array Value} {q : S30} (ho : oi.op = .store 30 p v) (hg : oi.guard = none) (hw : Region.wanted oi (yielded ops a.tmps) = true) (hN : oi.dst = none) (hp : a.eval p = .pointer (some ⟨g, 0, none⟩)) (hv : a.eval v = aggQ q) (hx : W.heap[g]? = some (.cells cur 30 (0, 0))) (hs : cur.size = 2)
    (h : ∀ W', W'.heap[g]? = some (.cells (numA q) 30 (0, 0)) → rJ g W W' → K a W') :
    if Region.wanted oi (yielded ops a.tmps) = true then Oper.wp Try.prog oi a W K Q else K (a.put none undef) W := by
  refine sZ hw hN (w1 := W.setRow g (cur.toList.take 0 ++ (numA q).toList ++ cur.toList.drop (0 + (numA q).size)).toArray) ?_ ?_
  · rw [rV ho, hg]
    exact rW hp hv hx (by kernel_rfl) (by show 0 + 2 ≤ _; omega) (by kernel_rfl)
  · have e : (cur.toList.take 0 ++ (numA q).toList ++ cur.toList.drop (0 + (numA q).size)).toArray = numA q := by
      rw [List.drop_eq_nil_of_le (by rw [Array.length_toList]; show _ ≤ 0 + 2; omega)]
      simp
    rw [e]
    exact h _ (setRow_heap W g cur _ 30 (0, 0) hx) (rO W g _)
theorem wQ {w w' : World} (h : yW w w') : Below w.heap.size w w' := by
  obtain ⟨n, rfl⟩ := h.out
  exact bdN (Below.refl _ _) n
theorem xN {rest : List Oper} {d : Option Tmp} {ty t : TypeId} {pos : String} {after : Array Edge} {v : Operand} {P : Program} (p : Tmp) (h : wpList P ops Q (⟨d, .store t (.tmp p) v, ty, pos, after, none⟩ :: rest) a W) : wpList P ops Q (⟨d, .store t (.tmp p) v, ty, pos, after, none⟩ :: rest) a W := h
theorem wT {rest : List Oper} {ty : TypeId} {pos : String} {after : Array Edge} {p v : Tmp} {g : Nat} {cur : Array Value} {q : S30} (hp : a.eval (.tmp p) = .pointer (some ⟨g, 0, none⟩)) (hv : a.eval (.tmp v) = aggQ q) (hx : W.heap[g]? = some (.cells cur 30 (0, 0))) (hs : cur.size = 2)
    (h : ∀ W', W'.heap[g]? = some (.cells (numA q) 30 (0, 0)) → rJ g W W' → wpList Try.prog ops Q rest a W') : wpList Try.prog ops Q (⟨none, .store 30 (.tmp p) (.tmp v), ty, pos, after, none⟩ :: rest) a W :=
  uR (t0 := 30) (c' := numA q) (cur' := numA q) hp hv hx (by kernel_rfl) (by show 0 + 2 ≤ _; omega) (by kernel_rfl) (by rw [List.drop_eq_nil_of_le (by rw [Array.length_toList]; show _ ≤ 0 + 2; omega)]; simp) h
end
end Go.Proofs.Ytoonahobmlnflaa.PC
