import Derived.Test.YtamloclgignfgaaPAx0
import Derived.Shelf.Abstract
namespace Go.Proofs.Ytamloclgignfgaa.PA
open Go.RowKit Go.Proofs.YtamloclgignfgaaW.PrintWords Go.Proofs.YtamloclgignfgaaW.PrintLast Go.Proofs.YtamloclgignfgaaW.PrintMore
set_option linter.unusedVariables false
set_option linter.unusedSimpArgs false

/-- An edge that may not be. -/
def badE (a b : Int) (e : S40) : Bool :=
  if e.f0 < 0 then true else if e.f0 ≥ a then true else if e.f1 < 0 then true else if e.f1 ≥ b then true else if e.f2 < 0 then true else decide (e.f2 > 100)

/-- An edge's value. -/
def vE (e : S40) : Value := .agg #[.int .i64 e.f0, .int .i64 e.f1, .int .i64 e.f2]

set_option maxHeartbeats 4000000 in
set_option maxRecDepth 100000 in
theorem clo35 (a b : Int) (e : S40) (B1 B2 : Addr) (w : World) (h1 : w.cell? B1 = some (.int .i64 a)) (h2 : w.cell? B2 = some (.int .i64 b)) :
    Calls Try.prog 35 #[.agg #[.int .i64 e.f0, .int .i64 e.f1, .int .i64 e.f2], .pointer (some B1), .pointer (some B2)] w fun r w' => r = .returned (.bool (badE a b e)) ∧ Below w.heap.size w w' := by
  have hu40 := Try.underlying40
  have g1 : ∀ o, (w.alloc o).cell? B1 = some (.int .i64 a) := fun o => (World.cell?_alloc_lt w o B1 (World.block_lt_of_cell? w B1 h1)).trans h1
  have g2 : ∀ o, (w.alloc o).cell? B2 = some (.int .i64 b) := fun o => (World.cell?_alloc_lt w o B2 (World.block_lt_of_cell? w B2 h2)).trans h2
  clear h1 h2
  have hb : ∀ o, Below w.heap.size w (w.alloc o) := fun o => below_alloc (Below.refl _ _) o
  have HB := Aside0.mk hb
  clear hb
  generalize hx : badE a b e = r
  unfold badE at hx
  have H := Aside0.mk hx
  clear hx
  go_enter Try.func35, Try.ntmps35
  by_cases c1 : e.f0 < 0
  · have d1 : decide (e.f0 < 0) = true := decide_eq_true c1
    have hr : true = r := by have := H.out; rw [if_pos c1] at this; exact this
    subst hr; clear c1 H
    go_wp2
    go_ret
    exact ⟨rfl, HB.out _⟩
  have d1 : decide (e.f0 < 0) = false := decide_eq_false c1
  replace H := Aside0.mk (by have := H.out; rw [if_neg c1] at this; exact this)
  clear c1
  by_cases c1 : e.f0 ≥ a
  · have d2 : decide (a ≤ e.f0) = true := decide_eq_true c1
    have hr : true = r := by have := H.out; rw [if_pos c1] at this; exact this
    subst hr; clear c1 H
    go_wp2
    go_ret
    exact ⟨rfl, HB.out _⟩
  have d2 : decide (a ≤ e.f0) = false := decide_eq_false c1
  replace H := Aside0.mk (by have := H.out; rw [if_neg c1] at this; exact this)
  clear c1
  by_cases c1 : e.f1 < 0
  · have d3 : decide (e.f1 < 0) = true := decide_eq_true c1
    have hr : true = r := by have := H.out; rw [if_pos c1] at this; exact this
    subst hr; clear c1 H
    go_wp2
    go_ret
    exact ⟨rfl, HB.out _⟩
  have d3 : decide (e.f1 < 0) = false := decide_eq_false c1
  replace H := Aside0.mk (by have := H.out; rw [if_neg c1] at this; exact this)
  clear c1
  by_cases c1 : e.f1 ≥ b
  · have d4 : decide (b ≤ e.f1) = true := decide_eq_true c1
    have hr : true = r := by have := H.out; rw [if_pos c1] at this; exact this
    subst hr; clear c1 H
    go_wp2
    go_ret
    exact ⟨rfl, HB.out _⟩
  have d4 : decide (b ≤ e.f1) = false := decide_eq_false c1
  replace H := Aside0.mk (by have := H.out; rw [if_neg c1] at this; exact this)
  clear c1
  by_cases c1 : e.f2 < 0
  · have d5 : decide (e.f2 < 0) = true := decide_eq_true c1
    have hr : true = r := by have := H.out; rw [if_pos c1] at this; exact this
    subst hr; clear c1 H
    go_wp2
    go_ret
    exact ⟨rfl, HB.out _⟩
  have d5 : decide (e.f2 < 0) = false := decide_eq_false c1
  replace H := Aside0.mk (by have := H.out; rw [if_neg c1] at this; exact this)
  clear c1
  by_cases c1 : e.f2 > 100
  · have d6 : decide (100 < e.f2) = true := decide_eq_true c1
    have hr : true = r := by have := H.out; rw [decide_eq_true c1] at this; exact this
    subst hr; clear c1 H
    go_wp2
    go_ret
    exact ⟨rfl, HB.out _⟩
  have d6 : decide (100 < e.f2) = false := decide_eq_false c1
  have hr : false = r := by have := H.out; rw [decide_eq_false c1] at this; exact this
  subst hr; clear c1 H
  go_wp2
  go_ret
  exact ⟨rfl, HB.out _⟩
/-- What is asked of a predicate on edges: it may make blocks of its own. -/
def PredE (g : Nat) (cap : Array Value) (p : S40 → Bool) (w : World) : Prop :=
  ∀ (W : World) (x : S40), Below w.heap.size w W → Calls Try.prog g (#[.agg #[.int .i64 x.f0, .int .i64 x.f1, .int .i64 x.f2]] ++ cap) W fun e w' => e = .returned (.bool (p x)) ∧ Below W.heap.size W w'

/-- Where the first element of which p holds stands; -1: none. -/
def idxE (p : S40 → Bool) : List S40 → Int → Int
  | [], _ => -1
  | e :: l, i => if p e then i else idxE p l (i + 1)

theorem idxE_ge (p : S40 → Bool) (l : List S40) : ∀ i : Int, 0 ≤ i → decide (0 ≤ idxE p l i) = l.any p := by
  induction l with
  | nil => intro i _; simp [idxE]
  | cons e l ih =>
    intro i hi
    simp only [idxE, List.any_cons]
    by_cases hp : p e = true
    · simp [hp, hi]
    · have hf : p e = false := by simpa using hp
      simpa [hf] using ih (i + 1) (by omega)

theorem idxE_le (p : S40 → Bool) (l : List S40) : ∀ i : Int, 0 ≤ i → idxE p l i ≤ i + l.length ∧ -1 ≤ idxE p l i := by
  induction l with
  | nil => intro i hi; simp [idxE]; omega
  | cons e l ih =>
    intro i hi
    simp only [idxE, List.length_cons]
    split
    · constructor <;> omega
    · have := ih (i + 1) (by omega); constructor <;> omega

set_option maxHeartbeats 4000000 in
set_option maxRecDepth 100000 in
theorem idx42 (g : Nat) (cap : Array Value) (p : S40 → Bool) (eg : ∀ args w, (callFunc g args).run Try.prog w = .ok (.enter g args) w) (A : Option Addr) (c : Nat) (l : List S40) (w : World)
    (hr : Kd.C k40 w A l.length l) (hc : l.length ≤ c) (hp : PredE g cap p w) :
    Calls Try.prog 42 #[.slice A l.length c, .func (.func g) #[] cap] w fun e w' => e = .returned (.int .i64 (idxE p l 0)) ∧ Below w.heap.size w w' := by
  have hu40 := Try.underlying40
  have hm : l.length ≤ 9223372036854775807 := hr.2.1
  have HR := Aside0.mk hr
  clear hr
  have HP := Aside0.mk hp
  clear hp
  go_enter Try.func42, Try.ntmps42
  go_wp2
  go_loopg [5, 8] l.length (fun gg _ s8 wr => ∃ kk : Nat, kk ≤ l.length ∧ l.length - kk ≤ gg ∧ s8 = .int .i64 kk ∧ Aside0 (Below w.heap.size w wr) ∧ Aside0 (idxE p l 0 = idxE p (l.drop kk) kk))
  case atStart => exact ⟨0, Nat.zero_le _, by omega, rfl, ⟨Below.refl _ w⟩, ⟨rfl⟩⟩
  case round =>
    obtain ⟨kk, hkk, hg, rfl, BW, A1⟩ := hrel
    by_cases hlt : kk < l.length
    · have hltz : (kk : Int) < (l.length : Int) := by omega
      obtain ⟨ad, rfl, hx0, hx1, hx2⟩ := at_T40 (Kd.C_below HR.out BW.out) (kk : Int) (by omega) hltz
      rw [Int.toNat_natCast] at hx0 hx1 hx2
      have hgd : rd_T40 l (kk : Int) = l[kk] := by simp [rd_T40, List.getD_eq_getElem?_getD, List.getElem?_eq_getElem hlt]
      have hdr : l.drop kk = l[kk] :: l.drop (kk + 1) := (List.drop_eq_getElem_cons hlt)
      generalize hy : rd_T40 l (kk : Int) = y at hx0 hx1 hx2
      have E1 := Aside0.mk (show l.drop kk = y :: l.drop (kk + 1) by rw [hdr, ← hgd, hy])
      clear hy hgd hdr
      have hcall := HP.out wr y BW.out
      cases hq : p y with
      | true =>
        rw [hq] at hcall
        have HCALL := Aside0.mk hcall
        clear hcall
        have E2 := Aside0.mk hq
        clear hq
        go_wp2_with (go_at_fn g; refine HCALL.out.mono ?_; rintro e w' ⟨rfl, hb'⟩)
        go_ret
        refine ⟨?_, below_step BW.out hb'⟩
        rw [A1.out, E1.out]; simp only [idxE, E2.out, if_true]; rfl
      | false =>
        rw [hq] at hcall
        have HCALL := Aside0.mk hcall
        clear hcall
        have E2 := Aside0.mk hq
        clear hq
        go_wp2_with (go_at_fn g; refine HCALL.out.mono ?_; rintro e w' ⟨rfl, hb'⟩)
        go_roundg (l.length - (kk + 1))
        case measure => omega
        case rel =>
          refine ⟨kk + 1, by omega, by omega, by go_num, ⟨below_step BW.out hb'⟩, ⟨?_⟩⟩
          rw [A1.out, E1.out]; show (if p y = true then _ else _) = _
          rw [if_neg (by rw [E2.out]; decide), show ((kk + 1 : Nat) : Int) = (kk : Int) + 1 from by omega]
    · have hltz : ¬ (kk : Int) < (l.length : Int) := by omega
      have E3 : Aside0 (l.drop kk = []) := ⟨List.drop_eq_nil_of_le (by omega)⟩
      go_wp2
      go_ret
      refine ⟨?_, BW.out⟩
      rw [A1.out, E3.out]; rfl
end Go.Proofs.Ytamloclgignfgaa.PA
