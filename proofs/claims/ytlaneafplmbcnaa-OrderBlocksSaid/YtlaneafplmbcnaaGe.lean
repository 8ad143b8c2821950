/- Several texts of this claim, one behind the other. -/
import Derived.Test.YtlaneafplmbcnaaPOx0
import Derived.Shelf.Abstract
import Derived.StillTailTactics
namespace Go.Proofs.Ytlaneafplmbcnaa.PO
open Go.RowKit Go.Proofs.YtlaneafplmbcnaaW.PrintWords Go.Proofs.YtlaneafplmbcnaaW.PrintLast Go.Proofs.YtlaneafplmbcnaaW.PrintMore
set_option linter.unusedVariables false
set_option linter.unusedSimpArgs false

/-- An edge that may not be. -/
def badE (a b : Int) (e : S33) : Bool :=
  if e.f0 < 0 then true else if e.f0 ≥ a then true else if e.f1 < 0 then true else if e.f1 ≥ b then true else if e.f2 < 0 then true else decide (e.f2 > 100)

set_option maxHeartbeats 4000000 in
set_option maxRecDepth 100000 in
theorem clo35 (a b : Int) (e : S33) (B1 B2 : Addr) (w : World) (h1 : w.cell? B1 = some (.int .i64 a)) (h2 : w.cell? B2 = some (.int .i64 b)) :
    Calls Try.prog 48 #[.agg #[.int .i64 e.f0, .int .i64 e.f1, .int .i64 e.f2], .pointer (some B1), .pointer (some B2)] w fun r w' => r = .returned (.bool (badE a b e)) ∧ Below w.heap.size w w' := by
  have hu40 := Try.underlying33
  have g1 : ∀ o, (w.alloc o).cell? B1 = some (.int .i64 a) := fun o => (World.cell?_alloc_lt w o B1 (World.block_lt_of_cell? w B1 h1)).trans h1
  have g2 : ∀ o, (w.alloc o).cell? B2 = some (.int .i64 b) := fun o => (World.cell?_alloc_lt w o B2 (World.block_lt_of_cell? w B2 h2)).trans h2
  clear h1 h2
  have hb : ∀ o, Below w.heap.size w (w.alloc o) := fun o => below_alloc (Below.refl _ _) o
  have HB := Aside0.mk hb
  clear hb
  generalize hx : badE a b e = r
  unfold badE at hx
  have H := Aside0.mk hx
  clear hx
  go_enter Try.func48, Try.ntmps48
  by_cases c1 : e.f0 < 0
  · have d1 : decide (e.f0 < 0) = true := decide_eq_true c1
    have hr : true = r := by have := H.out; rw [if_pos c1] at this; exact this
    subst hr; clear c1 H
    go_wp2
    go_ret
    exact ⟨rfl, HB.out _⟩
  have d1 : decide (e.f0 < 0) = false := decide_eq_false c1
  replace H := Aside0.mk (by have := H.out; rw [if_neg c1] at this; exact this)
  clear c1
  by_cases c1 : e.f0 ≥ a
  · have d2 : decide (a ≤ e.f0) = true := decide_eq_true c1
    have hr : true = r := by have := H.out; rw [if_pos c1] at this; exact this
    subst hr; clear c1 H
    go_wp2
    go_ret
    exact ⟨rfl, HB.out _⟩
  have d2 : decide (a ≤ e.f0) = false := decide_eq_false c1
  replace H := Aside0.mk (by have := H.out; rw [if_neg c1] at this; exact this)
  clear c1
  by_cases c1 : e.f1 < 0
  · have d3 : decide (e.f1 < 0) = true := decide_eq_true c1
    have hr : true = r := by have := H.out; rw [if_pos c1] at this; exact this
    subst hr; clear c1 H
    go_wp2
    go_ret
    exact ⟨rfl, HB.out _⟩
  have d3 : decide (e.f1 < 0) = false := decide_eq_false c1
  replace H := Aside0.mk (by have := H.out; rw [if_neg c1] at this; exact this)
  clear c1
  by_cases c1 : e.f1 ≥ b
  · have d4 : decide (b ≤ e.f1) = true := decide_eq_true c1
    have hr : true = r := by have := H.out; rw [if_pos c1] at this; exact this
    subst hr; clear c1 H
    go_wp2
    go_ret
    exact ⟨rfl, HB.out _⟩
  have d4 : decide (b ≤ e.f1) = false := decide_eq_false c1
  replace H := Aside0.mk (by have := H.out; rw [if_neg c1] at this; exact this)
  clear c1
  by_cases c1 : e.f2 < 0
  · have d5 : decide (e.f2 < 0) = true := decide_eq_true c1
    have hr : true = r := by have := H.out; rw [if_pos c1] at this; exact this
    subst hr; clear c1 H
    go_wp2
    go_ret
    exact ⟨rfl, HB.out _⟩
  have d5 : decide (e.f2 < 0) = false := decide_eq_false c1
  replace H := Aside0.mk (by have := H.out; rw [if_neg c1] at this; exact this)
  clear c1
  by_cases c1 : e.f2 > 100
  · have d6 : decide (100 < e.f2) = true := decide_eq_true c1
    have hr : true = r := by have := H.out; rw [decide_eq_true c1] at this; exact this
    subst hr; clear c1 H
    go_wp2
    go_ret
    exact ⟨rfl, HB.out _⟩
  have d6 : decide (100 < e.f2) = false := decide_eq_false c1
  have hr : false = r := by have := H.out; rw [decide_eq_false c1] at this; exact this
  subst hr; clear c1 H
  go_wp2
  go_ret
  exact ⟨rfl, HB.out _⟩
/-- What is asked of a predicate on edges: it may make blocks of its own. -/
def PredE (g : Nat) (cap : Array Value) (p : S33 → Bool) (w : World) : Prop :=
  ∀ (W : World) (x : S33), Below w.heap.size w W → Calls Try.prog g (#[.agg #[.int .i64 x.f0, .int .i64 x.f1, .int .i64 x.f2]] ++ cap) W fun e w' => e = .returned (.bool (p x)) ∧ Below W.heap.size W w'

/-- Where the first element of which p holds stands; -1: none. -/
def idxE (p : S33 → Bool) : List S33 → Int → Int
  | [], _ => -1
  | e :: l, i => if p e then i else idxE p l (i + 1)

theorem idxE_ge (p : S33 → Bool) (l : List S33) : ∀ i : Int, 0 ≤ i → decide (0 ≤ idxE p l i) = l.any p := by
  induction l with
  | nil => intro i _; simp [idxE]
  | cons e l ih =>
    intro i hi
    simp only [idxE, List.any_cons]
    by_cases hp : p e = true
    · simp [hp, hi]
    · have hf : p e = false := by simpa using hp
      simpa [hf] using ih (i + 1) (by omega)

set_option maxHeartbeats 4000000 in
set_option maxRecDepth 100000 in
theorem idx42 (g : Nat) (cap : Array Value) (p : S33 → Bool) (eg : ∀ args w, (callFunc g args).run Try.prog w = .ok (.enter g args) w) (A : Option Addr) (c : Nat) (l : List S33) (w : World)
    (hr : Kd.C k33 w A l.length l) (hc : l.length ≤ c) (hp : PredE g cap p w) :
    Calls Try.prog 50 #[.slice A l.length c, .func (.func g) #[] cap] w fun e w' => e = .returned (.int .i64 (idxE p l 0)) ∧ Below w.heap.size w w' := by
  have hu40 := Try.underlying33
  have hm : l.length ≤ 9223372036854775807 := hr.2.1
  have HR := Aside0.mk hr
  clear hr
  have HP := Aside0.mk hp
  clear hp
  go_enter Try.func50, Try.ntmps50
  go_wp2
  go_loopg [5, 8] l.length (fun gg _ s8 wr => ∃ kk : Nat, kk ≤ l.length ∧ l.length - kk ≤ gg ∧ s8 = .int .i64 kk ∧ Aside0 (Below w.heap.size w wr) ∧ Aside0 (idxE p l 0 = idxE p (l.drop kk) kk))
  case atStart => exact ⟨0, Nat.zero_le _, by omega, rfl, ⟨Below.refl _ w⟩, ⟨rfl⟩⟩
  case round =>
    obtain ⟨kk, hkk, hg, rfl, BW, A1⟩ := hrel
    by_cases hlt : kk < l.length
    · have hltz : (kk : Int) < (l.length : Int) := by omega
      obtain ⟨ad, rfl, hx0, hx1, hx2⟩ := at_T33 (Kd.C_below HR.out BW.out) (kk : Int) (by omega) hltz
      rw [Int.toNat_natCast] at hx0 hx1 hx2
      have hgd : rd_T33 l (kk : Int) = l[kk] := by simp [rd_T33, List.getD_eq_getElem?_getD, List.getElem?_eq_getElem hlt]
      have hdr : l.drop kk = l[kk] :: l.drop (kk + 1) := (List.drop_eq_getElem_cons hlt)
      generalize hy : rd_T33 l (kk : Int) = y at hx0 hx1 hx2
      have E1 := Aside0.mk (show l.drop kk = y :: l.drop (kk + 1) by rw [hdr, ← hgd, hy])
      clear hy hgd hdr
      have hcall := HP.out wr y BW.out
      cases hq : p y with
      | true =>
        rw [hq] at hcall
        have HCALL := Aside0.mk hcall
        clear hcall
        have E2 := Aside0.mk hq
        clear hq
        go_wp2_with (go_at_fn g; refine HCALL.out.mono ?_; rintro e w' ⟨rfl, hb'⟩)
        go_ret
        refine ⟨?_, below_step BW.out hb'⟩
        rw [A1.out, E1.out]; simp only [idxE, E2.out, if_true]; rfl
      | false =>
        rw [hq] at hcall
        have HCALL := Aside0.mk hcall
        clear hcall
        have E2 := Aside0.mk hq
        clear hq
        go_wp2_with (go_at_fn g; refine HCALL.out.mono ?_; rintro e w' ⟨rfl, hb'⟩)
        go_roundg (l.length - (kk + 1))
        case measure => omega
        case rel =>
          refine ⟨kk + 1, by omega, by omega, by go_num, ⟨below_step BW.out hb'⟩, ⟨?_⟩⟩
          rw [A1.out, E1.out]; show (if p y = true then _ else _) = _
          rw [if_neg (by rw [E2.out]; decide), show ((kk + 1 : Nat) : Int) = (kk : Int) + 1 from by omega]
    · have hltz : ¬ (kk : Int) < (l.length : Int) := by omega
      have E3 : Aside0 (l.drop kk = []) := ⟨List.drop_eq_nil_of_le (by omega)⟩
      go_wp2
      go_ret
      refine ⟨?_, BW.out⟩
      rw [A1.out, E3.out]; rfl
end Go.Proofs.Ytlaneafplmbcnaa.PO

namespace Go.Proofs.Ytlaneafplmbcnaa.PO
open Go.RowKit Go.Proofs.YtlaneafplmbcnaaW.PrintWords Go.Proofs.YtlaneafplmbcnaaW.PrintLast Go.Proofs.YtlaneafplmbcnaaW.PrintMore
set_option linter.unusedVariables false
set_option linter.unusedSimpArgs false

set_option maxHeartbeats 4000000 in
set_option maxRecDepth 100000 in
theorem cont34 (g : Nat) (cap : Array Value) (p : S33 → Bool) (eg : ∀ args w, (callFunc g args).run Try.prog w = .ok (.enter g args) w) (A : Option Addr) (c : Nat) (l : List S33) (w : World)
    (hr : Kd.C k33 w A l.length l) (hc : l.length ≤ c) (hp : PredE g cap p w) :
    Calls Try.prog 28 #[.slice A l.length c, .func (.func g) #[] cap] w fun e w' => e = .returned (.bool (l.any p)) ∧ Below w.heap.size w w' := by
  have h42 := idx42 g cap p eg A c l w hr hc hp
  have hge := idxE_ge p l 0 (by omega)
  have H42 := Aside0.mk h42
  have HG := Aside0.mk hge
  clear h42 hge hr hc hp
  go_enter Try.func28, Try.ntmps28
  generalize hi : idxE p l 0 = ii at H42 HG
  have HI := Aside0.mk hi
  clear hi
  go_wp2_with (go_at_call 50; refine H42.out.mono ?_; rintro e w' ⟨rfl, hb'⟩)
  go_ret
  exact ⟨by rw [HG.out]; rfl, hb'⟩

/-- May edges be? As the program asks. -/
def rightB (a b : Int) (l : List S33) : Bool :=
  if a < 0 then false else if b < 0 then false else if a > 64 then false else if b > 64 then false else if l.length > 4096 then false else !(l.any (badE a b))
def match_right.f (a0 a1 : Int) (l2 : List S33) : Option Bool := some (rightB a0 a1 l2)

set_option maxHeartbeats 4000000 in
set_option maxRecDepth 100000 in
theorem match_right.calls (a0 : Int) (a1 : Int) (A2 : Option Addr) (c2 : Nat) (l2 : List S33) (r : Bool) (w : World) (hr2 : Kd.C k33 w A2 l2.length l2) (hc2 : l2.length ≤ c2) (h : match_right.f a0 a1 l2 = some r) :
    Calls Try.prog 24 #[.int .i64 a0, .int .i64 a1, .slice A2 l2.length c2] w fun e w' => e = .returned (.bool r) ∧ Below w.heap.size w w' := by
  have e35 : ∀ args w, (callFunc 48 args).run Try.prog w = .ok (.enter 48 args) w := enters_of Try.func48 (by kernel_rfl) rfl
  have hr0 : rightB a0 a1 l2 = r := Option.some.inj h
  clear h
  unfold rightB at hr0
  have H := Aside0.mk hr0
  clear hr0
  have hb : ∀ o o', Below w.heap.size w ((w.alloc o).alloc o') := fun o o' => below_alloc (below_alloc (Below.refl _ _) o) o'
  have HB := Aside0.mk hb
  clear hb
  have hcl : Calls Try.prog 28 #[.slice A2 l2.length c2, .func (.func 48) #[] #[.pointer (some ⟨w.heap.size, 0, none⟩), .pointer (some ⟨w.heap.size + 1, 0, none⟩)]] ((w.alloc (.cells #[.int .i64 a0] 3)).alloc (.cells #[.int .i64 a1] 3)) fun e w' => e = .returned (.bool (l2.any (badE a0 a1))) ∧ Below w.heap.size w w' := by
    refine (cont34 48 _ (badE a0 a1) e35 A2 c2 l2 _ (Kd.C_below hr2 (HB.out _ _)) hc2 ?_).mono (fun e w' h => ⟨h.1, below_step (HB.out _ _) h.2⟩)
    intro W x hb
    exact clo35 a0 a1 x _ _ W ((hb.cell (p := ⟨w.heap.size, 0, none⟩) (by simp; omega)).trans (by simp)) ((hb.cell (p := ⟨w.heap.size + 1, 0, none⟩) (by simp)).trans (by simp))
  have HCL := Aside0.mk hcl
  clear hcl hr2 hc2
  generalize hq : l2.any (badE a0 a1) = q at H HCL
  clear hq
  go_enter Try.func24, Try.ntmps24
  by_cases c1 : a0 < 0
  · have d0 : decide (a0 < 0) = true := decide_eq_true c1
    have hr : false = r := by have := H.out; rw [if_pos c1] at this; exact this
    subst hr; clear c1 H HCL
    go_wp2
    go_ret
    exact ⟨rfl, HB.out _ _⟩
  have d0 : decide (a0 < 0) = false := decide_eq_false c1
  replace H := Aside0.mk (by have := H.out; rw [if_neg c1] at this; exact this)
  clear c1
  by_cases c1 : a1 < 0
  · have d1 : decide (a1 < 0) = true := decide_eq_true c1
    have hr : false = r := by have := H.out; rw [if_pos c1] at this; exact this
    subst hr; clear c1 H HCL
    go_wp2
    go_ret
    exact ⟨rfl, HB.out _ _⟩
  have d1 : decide (a1 < 0) = false := decide_eq_false c1
  replace H := Aside0.mk (by have := H.out; rw [if_neg c1] at this; exact this)
  clear c1
  by_cases c1 : a0 > 64
  · have d2 : decide (64 < a0) = true := decide_eq_true c1
    have hr : false = r := by have := H.out; rw [if_pos c1] at this; exact this
    subst hr; clear c1 H HCL
    go_wp2
    go_ret
    exact ⟨rfl, HB.out _ _⟩
  have d2 : decide (64 < a0) = false := decide_eq_false c1
  replace H := Aside0.mk (by have := H.out; rw [if_neg c1] at this; exact this)
  clear c1
  by_cases c1 : a1 > 64
  · have d3 : decide (64 < a1) = true := decide_eq_true c1
    have hr : false = r := by have := H.out; rw [if_pos c1] at this; exact this
    subst hr; clear c1 H HCL
    go_wp2
    go_ret
    exact ⟨rfl, HB.out _ _⟩
  have d3 : decide (64 < a1) = false := decide_eq_false c1
  replace H := Aside0.mk (by have := H.out; rw [if_neg c1] at this; exact this)
  clear c1
  by_cases c1 : l2.length > 4096
  · have d5 : decide (4096 < (l2.length : Int)) = true := decide_eq_true (by omega)
    have d5' : decide (4096 < l2.length) = true := decide_eq_true (by omega)
    have hr : false = r := by have := H.out; rw [if_pos c1] at this; exact this
    subst hr; clear c1 H HCL
    go_wp2
    go_ret
    exact ⟨rfl, HB.out _ _⟩
  have d5 : decide (4096 < (l2.length : Int)) = false := decide_eq_false (by omega)
  have d5' : decide (4096 < l2.length) = false := decide_eq_false (by omega)
  replace H := Aside0.mk (by have := H.out; rw [if_neg c1] at this; exact this)
  clear c1
  have hr : (!q) = r := H.out
  clear H
  subst hr
  go_wp2_with (go_at_call 28; refine HCL.out.mono ?_; rintro e w' ⟨rfl, hb'⟩)
  go_ret
  exact ⟨rfl, hb'⟩
end Go.Proofs.Ytlaneafplmbcnaa.PO

namespace Go.Proofs.Ytlaneafplmbcnaa.PO
open Go.RowKit Go.Proofs.YtlaneafplmbcnaaW.PrintWords Go.Proofs.YtlaneafplmbcnaaW.PrintLast Go.Proofs.YtlaneafplmbcnaaW.PrintMore
set_option linter.unusedVariables false
set_option linter.unusedSimpArgs false

abbrev FState := Bool × List Bool × List Int
def findL (rec : Int → List Bool → List Int → FState) (i : Int) : List Int → List Bool → List Int → FState
  | [], s, o => (false, s, o)
  | j :: js, s, o =>
    if rdOf false s j = true then findL rec i js s o
    else if rd o j < 0 then (true, s.set j.toNat true, o.set j.toNat i)
    else if (rec (rd o j) (s.set j.toNat true) o).1 = true then (true, (rec (rd o j) (s.set j.toNat true) o).2.1, (rec (rd o j) (s.set j.toNat true) o).2.2.set j.toNat i)
    else findL rec i js (rec (rd o j) (s.set j.toNat true) o).2.1 (rec (rd o j) (s.set j.toNat true) o).2.2
def findF (rows : List (List Int)) : Nat → Int → List Bool → List Int → FState
  | 0, _, s, o => (false, s, o)
  | d + 1, i, s, o => findL (findF rows d) i (rd_L3 rows i) s o

/-- What is kept while a way is sought. -/
def Good (n m : Nat) (s : List Bool) (o : List Int) : Prop := s.length = m ∧ o.length = m ∧ ∀ x ∈ o, x < (n : Int)
def RowOk (m : Nat) (row : List Int) : Prop := ∀ j ∈ row, 0 ≤ j ∧ j < (m : Int)

theorem rd_mem (o : List Int) (j : Int) (h0 : 0 ≤ j) (h1 : j < o.length) : rd o j ∈ o := by
  have hl : j.toNat < o.length := by omega
  unfold rd
  rw [List.getD_eq_getElem?_getD, List.getElem?_eq_getElem hl]
  exact List.getElem_mem hl

theorem Good.setS {n m : Nat} {s : List Bool} {o : List Int} (h : Good n m s o) (j : Nat) (b : Bool) : Good n m (s.set j b) o := ⟨by simp [h.1], h.2.1, h.2.2⟩
theorem Good.setO {n m : Nat} {s : List Bool} {o : List Int} (h : Good n m s o) (j : Nat) (i : Int) (hi : i < n) : Good n m s (o.set j i) :=
  ⟨h.1, by simp [h.2.1], fun x hx => by
    rcases List.mem_or_eq_of_mem_set hx with h1 | h1
    · exact h.2.2 x h1
    · omega⟩
/-- How many columns have not been seen. -/
def unseen (s : List Bool) : Nat := s.count false
theorem unseen_set (s : List Bool) (j : Nat) (h : j < s.length) (hf : s.getD j false = false) : unseen (s.set j true) + 1 = unseen s := by
  unfold unseen
  induction s generalizing j with
  | nil => simp at h
  | cons a s ih =>
    cases j with
    | zero =>
      have ha : a = false := by simpa using hf
      subst ha
      simp
    | succ j =>
      have h' := ih j (by simpa using h) (by simpa using hf)
      simp only [List.set_cons_succ, List.count_cons]
      omega

theorem findL_keeps {n m : Nat} {rec : Int → List Bool → List Int → FState} (hrec : ∀ i s o, 0 ≤ i → i < (n : Int) → Good n m s o → Good n m (rec i s o).2.1 (rec i s o).2.2 ∧ unseen (rec i s o).2.1 ≤ unseen s) (i : Int) (hi : i < (n : Int)) :
    ∀ (row : List Int) (s : List Bool) (o : List Int), RowOk m row → Good n m s o → Good n m (findL rec i row s o).2.1 (findL rec i row s o).2.2 ∧ unseen (findL rec i row s o).2.1 ≤ unseen s := by
  intro row
  induction row with
  | nil => intro s o _ h; exact ⟨h, Nat.le_refl _⟩
  | cons j js ih =>
    intro s o hr h
    have hj := hr j List.mem_cons_self
    have hjs : RowOk m js := fun x hx => hr x (List.mem_cons_of_mem _ hx)
    unfold findL
    by_cases c1 : rdOf false s j = true
    · rw [if_pos c1]; exact ih s o hjs h
    rw [if_neg c1]
    have hu := unseen_set s j.toNat (by rw [h.1]; omega) (by simpa [rdOf] using c1)
    by_cases c2 : rd o j < 0
    · rw [if_pos c2]; exact ⟨(h.setS _ _).setO _ _ hi, by show unseen (s.set _ _) ≤ _; omega⟩
    rw [if_neg c2]
    have hx : rd o j < (n : Int) := h.2.2 _ (rd_mem o j hj.1 (by rw [h.2.1]; omega))
    have hk := hrec (rd o j) (s.set j.toNat true) o (by omega) hx (h.setS _ _)
    by_cases c3 : (rec (rd o j) (s.set j.toNat true) o).1 = true
    · rw [if_pos c3]; exact ⟨hk.1.setO _ _ hi, by show unseen (rec (rd o j) (s.set j.toNat true) o).2.1 ≤ _; omega⟩
    rw [if_neg c3]
    have := ih _ _ hjs hk.1
    exact ⟨this.1, by omega⟩
theorem findF_keeps {n m : Nat} {rows : List (List Int)} (hrows : ∀ row ∈ rows, RowOk m row) : ∀ (d : Nat) (i : Int) (s : List Bool) (o : List Int), 0 ≤ i → i < (n : Int) → Good n m s o →
    Good n m (findF rows d i s o).2.1 (findF rows d i s o).2.2 ∧ unseen (findF rows d i s o).2.1 ≤ unseen s := by
  intro d
  induction d with
  | zero => intro i s o _ _ h; exact ⟨h, Nat.le_refl _⟩
  | succ d ih =>
    intro i s o h0 hi h
    unfold findF
    refine findL_keeps ih i hi _ s o ?_ h
    unfold rd_L3
    rw [List.getD_eq_getElem?_getD]
    cases hg : rows[i.toNat]? with
    | none => intro x hx; simp at hx
    | some row => exact hrows row (List.mem_of_getElem? hg)

structure Fs (W0 W : World) (bs bo bf : Nat) (fv vS vO : Value) (s : List Bool) (o : List Int) : Prop where
  below : Below W0.heap.size W0 W
  ls : W0.heap.size ≤ bs
  lo : W0.heap.size ≤ bo
  lf : W0.heap.size ≤ bf
  boxS : W.heap[bs]? = some (.cells #[vS] 52 (0, 0))
  boxO : W.heap[bo]? = some (.cells #[vO] 23 (0, 0))
  boxF : W.heap[bf]? = some (.cells #[fv] 60 (0, 0))
  rowS : Kd.R Kd.bool 4 W W0.heap.size (fun _ => True) vS s
  rowO : Kd.R (Kd.int .i64) 3 W W0.heap.size (fun _ => True) vO o

theorem heap_other (W : World) (g j : Nat) (v : Value) (b : Nat) (hb : b ≠ g) : (W.setCell ⟨g, j, none⟩ v).heap[b]? = W.heap[b]? := Below.heap_setCell W ⟨g, j, none⟩ v b hb
theorem type_ne {W : World} {b g : Nat} {c c' : Array Value} {t t' : Nat} (h : W.heap[b]? = some (.cells c t (0, 0))) (h' : W.heap[g]? = some (.cells c' t' (0, 0))) (ht : t ≠ t') : b ≠ g := by
  rintro rfl
  rw [h] at h'
  injection h' with h'
  injection h' with _ h'
  exact ht h'
theorem Fs.drew {W0 W : World} {bs bo bf : Nat} {fv vS vO : Value} {s : List Bool} {o : List Int} (h : Fs W0 W bs bo bf fv vS vO s o) : Fs W0 W.drew bs bo bf fv vS vO s o :=
  ⟨h.below.drew, h.ls, h.lo, h.lf, h.boxS, h.boxO, h.boxF, Kd.R_drew h.rowS, Kd.R_drew h.rowO⟩
theorem Fs.setS {W0 W : World} {bs bo bf g n c : Nat} {fv vO : Value} {s : List Bool} {o : List Int} (h : Fs W0 W bs bo bf fv (.slice (some ⟨g, 0, none⟩) n c) vO s o) (hp : 0 < s.length) (j : Int) (x : Bool) :
    Fs W0 (W.setCell ⟨g, j.toNat, none⟩ (.bool x)) bs bo bf fv (.slice (some ⟨g, 0, none⟩) n c) vO (s.set j.toNat x) o := by
  obtain ⟨g', c', e, hb, hl, cells, hg⟩ := Kd.R_form h.rowS hp
  have : g' = g := by injection e with e _ _; injection e with e; injection e with e; exact e.symm
  subst this
  have hR := Kd.R_putg h.rowS j x
  exact ⟨below_set h.below hb, h.ls, h.lo, h.lf, (heap_other _ _ _ _ _ (type_ne h.boxS hg (by decide))).trans h.boxS, (heap_other _ _ _ _ _ (type_ne h.boxO hg (by decide))).trans h.boxO, (heap_other _ _ _ _ _ (type_ne h.boxF hg (by decide))).trans h.boxF, hR.1, Kd.R_over h.rowO h.rowS (by decide) hR.2⟩
theorem Fs.setO {W0 W : World} {bs bo bf g n c : Nat} {fv vS : Value} {s : List Bool} {o : List Int} (h : Fs W0 W bs bo bf fv vS (.slice (some ⟨g, 0, none⟩) n c) s o) (hp : 0 < o.length) (j : Int) (x : Int) :
    Fs W0 (W.setCell ⟨g, j.toNat, none⟩ (.int .i64 x)) bs bo bf fv vS (.slice (some ⟨g, 0, none⟩) n c) s (o.set j.toNat x) := by
  obtain ⟨g', c', e, hb, hl, cells, hg⟩ := Kd.R_form h.rowO hp
  have : g' = g := by injection e with e _ _; injection e with e; injection e with e; exact e.symm
  subst this
  have hR := Kd.R_putg h.rowO j x
  exact ⟨below_set h.below hb, h.ls, h.lo, h.lf, (heap_other _ _ _ _ _ (type_ne h.boxS hg (by decide))).trans h.boxS, (heap_other _ _ _ _ _ (type_ne h.boxO hg (by decide))).trans h.boxO, (heap_other _ _ _ _ _ (type_ne h.boxF hg (by decide))).trans h.boxF, Kd.R_over h.rowS h.rowO (by decide) hR.2, hR.1⟩
end Go.Proofs.Ytlaneafplmbcnaa.PO

namespace Go.Proofs.Ytlaneafplmbcnaa.PO
open Go.RowKit Go.Proofs.YtlaneafplmbcnaaW.PrintWords Go.Proofs.YtlaneafplmbcnaaW.PrintLast Go.Proofs.YtlaneafplmbcnaaW.PrintMore
set_option linter.unusedVariables false
set_option linter.unusedSimpArgs false

/-- The closure's own value. -/
def fnV (bn bs bo bf : Nat) : Value := .func (.func 49) #[] #[.pointer (some ⟨bn, 0, none⟩), .pointer (some ⟨bs, 0, none⟩), .pointer (some ⟨bo, 0, none⟩), .pointer (some ⟨bf, 0, none⟩)]

set_option maxHeartbeats 1000000 in
set_option maxRecDepth 100000 in
theorem clo29 (W0 : World) (bn bs bo bf : Nat) (A : Option Addr) (c m : Nat) (rows : List (List Int)) (vS vO : Value)
    (hbn : W0.cell? ⟨bn, 0, none⟩ = some (.slice A rows.length c)) (hC : Kd.C (Kd.slice 3 (Kd.int .i64)) W0 A rows.length rows) (hrows : ∀ row ∈ rows, RowOk m row) (d : Nat) :
    ∀ (i : Int) (s : List Bool) (o : List Int) (W : World), 0 ≤ i → i < (rows.length : Int) → unseen s < d → Good rows.length m s o → Fs W0 W bs bo bf (fnV bn bs bo bf) vS vO s o →
    Calls Try.prog 49 #[.int .i64 i, .pointer (some ⟨bn, 0, none⟩), .pointer (some ⟨bs, 0, none⟩), .pointer (some ⟨bo, 0, none⟩), .pointer (some ⟨bf, 0, none⟩)] W fun e W' =>
      e = .returned (.bool (findF rows d i s o).1) ∧ Fs W0 W' bs bo bf (fnV bn bs bo bf) vS vO (findF rows d i s o).2.1 (findF rows d i s o).2.2 := by
  induction d with
  | zero => intro i s o W _ _ h; omega
  | succ d ih =>
    intro i s o W h0 hi hu hg hF
    have e29 : ∀ args w, (callFunc 49 args).run Try.prog w = .ok (.enter 49 args) w := enters_of Try.func49 (by kernel_rfl) rfl
    have hrow : RowOk m (rd_L3 rows i) := by
      unfold rd_L3
      rw [List.getD_eq_getElem?_getD]
      cases hg : rows[i.toNat]? with
      | none => intro x hx; simp at hx
      | some row => exact hrows row (List.mem_of_getElem? hg)
    obtain ⟨ad, A0, c0, rfl, hx, hl0, hR0⟩ := at_L3 hC i h0 hi
    generalize hrw : rd_L3 rows i = row at hrow hx hl0 hR0
    have HF := Aside0.mk (show findF rows (d + 1) i s o = findL (findF rows d) i row s o by unfold findF; rw [hrw])
    have hm : row.length ≤ 9223372036854775807 := hR0.2.1
    have hxn : W.cell? ⟨bn, 0, none⟩ = some (.slice (some ad) rows.length c) := (hF.below.cell (World.block_lt_of_cell? W0 _ hbn)).trans hbn
    have hxr : W.cell? (ad.add i.toNat) = some (.slice A0 row.length c0) := (hF.below.cell (World.block_lt_of_cell? W0 _ hx)).trans hx
    have IH := Aside0.mk ih
    have HROW := Aside0.mk hrow
    have HG := Aside0.mk hg
    have HU := Aside0.mk hu
    have HFS := Aside0.mk hF
    have HR0 := Aside0.mk hR0
    have HB0 := Aside0.mk hbn
    have HC0 := Aside0.mk hC
    have HX0 := Aside0.mk hx
    clear ih hrow hg hu hF hR0 hbn hC hx hrw hl0
    have HRS := Aside0.mk hrows
    clear hrows
    have p1 := eq_true h0
    have p2 := eq_true hi
    go_enter Try.func49, Try.ntmps49
    go_wp2
    go_loopg [14] row.length (fun gg v14 wr => ∃ (kk : Nat) (s1 : List Bool) (o1 : List Int), v14 = .int .i64 kk ∧ kk ≤ row.length ∧ row.length - kk ≤ gg ∧ Aside0 (findL (findF rows d) i row s o = findL (findF rows d) i (row.drop kk) s1 o1) ∧ Aside0 (Fs W0 wr bs bo bf (fnV bn bs bo bf) vS vO s1 o1) ∧ Aside0 (Good rows.length m s1 o1) ∧ Aside0 (unseen s1 < d + 1))
    case atStart => exact ⟨0, s, o, rfl, Nat.zero_le _, by omega, ⟨rfl⟩, HFS, HG, HU⟩
    case round =>
      clear HFS HG HU hxn hxr
      obtain ⟨kk, s1, o1, rfl, hkk, hgk, HE, HFS, HG, HU⟩ := hrel
      have GU := (HU.out : unseen s1 < d + 1)
      by_cases hlt : kk < row.length
      · have hltz : (kk : Int) < (row.length : Int) := by omega
        obtain ⟨aj, rfl, hxj⟩ := Kd.at_int HR0.out (kk : Int) (by omega) hltz
        rw [Int.toNat_natCast] at hxj
        have hd : row.drop kk = row[kk] :: row.drop (kk + 1) := List.drop_eq_getElem_cons hlt
        have hj : rd row (kk : Int) = row[kk] := by simp [rd, List.getD_eq_getElem?_getD, List.getElem?_eq_getElem hlt]
        have hjr := HROW.out row[kk] (List.getElem_mem hlt)
        rw [← hj] at hjr hd
        generalize rd row (kk : Int) = j at hxj hd hjr
        clear hj
        replace hxj : wr.cell? (aj.add kk) = some (.int .i64 j) := (HFS.out.below.cell (World.block_lt_of_cell? W0 _ hxj)).trans hxj
        obtain ⟨hj0, hj1⟩ := hjr
        have hls : (j : Int) < (s1.length : Int) := by have := HG.out.1; omega
        have hlo : (j : Int) < (o1.length : Int) := by have := HG.out.2.1; omega
        obtain ⟨gS, cS, eS, hgS, hgS2, _⟩ := Kd.R_form HFS.out.rowS (by omega)
        obtain ⟨gO, cO, eO, hgO, hgO2, _⟩ := Kd.R_form HFS.out.rowO (by omega)
        have hbs := blk_cell HFS.out.boxS 0
        have hbo := blk_cell HFS.out.boxO 0
        have hbf := blk_cell HFS.out.boxF 0
        have HFS' := HFS.out
        rw [eS, eO] at HFS'
        simp only [eS, eO] at hbs hbo
        obtain ⟨hS1, hS2⟩ := Kd.R_celln false HFS'.rowS j hj0 hls
        obtain ⟨hO1, hO2⟩ := Kd.R_celln 0 HFS'.rowO j hj0 hlo
        have ES := Aside0.mk eS
        have EO := Aside0.mk eO
        have HD := Aside0.mk hd
        have HFW := Aside0.mk HFS'
        clear eS eO hd HFS hgS hgO hgS2 hgO2 HFS' hO2
        have q1 := eq_true hj0
        have q2 := eq_true hj1
        have q3 := eq_true hls
        have q4 := eq_true hlo
        by_cases hsj : rdOf false s1 j = true
        · have hsj' := hsj
          rw [hsj'] at hS1
          have HSJ := Aside0.mk hsj
          clear hsj hsj'
          go_wp2
          go_roundg (row.length - (kk + 1))
          case measure => omega
          case rel =>
            refine ⟨kk + 1, s1, o1, by go_num, by omega, by omega, ⟨?_⟩, ⟨?_⟩, HG, HU⟩
            · rw [HE.out, HD.out]; show (if _ then _ else _) = _; rw [if_pos HSJ.out]
            · have := HFW.out; rw [← ES.out, ← EO.out] at this; exact this
        · have hsj' : rdOf false s1 j = false := by simpa using hsj
          rw [hsj'] at hS1
          have HSJ := Aside0.mk hsj
          clear hsj hsj'
          go_wp2_with (fail)
          have HF1 := Fs.setS HFW.out (by omega) j true
          generalize wr.setCell ⟨gS, j.toNat, none⟩ (.bool true) = W1 at HF1 ⊢
          clear hbs hbo hbf hS1 hS2 hO1 hxj
          have hbs := blk_cell HF1.boxS 0
          have hbo := blk_cell HF1.boxO 0
          have hbf : W1.cell? ⟨bf, 0, none⟩ = some (.func (.func 49) #[] #[.pointer (some ⟨bn, 0, none⟩), .pointer (some ⟨bs, 0, none⟩), .pointer (some ⟨bo, 0, none⟩), .pointer (some ⟨bf, 0, none⟩)]) := blk_cell HF1.boxF 0
          obtain ⟨hO1, hO2⟩ := Kd.R_celln 0 HF1.rowO j hj0 hlo
          have hrd : rdOf 0 o1 j = rd o1 j := rfl
          rw [hrd] at hO1
          have hG1 := HG.out.setS j.toNat true
          have hU1 : unseen (s1.set j.toNat true) + 1 = unseen s1 := unseen_set s1 j.toNat (by omega) (by have := HSJ.out; unfold rdOf at this; simpa using this)
          have hx1 := HG.out.2.2 _ (rd_mem o1 j hj0 hlo)
          have HF1' := Aside0.mk HF1
          clear HF1 hrd HG HU
          have HG := Aside0.mk hG1
          have HU := Aside0.mk hU1
          clear hG1 hU1
          by_cases hneg : rd o1 j < 0
          · have hd1 : decide (rd o1 j < 0) = true := decide_eq_true hneg
            have HN := Aside0.mk hneg
            clear hneg hx1
            go_still_tail 11, (by kernel_rfl)
            go_wp2
            go_ret
            have h1 : findF rows (d + 1) i s o = (true, s1.set j.toNat true, o1.set j.toNat i) := by
              rw [HF.out, HE.out, HD.out]; unfold findL; rw [if_neg HSJ.out, if_pos HN.out]
            rw [h1]
            refine ⟨rfl, ?_⟩
            rw [EO.out, ES.out]
            first | exact Fs.setO HF1'.out.drew (by omega) j i | exact (Fs.setO HF1'.out (by omega) j i).drew
          · have hd1 : decide (rd o1 j < 0) = false := decide_eq_false hneg
            have HN := Aside0.mk hneg
            have hx0 : 0 ≤ rd o1 j := by omega
            clear hneg
            go_still_tail 11, (by kernel_rfl)
            have hc := IH.out (rd o1 j) (s1.set j.toNat true) o1 _ hx0 hx1 (by have := HU.out; omega) HG.out (by have := HF1'.out.drew; rw [← ES.out, ← EO.out] at this; exact this)
            generalize hrec : findF rows d (rd o1 j) (s1.set j.toNat true) o1 = R at hc
            have hk := findF_keeps HRS.out d (rd o1 j) (s1.set j.toNat true) o1 hx0 hx1 HG.out
            rw [hrec] at hk
            obtain ⟨r1, s2, o2⟩ := R
            have hl2 : 0 < o2.length := by have := hk.1.2.1; have := HG.out.2.1; simp only at *; omega
            have HREC := Aside0.mk hrec
            have HC := Aside0.mk hc
            have HK := Aside0.mk hk
            clear hrec hc hk hO1 hO2 hbo hbf hbs
            cases r1 with
            | true =>
              go_wp2_with (go_at_call 49; refine HC.out.mono ?_; rintro e W' ⟨rfl, hF2⟩; simp only at hF2; rw [ES.out, EO.out] at hF2; have HF2 := Aside0.mk hF2; have hbo2 := blk_cell hF2.boxO 0; obtain ⟨hO3, hO4⟩ := Kd.R_celln 0 hF2.rowO j hj0 hlo; clear hF2)
              go_ret
              have h1 : findF rows (d + 1) i s o = (true, s2, o2.set j.toNat i) := by
                rw [HF.out, HE.out, HD.out]; unfold findL; rw [if_neg HSJ.out, if_neg (show ¬ rd o1 j < 0 by have := HN.out; omega), HREC.out]; rfl
              rw [h1]
              refine ⟨rfl, ?_⟩
              rw [EO.out, ES.out]
              exact Fs.setO HF2.out hl2 j i
            | false =>
              go_wp2_with (go_at_call 49; refine HC.out.mono ?_; rintro e W' ⟨rfl, hF2⟩; simp only at hF2; have HF2 := Aside0.mk hF2; clear hF2)
              go_roundg (row.length - (kk + 1))
              case measure => omega
              case rel =>
                refine ⟨kk + 1, s2, o2, by go_num, by omega, by omega, ⟨?_⟩, HF2, ⟨HK.out.1⟩, ⟨?_⟩⟩
                · rw [HE.out, HD.out]; conv => lhs; unfold findL
                  rw [if_neg HSJ.out, if_neg (show ¬ rd o1 j < 0 by have := HN.out; omega), HREC.out]; rfl
                · have a := HK.out.2; have b := HU.out; change unseen s2 ≤ _ at a; omega
      · have HE3 : Aside0 (row.drop kk = []) := ⟨List.drop_eq_nil_of_le (by omega)⟩
        have hltz : ¬ (kk : Int) < (row.length : Int) := by omega
        go_wp2
        go_ret
        have h1 : findF rows (d + 1) i s o = (false, s1, o1) := by rw [HF.out, HE.out, HE3.out]; rfl
        rw [h1]
        exact ⟨rfl, HFS.out⟩
end Go.Proofs.Ytlaneafplmbcnaa.PO

namespace Go.Proofs.Ytlaneafplmbcnaa.PO
open Go.RowKit Go.Proofs.YtlaneafplmbcnaaW.PrintWords Go.Proofs.YtlaneafplmbcnaaW.PrintLast Go.Proofs.YtlaneafplmbcnaaW.PrintMore
set_option linter.unusedVariables false
set_option linter.unusedSimpArgs false

/-- The columns of each row, in the edges' order. -/
def nextOf (rows : List (List Int)) : List S33 → List (List Int)
  | [] => rows
  | e :: l => nextOf (rows.set e.f0.toNat (rd_L3 rows e.f0 ++ [e.f1])) l
/-- One row after the other is given a column, if that can be. -/
def kuhn (rows : List (List Int)) (m : Nat) : Nat → Int → List Int → List Int
  | 0, _, o => o
  | d + 1, i, o => kuhn rows m d (i + 1) (findF rows (m + 1) i (List.replicate m false) o).2.2
/-- Of the columns' rows the rows' columns. -/
def outOf : List Int → Int → List Int → List Int
  | [], _, out => out
  | i :: l, j, out => outOf l (j + 1) (if i ≥ 0 then out.set i.toNat j else out)
def mostL (n m : Nat) (l : List S33) : List Int :=
  outOf (kuhn (nextOf (List.replicate n []) l) m n 0 (List.replicate m (-1))) 0 (List.replicate n (-1))
def match_Most.f (a0 a1 : Int) (l2 : List S33) : Option (List Int × Int) :=
  some (if rightB a0 a1 l2 = true then (mostL a0.toNat a1.toNat l2, 0) else ([], 170))

theorem rightB_iff (a b : Int) (l : List S33) (h : rightB a b l = true) : (0 ≤ a ∧ a ≤ 64 ∧ 0 ≤ b ∧ b ≤ 64 ∧ l.length ≤ 4096) ∧ ∀ e ∈ l, 0 ≤ e.f0 ∧ e.f0 < a ∧ 0 ≤ e.f1 ∧ e.f1 < b ∧ 0 ≤ e.f2 ∧ e.f2 ≤ 100 := by
  unfold rightB at h
  split at h; · cases h
  split at h; · cases h
  split at h; · cases h
  split at h; · cases h
  split at h; · cases h
  refine ⟨by omega, fun e he => ?_⟩
  have h1 : l.any (badE a b) = false := by simpa using h
  have h2 := List.any_eq_false.1 h1 e he
  unfold badE at h2
  split at h2; · exact absurd rfl h2
  split at h2; · exact absurd rfl h2
  split at h2; · exact absurd rfl h2
  split at h2; · exact absurd rfl h2
  split at h2; · exact absurd rfl h2
  have h3 : ¬ e.f2 > 100 := by simpa using h2
  omega

theorem nextOf_len (l : List S33) : ∀ rows, (nextOf rows l).length = rows.length := by
  induction l with
  | nil => intro rows; rfl
  | cons e l ih => intro rows; unfold nextOf; rw [ih]; simp
theorem nextOf_snoc (l : List S33) (e : S33) : ∀ rows, nextOf rows (l ++ [e]) = (nextOf rows l).set e.f0.toNat (rd_L3 (nextOf rows l) e.f0 ++ [e.f1]) := by
  induction l with
  | nil => intro rows; rfl
  | cons x l ih => intro rows; show nextOf _ (l ++ [e]) = _; rw [ih]; rfl
/-- No row is longer than the edges are many. -/
theorem nextOf_short (l : List S33) : ∀ (rows : List (List Int)) (b : Nat), (∀ row ∈ rows, row.length ≤ b) → ∀ row ∈ nextOf rows l, row.length ≤ b + l.length := by
  induction l with
  | nil => intro rows b h row hr; exact h row hr
  | cons e l ih =>
    intro rows b h row hr
    have := ih (rows.set e.f0.toNat (rd_L3 rows e.f0 ++ [e.f1])) (b + 1) (fun x hx => by
      rcases List.mem_or_eq_of_mem_set hx with h1 | h1
      · have := h x h1; omega
      · subst h1
        have : (rd_L3 rows e.f0).length ≤ b := by
          unfold rd_L3
          rw [List.getD_eq_getElem?_getD]
          cases hg : rows[e.f0.toNat]? with
          | none => simp
          | some r => exact h r (List.mem_of_getElem? hg)
        simp; omega) row hr
    simp only [List.length_cons]
    omega
theorem rd_L3_short (rows : List (List Int)) (i : Int) (b : Nat) (h : ∀ row ∈ rows, row.length ≤ b) : (rd_L3 rows i).length ≤ b := by
  unfold rd_L3
  rw [List.getD_eq_getElem?_getD]
  cases hg : rows[i.toNat]? with
  | none => simp
  | some r => exact h r (List.mem_of_getElem? hg)
theorem nextOf_ok (m : Nat) (l : List S33) : ∀ (rows : List (List Int)), (∀ row ∈ rows, RowOk m row) → (∀ e ∈ l, 0 ≤ e.f1 ∧ e.f1 < (m : Int)) → ∀ row ∈ nextOf rows l, RowOk m row := by
  induction l with
  | nil => intro rows h _ row hr; exact h row hr
  | cons e l ih =>
    intro rows h he row hr
    refine ih (rows.set e.f0.toNat (rd_L3 rows e.f0 ++ [e.f1])) (fun x hx => ?_) (fun x hx => he x (List.mem_cons_of_mem _ hx)) row hr
    rcases List.mem_or_eq_of_mem_set hx with h1 | h1
    · exact h x h1
    · subst h1
      intro j hj
      rcases List.mem_append.1 hj with h2 | h2
      · unfold rd_L3 at h2
        rw [List.getD_eq_getElem?_getD] at h2
        cases hg : rows[e.f0.toNat]? with
        | none => rw [hg] at h2; simp at h2
        | some r => rw [hg] at h2; exact h r (List.mem_of_getElem? hg) j h2
      · rw [List.mem_singleton.1 h2]; exact he e List.mem_cons_self
/-- While the rows are given columns. -/
theorem kuhn_good {n m : Nat} {rows : List (List Int)} (hrows : ∀ row ∈ rows, RowOk m row) : ∀ (d : Nat) (i : Int) (o : List Int), 0 ≤ i → i + d ≤ (n : Int) → o.length = m → (∀ x ∈ o, x < (n : Int)) →
    (kuhn rows m d i o).length = m ∧ ∀ x ∈ kuhn rows m d i o, x < (n : Int) := by
  intro d
  induction d with
  | zero => intro i o _ _ h1 h2; exact ⟨h1, h2⟩
  | succ d ih =>
    intro i o h0 hi h1 h2
    have hk := (findF_keeps hrows (m + 1) i (List.replicate m false) o h0 (by omega) ⟨by simp, h1, h2⟩).1
    exact ih (i + 1) _ (by omega) (by omega) hk.2.1 hk.2.2
theorem kuhn_snoc (rows : List (List Int)) (m : Nat) : ∀ (d : Nat) (i : Int) (o : List Int), kuhn rows m (d + 1) i o = (findF rows (m + 1) (i + d) (List.replicate m false) (kuhn rows m d i o)).2.2 := by
  intro d
  induction d with
  | zero => intro i o; simp [kuhn]
  | succ d ih =>
    intro i o
    rw [kuhn, ih, kuhn]
    rw [show i + 1 + (d : Int) = i + ((d + 1 : Nat) : Int) by omega]
theorem outOf_len (l : List Int) : ∀ j out, (outOf l j out).length = out.length := by
  induction l with
  | nil => intro j out; rfl
  | cons i l ih => intro j out; unfold outOf; rw [ih]; split <;> simp
theorem outOf_snoc (l : List Int) (x : Int) : ∀ j out, outOf (l ++ [x]) j out = if x ≥ 0 then (outOf l j out).set x.toNat (j + l.length) else outOf l j out := by
  induction l with
  | nil => intro j out; simp [outOf]
  | cons i l ih => intro j out; show outOf (l ++ [x]) _ _ = _; rw [ih]; simp only [outOf, List.length_cons]; rw [show j + 1 + (l.length : Int) = j + ((l.length + 1 : Nat) : Int) by omega]
end Go.Proofs.Ytlaneafplmbcnaa.PO
