/- OrderMore, in plain Lean. -/
import Derived.Test.YtlaneafplmbcnaaPOx57
import Derived.Test.YtlaneafplmbcnaaFi
import Derived.Test.YtlaneafplmbcnaaRowA
namespace Go.Proofs.Ytlaneafplmbcnaa.PO
open Go.RowKit Go.Proofs.YtlaneafplmbcnaaW.PrintWords Go.Proofs.YtlaneafplmbcnaaW.PrintLast Go.Proofs.YtlaneafplmbcnaaW.PrintMore
set_option linter.unusedVariables false
set_option linter.unusedSimpArgs false
theorem OM_l4 (y x : List S30) (b : S30) (X i : Int) (hy : y.length ≤ 64) (h0 : b.f0.length ≤ 64) (h1 : b.f1.length ≤ 64)
    (H : Ev (fun k => orrerylaw21_OrderMore.l3 k y x X (wrap64 (i + 1))) true) :
    ∀ (d c : Nat) (s : Bool), c + d = y.length → (s = true ∨ b ∈ y.drop c) → Ev (fun k => orrerylaw21_OrderMore.l4 k y s x X i y (y.length : Int) (c : Int) b.f0 b.f1) true := by
  intro d
  induction d with
  | zero =>
    intro c s hc hs
    rw [List.drop_eq_nil_of_le (by omega)] at hs
    have e : s = true := hs.resolve_right (fun h => by cases h)
    refine Ev.step (fun k => ?_) H
    simp only [orrerylaw21_OrderMore.l4]
    rw [if_neg (by omega), if_pos e]
  | succ d ih =>
    intro c s hc hs
    have q0 : (0 : Int) ≤ (c : Int) := Int.natCast_nonneg c
    have q1 : (c : Int) < (y.length : Int) := by omega
    have hw : wrap64 ((c : Int) + 1) = ((c + 1 : Nat) : Int) := by rw [w64 (by omega) (by omega)]; omega
    rw [drop_T30 (show c < y.length by omega)] at hs
    cases s with
    | true =>
      refine Ev.step (fun k => ?_) (ih (c + 1) true (by omega) (.inl rfl))
      simp only [orrerylaw21_OrderMore.l4]
      rw [if_pos q1, if_pos q0, if_pos q1, if_pos trivial, hw]
    | false =>
      have hs' := hs.resolve_left Bool.false_ne_true
      refine Ev.step (f := fun k => (orreryref17_Ints.f k b.f0 ((rd_T30 y (c : Int)).f0)).bind fun t => (if t = true then ((orreryref17_Ints.f k b.f1 ((rd_T30 y (c : Int)).f1)).bind fun t2 => (orrerylaw21_OrderMore.l4 k y t2 x X i y (y.length : Int) ((c + 1 : Nat) : Int) b.f0 b.f1)) else (orrerylaw21_OrderMore.l4 k y false x X i y (y.length : Int) ((c + 1 : Nat) : Int) b.f0 b.f1))) (fun k => ?_) (Ev.bind (Ev_IntsB _ _ h0) ?_)
      · simp only [orrerylaw21_OrderMore.l4]
        rw [if_pos q1, if_pos q0, if_pos q1, if_neg Bool.false_ne_true, hw]
      · by_cases e0 : b.f0 = (rd_T30 y (c : Int)).f0
        · simp only [decide_eq_true e0, if_true]
          refine Ev.bind (Ev_IntsB _ _ h1) ?_
          by_cases e1 : b.f1 = (rd_T30 y (c : Int)).f1
          · rw [decide_eq_true e1]; exact ih (c + 1) true (by omega) (.inl rfl)
          · rw [decide_eq_false e1]
            exact ih (c + 1) false (by omega) (.inr ((List.mem_cons.1 hs').resolve_left (fun h => e1 (by rw [← h]))))
        · simp only [decide_eq_false e0, Bool.false_eq_true, if_false]
          exact ih (c + 1) false (by omega) (.inr ((List.mem_cons.1 hs').resolve_left (fun h => e0 (by rw [← h]))))
theorem OM_l3 (y x : List S30) (hy : y.length ≤ 64) (hx : x.length ≤ 64) (hs : ∀ b ∈ x, b.f0.length ≤ 64 ∧ b.f1.length ≤ 64) (hm : ∀ b ∈ x, b ∈ y) :
    ∀ (d c : Nat), c + d = x.length → Ev (fun k => orrerylaw21_OrderMore.l3 k y x (x.length : Int) (c : Int)) true := by
  intro d
  induction d with
  | zero =>
    intro c hc
    refine Ev.step (f := fun _ => some true) (fun k => ?_) (Ev.now _)
    simp only [orrerylaw21_OrderMore.l3]
    rw [if_neg (by omega)]
  | succ d ih =>
    intro c hc
    have hr : rd_T30 x (c : Int) = x[c] := rd_T30_getE (by omega)
    have hmem : rd_T30 x (c : Int) ∈ x := by rw [hr]; exact List.getElem_mem _
    have hw : wrap64 ((c : Int) + 1) = ((c + 1 : Nat) : Int) := by rw [w64 (by omega) (by omega)]; omega
    have h1 := ih (c + 1) (by omega)
    rw [← hw] at h1
    refine Ev.step (fun k => ?_) (OM_l4 y x (rd_T30 x (c : Int)) (x.length : Int) (c : Int) hy (hs _ hmem).1 (hs _ hmem).2 h1 y.length 0 false (by omega) (.inr (by rw [List.drop_zero]; exact hm _ hmem)))
    simp only [orrerylaw21_OrderMore.l3]
    rw [if_pos (by omega), if_pos (by omega), if_pos (by omega)]
    rfl
section
variable (a : Int) (l : List S33) (told : List Int) (i j : Int) (x : List S30)
theorem OM_l2 (X la : Int) (c : Nat) (X2 : List Int) (b : List Int) (hb : b.length ≤ 64) (v0 : Int)
    (H : Ev (fun k => orrerylaw21_OrderMore.l0 k a l told i j x la (if j ∈ b then (c : Int) else v0) x X (wrap64 ((c : Int) + 1))) true) :
    ∀ (d t : Nat) (v : Int), t + d = b.length → v = (if j ∈ b.take t then (c : Int) else v0) → Ev (fun k => orrerylaw21_OrderMore.l2 k a l told i j x la v (c : Int) x X (c : Int) b (b.length : Int) (t : Int)) true := by
  intro d
  induction d with
  | zero =>
    intro t v ht hv
    rw [List.take_of_length_le (by omega)] at hv
    rw [← hv] at H
    refine Ev.step (fun k => ?_) H
    simp only [orrerylaw21_OrderMore.l2]
    rw [if_neg (by omega)]
  | succ d ih =>
    intro t v ht hv
    have q0 : (0 : Int) ≤ (t : Int) := Int.natCast_nonneg t
    have q1 : (t : Int) < (b.length : Int) := by omega
    have hr : rd b (t : Int) = b[t] := rd_getE (by omega)
    have htk : b.take (t + 1) = b.take t ++ [b[t]] := by rw [List.take_succ_eq_append_getElem (by omega)]
    have hw : wrap64 ((t : Int) + 1) = ((t + 1 : Nat) : Int) := by rw [w64 (by omega) (by omega)]; omega
    by_cases e : rd b (t : Int) = j
    · refine Ev.step (fun k => ?_) (ih (t + 1) (c : Int) (by omega) (by rw [htk, if_pos (List.mem_append.2 (.inr (by rw [← hr, e]; exact List.mem_singleton.2 rfl)))]))
      simp only [orrerylaw21_OrderMore.l2]
      rw [if_pos q1, if_pos q0, if_pos q1, if_pos e, hw]
    · refine Ev.step (fun k => ?_) (ih (t + 1) v (by omega) (by
        rw [hv, htk]
        have : j ∈ b.take t ++ [b[t]] ↔ j ∈ b.take t := by
          rw [List.mem_append, List.mem_singleton]
          exact ⟨fun h => h.resolve_right (fun h => e (by rw [hr, h])), .inl⟩
        simp only [this]))
      simp only [orrerylaw21_OrderMore.l2]
      rw [if_pos q1, if_pos q0, if_pos q1, if_neg e, hw]
theorem OM_l1 (X : Int) (c : Nat) (b b2 : List Int) (hb : b.length ≤ 64) (hb2 : b2.length ≤ 64) (v0 w0 : Int)
    (H : Ev (fun k => orrerylaw21_OrderMore.l0 k a l told i j x (if i ∈ b then (c : Int) else v0) (if j ∈ b2 then (c : Int) else w0) x X (wrap64 ((c : Int) + 1))) true) :
    ∀ (d t : Nat) (v : Int), t + d = b.length → v = (if i ∈ b.take t then (c : Int) else v0) → Ev (fun k => orrerylaw21_OrderMore.l1 k a l told i j x v w0 (c : Int) x X (c : Int) b (b.length : Int) (t : Int) b b2) true := by
  intro d
  induction d with
  | zero =>
    intro t v ht hv
    rw [List.take_of_length_le (by omega)] at hv
    rw [← hv] at H
    refine Ev.step (fun k => ?_) (OM_l2 a l told i j x X v c b b2 hb2 w0 H b2.length 0 w0 (by omega) (by simp))
    simp only [orrerylaw21_OrderMore.l1]
    rw [if_neg (by omega)]
    rfl
  | succ d ih =>
    intro t v ht hv
    have q0 : (0 : Int) ≤ (t : Int) := Int.natCast_nonneg t
    have q1 : (t : Int) < (b.length : Int) := by omega
    have hr : rd b (t : Int) = b[t] := rd_getE (by omega)
    have htk : b.take (t + 1) = b.take t ++ [b[t]] := by rw [List.take_succ_eq_append_getElem (by omega)]
    have hw : wrap64 ((t : Int) + 1) = ((t + 1 : Nat) : Int) := by rw [w64 (by omega) (by omega)]; omega
    by_cases e : rd b (t : Int) = i
    · refine Ev.step (fun k => ?_) (ih (t + 1) (c : Int) (by omega) (by rw [htk, if_pos (List.mem_append.2 (.inr (by rw [← hr, e]; exact List.mem_singleton.2 rfl)))]))
      simp only [orrerylaw21_OrderMore.l1]
      rw [if_pos q1, if_pos q0, if_pos q1, if_pos e, hw]
    · refine Ev.step (fun k => ?_) (ih (t + 1) v (by omega) (by
        rw [hv, htk]
        have : i ∈ b.take t ++ [b[t]] ↔ i ∈ b.take t := by
          rw [List.mem_append, List.mem_singleton]
          exact ⟨fun h => h.resolve_right (fun h => e (by rw [hr, h])), .inl⟩
        simp only [this]))
      simp only [orrerylaw21_OrderMore.l1]
      rw [if_pos q1, if_pos q0, if_pos q1, if_neg e, hw]
/-- Where something was found so far. -/
def fnd (p c : Nat) : Int := if p < c then (p : Int) else -1
theorem OM_l0 (hx : x.length ≤ 64) (hs : ∀ b ∈ x, b.f0.length ≤ 64 ∧ b.f1.length ≤ 64) (p q : Nat) (hp : p < x.length) (hq : q < x.length) (hi : ∀ (c : Nat) (hc : c < x.length), i ∈ x[c].f0 ↔ c = p) (hj : ∀ (c : Nat) (hc : c < x.length), j ∈ x[c].f1 ↔ c = q)
    (H : q ≤ p → Ev (fun k => orrerylaw21_OrderMore.j4 k a l told i j x (p : Int) false) true) :
    ∀ (d c : Nat), c + d = x.length → Ev (fun k => orrerylaw21_OrderMore.l0 k a l told i j x (fnd p c) (fnd q c) x (x.length : Int) (c : Int)) true := by
  intro d
  induction d with
  | zero =>
    intro c hc
    have e1 : fnd p c = (p : Int) := by unfold fnd; rw [if_pos (by omega)]
    have e2 : fnd q c = (q : Int) := by unfold fnd; rw [if_pos (by omega)]
    rw [e1, e2]
    by_cases hqp : q ≤ p
    · refine Ev.step (fun k => ?_) (H hqp)
      simp only [orrerylaw21_OrderMore.l0]
      rw [if_neg (by omega), if_neg (by omega), decide_eq_false (by omega)]
    · refine Ev.step (f := fun k => orrerylaw21_OrderMore.j4 k a l told i j x (p : Int) true) (fun k => ?_) (Ev.step (f := fun _ => some true) (fun k => ?_) (Ev.now _))
      · simp only [orrerylaw21_OrderMore.l0]
        rw [if_neg (by omega), if_pos (by omega)]
      · simp only [orrerylaw21_OrderMore.j4]
        rw [if_pos trivial, decide_eq_true (by omega)]
  | succ d ih =>
    intro c hc
    have q0 : (0 : Int) ≤ (c : Int) := Int.natCast_nonneg c
    have q1 : (c : Int) < (x.length : Int) := by omega
    have hr : rd_T30 x (c : Int) = x[c] := rd_T30_getE (by omega)
    have hmem : rd_T30 x (c : Int) ∈ x := by rw [hr]; exact List.getElem_mem _
    have hw : wrap64 ((c : Int) + 1) = ((c + 1 : Nat) : Int) := by rw [w64 (by omega) (by omega)]; omega
    have h1 := ih (c + 1) (by omega)
    have e1 : (if i ∈ (rd_T30 x (c : Int)).f0 then (c : Int) else fnd p c) = fnd p (c + 1) := by
      have h := hi c (by omega)
      rw [hr]
      unfold fnd
      by_cases z : c = p
      · rw [if_pos (h.2 z), if_pos (by omega), z]
      · rw [if_neg (fun y => z (h.1 y))]
        by_cases z2 : p < c
        · rw [if_pos z2, if_pos (by omega)]
        · rw [if_neg z2, if_neg (by omega)]
    have e2 : (if j ∈ (rd_T30 x (c : Int)).f1 then (c : Int) else fnd q c) = fnd q (c + 1) := by
      have h := hj c (by omega)
      rw [hr]
      unfold fnd
      by_cases z : c = q
      · rw [if_pos (h.2 z), if_pos (by omega), z]
      · rw [if_neg (fun y => z (h.1 y))]
        by_cases z2 : q < c
        · rw [if_pos z2, if_pos (by omega)]
        · rw [if_neg z2, if_neg (by omega)]
    rw [← hw, ← e1, ← e2] at h1
    refine Ev.step (fun k => ?_) (OM_l1 a l told i j x (x.length : Int) c (rd_T30 x (c : Int)).f0 (rd_T30 x (c : Int)).f1 (hs _ hmem).1 (hs _ hmem).2 (fnd p c) (fnd q c) h1 (rd_T30 x (c : Int)).f0.length 0 (fnd p c) (by omega) (by simp))
    simp only [orrerylaw21_OrderMore.l0]
    rw [if_pos q1, if_pos q0, if_pos q1]
    rfl
end
theorem tmod_in {n : Nat} (hn : 0 < n) (h64 : n ≤ 64) (v : Int) : 0 ≤ Int.tmod (wrap64 (Int.tmod v n + n)) n ∧ Int.tmod (wrap64 (Int.tmod v n + n)) n < (n : Int) := by
  have h1 := Int.tmod_lt_of_pos v (b := (n : Int)) (by omega)
  have h2 := Int.lt_tmod_of_pos v (b := (n : Int)) (by omega)
  rw [w64 (by omega) (by omega)]
  exact ⟨Int.tmod_nonneg _ (by omega), Int.tmod_lt_of_pos _ (by omega)⟩
theorem OrderMore_ev (a : Int) (l : List S33) (told : List Int) (v w : Int) (hl : l.length ≤ 9223372036854775807) : Ev (fun k => orrerylaw21_OrderMore.f k a l told v w) true := by
  have hj : Ev (fun k => orrerylaw21_OrderMore.j0 k a l told v w true) true := Ev.step (f := fun _ => some true) (fun k => by simp only [orrerylaw21_OrderMore.j0]; rw [if_pos trivial]) (Ev.now _)
  unfold orrerylaw21_OrderMore.f
  refine Ev.bind (Ev_Told a l told hl) ?_
  cases h : toldB a l told with
  | false => simp only [Bool.false_eq_true, if_false]; exact hj
  | true =>
    simp only [if_true]
    by_cases c0 : a = 0
    · simp only [if_pos c0]; exact hj
    simp only [if_neg c0]
    by_cases c1 : (l.length : Int) > 4000
    · rw [decide_eq_true c1]; exact hj
    rw [decide_eq_false c1]
    have hB := Ev_oBlocks h
    obtain ⟨ha, T⟩ := toldB_whole h
    obtain ⟨n, rfl⟩ := Int.eq_ofNat_of_zero_le ha
    rw [Int.toNat_natCast] at T hB
    have hn := T.hn
    have h4 : l.length ≤ 4000 := by omega
    obtain ⟨i0, i1⟩ := tmod_in (show 0 < n by omega) hn v
    obtain ⟨j0, j1⟩ := tmod_in (show 0 < n by omega) hn w
    refine Ev.step (f := fun k => (order_Blocks.f k (n : Int) l told).bind fun bt421 => (if bt421.2 = 0 then (orrerylaw21_OrderMore.l0 k (n : Int) l told (Int.tmod (wrap64 ((Int.tmod v n) + n)) n) (Int.tmod (wrap64 ((Int.tmod w n) + n)) n) bt421.1 (-1) (-1) bt421.1 (bt421.1.length : Int) 0) else (some false))) (fun k => ?_) (Ev.bind hB ?_)
    · simp only [orrerylaw21_OrderMore.j0, if_neg c0]
      rw [if_neg Bool.false_ne_true]
    simp only [if_true]
    generalize Int.tmod (wrap64 ((Int.tmod v n) + n)) n = i at i0 i1
    generalize Int.tmod (wrap64 ((Int.tmod w n) + n)) n = j at j0 j1
    have B := blocks_blks T
    have hk := T.told_by j0 j1
    obtain ⟨p, hp, hip⟩ := B.at i0 i1
    obtain ⟨q, hq, hjq⟩ := B.at hk.1 hk.2.1
    have hx := blocks_len T
    have hs := blocks_short T
    refine OM_l0 (n : Int) l told i j (blocksL n l told) (by omega) (fun b hb => by have := hs b hb; omega) p q hp hq (fun c hc => ⟨fun h => B.one hc hp h hip, fun h => by subst h; exact hip⟩) (fun c hc => ?_) (fun hqp => ?_) (blocksL n l told).length 0 (by omega)
    · rw [B.f1_mem hc]
      constructor
      · rintro ⟨e, he, he2⟩
        have her := B.rg _ (List.getElem_mem hc) e he
        have : e = rd (byL n told) j := by rw [← he2, T.by_told her.1 her.2]
        rw [this] at he
        exact B.one hc hq he hjq
      · intro h; subst h; exact ⟨_, hjq, hk.2.2⟩
    · obtain ⟨hs1, hs2⟩ := blocks_more T h4 i0 i1 j0 j1 hp hq hip hjq hqp
      have T' := T.more h4 i0 i1 j0 j1
      have hB' := Ev_oBlocks (toldB_of T')
      rw [Int.toNat_natCast] at hB'
      refine Ev.step (f := fun k => (order_Blocks.f k (n : Int) (l ++ [⟨i, j, 0⟩]) told).bind fun bt => (if bt.2 = 0 then (orrerylaw21_OrderMore.j5 k (blocksL n l told) bt.1 ((bt.1.length : Int) != ((blocksL n l told).length : Int))) else (orrerylaw21_OrderMore.j5 k (blocksL n l told) bt.1 true))) (fun k => ?_) (Ev.bind hB' ?_)
      · simp only [orrerylaw21_OrderMore.j4, Option.bind_some, List.nil_append, List.length_nil]
        rw [if_neg Bool.false_ne_true, if_pos (by omega), if_pos (by omega)]
      simp only [if_true]
      have e : (((blocksL n (l ++ [⟨i, j, 0⟩]) told).length : Int) != ((blocksL n l told).length : Int)) = false := by rw [hs2]; simp
      rw [e]
      refine Ev.step (fun k => ?_) (OM_l3 (blocksL n (l ++ [⟨i, j, 0⟩]) told) (blocksL n l told) (by have := blocks_len T'; omega) (by omega) (fun b hb => by have := hs b hb; omega) (fun b hb => (hs1 b).1 hb) (blocksL n l told).length 0 (by omega))
      simp only [orrerylaw21_OrderMore.j5]
      rw [if_neg Bool.false_ne_true]
      rfl
theorem OrderMore_pure (a0 : Int) (l1 : List S33) (l2 : List Int) (a3 a4 : Int) (h0 : I64 a0) (h1 : (∀ e ∈ l1, I64 e.f0 ∧ I64 e.f1 ∧ I64 e.f2) ∧ l1.length ≤ 9223372036854775807) (h2 : (∀ x ∈ l2, I64 x) ∧ l2.length ≤ 9223372036854775807) (h3 : I64 a3) (h4 : I64 a4) : ∃ k, orrerylaw21_OrderMore.f k a0 l1 l2 a3 a4 = some true := (OrderMore_ev a0 l1 l2 a3 a4 h1.2).rounds
end Go.Proofs.Ytlaneafplmbcnaa.PO
