/- OffsetPlain in plain Lean. -/
import Derived.Test.YtamloclgignfgaaPAx18
import Derived.Test.YtamloclgignfgaaRowA
import Derived.Test.YtamloclgignfgaaOb
import Derived.Test.YtamloclgignfgaaOv
namespace Go.Proofs.Ytamloclgignfgaa.PA
open Go.RowKit Go.Proofs.YtamloclgignfgaaW.PrintWords Go.Proofs.YtamloclgignfgaaW.PrintLast Go.Proofs.YtamloclgignfgaaW.PrintMore
set_option linter.unusedVariables false
set_option linter.unusedSimpArgs false

theorem tmod4 (y : Int) : 0 ≤ Int.tmod (wrap64 (Int.tmod y 4 + 4)) 4 ∧ Int.tmod (wrap64 (Int.tmod y 4 + 4)) 4 ≤ 3 := by
  have h1 : Int.tmod y 4 < 4 := Int.tmod_lt_of_pos y (by omega)
  have h2 : Int.tmod (-y) 4 < 4 := Int.tmod_lt_of_pos (-y) (by omega)
  rw [Int.neg_tmod] at h2
  rw [w64 (by omega) (by omega)]
  have h3 : Int.tmod (Int.tmod y 4 + 4) 4 < 4 := Int.tmod_lt_of_pos _ (by omega)
  have h4 : 0 ≤ Int.tmod (Int.tmod y 4 + 4) 4 := Int.tmod_nonneg _ (by omega)
  omega
/-- The weight of a row's own edge. -/
def pw (y : List Int) (i : Int) : Int := if i < (y.length : Int) then Int.tmod (wrap64 (Int.tmod (rd y i) 4 + 4)) 4 else 0
theorem pw_le (y : List Int) (i : Int) : 0 ≤ pw y i ∧ pw y i ≤ 3 := by
  unfold pw; split
  · exact tmod4 _
  · omega
/-- The edges after i rows. -/
structure PI (n : Nat) (told y : List Int) (i : Nat) (a b : List S40) (u : List Int) : Prop where
  al : a.length = i * n
  bl : b.length = i * (n + 1)
  ae : ∀ e ∈ a, 0 ≤ e.f0 ∧ e.f0 < (i : Int) ∧ 0 ≤ e.f1 ∧ e.f1 < (n : Int) ∧ e.f2 = 0
  be : ∀ e ∈ b, 0 ≤ e.f0 ∧ e.f0 < (i : Int) ∧ 0 ≤ e.f1 ∧ e.f1 < (n : Int) ∧ (e.f2 = 0 ∨ (e.f1 = rd told e.f0 ∧ e.f2 = pw y e.f0))
  am : ∀ i' j : Int, 0 ≤ i' → i' < (i : Int) → 0 ≤ j → j < (n : Int) → (⟨i', j, 0⟩ : S40) ∈ a
  bm : ∀ i' : Int, 0 ≤ i' → i' < (i : Int) → (⟨i', rd told i', pw y i'⟩ : S40) ∈ b
  ul : u.length = n
  uu : ∀ x : Int, 0 ≤ x → x < (n : Int) → (rd u x = 1 ↔ ∃ k : Int, 0 ≤ k ∧ k < (i : Int) ∧ rd told k = x)
  rg : ∀ k : Int, 0 ≤ k → k < (i : Int) → 0 ≤ rd told k ∧ rd told k < (n : Int)
  inj : ∀ k k' : Int, 0 ≤ k → k < k' → k' < (i : Int) → rd told k ≠ rd told k'
/-- A row's edges, j of them. -/
def rowE (i : Int) (j : Nat) : List S40 := (List.range j).map (fun x : Nat => (⟨i, (x : Int), 0⟩ : S40))
theorem rowE_succ (i : Int) (j : Nat) : rowE i (j + 1) = rowE i j ++ [(⟨i, (j : Int), 0⟩ : S40)] := by simp [rowE, List.range_succ]
theorem rowE_mem {i : Int} {j : Nat} {e : S40} : e ∈ rowE i j ↔ ∃ x : Nat, x < j ∧ (⟨i, (x : Int), 0⟩ : S40) = e := by simp [rowE]
theorem Plain_l1 {n : Nat} (hn : n ≤ 40) (told y : List Int) (a b : List S40) (u : List Int) (i : Nat) (hi : i < n) (ha : a.length ≤ 1640) (hb : b.length ≤ 1640) (x w : Int) (m : Int) (R : Bool)
    (h : Ev (fun k => orrerylaw20_OffsetPlain.l0 k told y (n : Int) (a ++ rowE (i : Int) n) (b ++ rowE (i : Int) n ++ [(⟨(i : Int), x, w⟩ : S40)]) u told m ((i + 1 : Nat) : Int)) R) :
    ∀ (r j : Nat), j + r = n → Ev (fun k => orrerylaw20_OffsetPlain.l1 k told y (n : Int) (a ++ rowE (i : Int) j) (b ++ rowE (i : Int) j) u (i : Int) x w (j : Int) told m (i : Int)) R := by
  have rl : ∀ j, (rowE (i : Int) j).length = j := fun j => by simp [rowE]
  intro r
  induction r with
  | zero =>
    intro j hj
    have : j = n := by omega
    subst this
    refine Ev.step (fun k => ?_) h
    simp only [orrerylaw20_OffsetPlain.l1]
    rw [if_neg (by omega), if_pos (by rw [List.length_append, rl]; omega), w64 (by omega) (by omega), show (i : Int) + 1 = ((i + 1 : Nat) : Int) by omega]
  | succ r ih =>
    intro j hj
    have h1 := ih (j + 1) (by omega)
    rw [rowE_succ, ← List.append_assoc, ← List.append_assoc] at h1
    refine Ev.step (fun k => ?_) h1
    simp only [orrerylaw20_OffsetPlain.l1]
    rw [if_pos (by omega), if_pos (by rw [List.length_append, rl]; omega), if_pos (by rw [List.length_append, rl]; omega), w64 (by omega) (by omega), show (j : Int) + 1 = ((j + 1 : Nat) : Int) by omega]
theorem PI.next {n : Nat} {told y : List Int} {i : Nat} {a b : List S40} {u : List Int} (h : PI n told y i a b u) (hx0 : 0 ≤ rd told (i : Int)) (hx1 : rd told (i : Int) < (n : Int)) (hu : ¬ rd u (rd told (i : Int)) = 1) :
    PI n told y (i + 1) (a ++ rowE (i : Int) n) (b ++ rowE (i : Int) n ++ [(⟨(i : Int), rd told (i : Int), pw y (i : Int)⟩ : S40)]) (u.set (rd told (i : Int)).toNat 1) := by
  have rl : ∀ j, (rowE (i : Int) j).length = j := fun j => by simp [rowE]
  have re : ∀ e ∈ rowE (i : Int) n, e.f0 = (i : Int) ∧ 0 ≤ e.f1 ∧ e.f1 < (n : Int) ∧ e.f2 = 0 := fun e he => by
    obtain ⟨x, hx, rfl⟩ := rowE_mem.1 he
    exact ⟨rfl, by show (0 : Int) ≤ (x : Int); omega, by show (x : Int) < (n : Int); omega, rfl⟩
  refine ⟨?_, ?_, ?_, ?_, ?_, ?_, ?_, ?_, ?_, ?_⟩
  · rw [List.length_append, rl, h.al, Nat.succ_mul]
  · rw [List.length_append, List.length_append, rl, h.bl, Nat.succ_mul]; rfl
  · intro e he
    rcases List.mem_append.1 he with he | he
    · have := h.ae e he; omega
    · have := re e he; omega
  · intro e he
    rcases List.mem_append.1 he with he | he
    · rcases List.mem_append.1 he with he | he
      · have h1 := h.be e he; exact ⟨h1.1, by omega, h1.2.2⟩
      · have := re e he; exact ⟨by omega, by omega, by omega, by omega, .inl this.2.2.2⟩
    · have he' := List.mem_singleton.1 he
      subst he'
      exact ⟨by show (0 : Int) ≤ (i : Int); omega, by show (i : Int) < _; omega, hx0, hx1, .inr ⟨rfl, rfl⟩⟩
  · intro i' j i0 i1 j0 j1
    by_cases e : i' = (i : Int)
    · refine List.mem_append.2 (.inr (rowE_mem.2 ⟨j.toNat, by omega, ?_⟩))
      rw [e, Int.toNat_of_nonneg j0]
    · exact List.mem_append.2 (.inl (h.am i' j i0 (by omega) j0 j1))
  · intro i' i0 i1
    by_cases e : i' = (i : Int)
    · subst e; exact List.mem_append.2 (.inr (List.mem_singleton.2 rfl))
    · exact List.mem_append.2 (.inl (List.mem_append.2 (.inl (h.bm i' i0 (by omega)))))
  · simp [h.ul]
  · intro x x0 x1
    rw [rd_set u _ x 1 hx0 (by rw [h.ul]; exact hx1) x0]
    by_cases e : rd told (i : Int) = x
    · rw [if_pos e]; simp only [true_iff]; exact ⟨(i : Int), by omega, by omega, e⟩
    · rw [if_neg e, h.uu x x0 x1]
      exact ⟨fun ⟨k, a, b, c⟩ => ⟨k, a, by omega, c⟩, fun ⟨k, a, b, c⟩ => ⟨k, a, by
        by_cases e' : k = (i : Int)
        · rw [e'] at c; exact absurd c e
        · omega, c⟩⟩
  · intro k k0 k1
    by_cases e : k = (i : Int)
    · rw [e]; exact ⟨hx0, hx1⟩
    · exact h.rg k k0 (by omega)
  · intro k k' k0 kk k1
    by_cases e : k' = (i : Int)
    · rw [e]; intro q
      exact hu ((h.uu _ hx0 hx1).2 ⟨k, k0, by omega, q⟩)
    · exact h.inj k k' k0 kk (by omega)
theorem Plain_l0 {n : Nat} (hn : n ≤ 40) (told y : List Int) (hlen : told.length = n)
    (h : ∀ a b u, PI n told y n a b u → Ev (fun k => orrerylaw20_OffsetPlain.l0 k told y (n : Int) a b u told (n : Int) (n : Int)) true) :
    ∀ (r i : Nat) (a b : List S40) (u : List Int), i + r = n → PI n told y i a b u → Ev (fun k => orrerylaw20_OffsetPlain.l0 k told y (n : Int) a b u told (n : Int) (i : Int)) true := by
  intro r
  induction r with
  | zero =>
    intro i a b u hi hp
    have : i = n := by omega
    subst this
    exact h a b u hp
  | succ r ih =>
    intro i a b u hi hp
    have jt : Ev (fun k => orrerylaw20_OffsetPlain.j1 k told y (n : Int) a b u (i : Int) (rd told (i : Int)) told (n : Int) (i : Int) true) true := Ev.step (f := fun _ => some true) (fun k => by simp [orrerylaw20_OffsetPlain.j1]) (Ev.now _)
    by_cases c1 : rd told (i : Int) < 0
    · refine Ev.step (fun k => ?_) jt
      simp only [orrerylaw20_OffsetPlain.l0]
      rw [if_pos (by omega), if_pos (by omega), if_pos (by omega), if_neg (by omega), if_pos c1]
    by_cases c2 : rd told (i : Int) ≥ (n : Int)
    · refine Ev.step (fun k => ?_) jt
      simp only [orrerylaw20_OffsetPlain.l0]
      rw [if_pos (by omega), if_pos (by omega), if_pos (by omega), if_neg (by omega), if_neg c1, if_pos c2]
    have st : ∀ b', (rd u (rd told (i : Int)) == 1) = b' → Ev (fun k => orrerylaw20_OffsetPlain.j1 k told y (n : Int) a b u (i : Int) (rd told (i : Int)) told (n : Int) (i : Int) b') true → Ev (fun k => orrerylaw20_OffsetPlain.l0 k told y (n : Int) a b u told (n : Int) (i : Int)) true := fun b' hb' hR => Ev.step (fun k => by
      simp only [orrerylaw20_OffsetPlain.l0]
      rw [if_pos (by omega), if_pos (by omega), if_pos (by omega), if_neg (by omega), if_neg c1, if_neg c2, if_pos (by omega), if_pos (by rw [hp.ul]; omega), hb']) hR
    by_cases c3 : rd u (rd told (i : Int)) = 1
    · exact st true (by simpa using c3) jt
    refine st false (by simpa using c3) ?_
    have hnx := hp.next (by omega) (by omega) c3
    have hmul : i * n ≤ 39 * 40 := Nat.mul_le_mul (by omega) hn
    have hmul2 : i * (n + 1) ≤ 39 * 41 := Nat.mul_le_mul (by omega) (by omega)
    have h1 := Plain_l1 hn told y a b (u.set (rd told (i : Int)).toNat 1) i (by omega) (by rw [hp.al]; omega) (by rw [hp.bl]; omega) (rd told (i : Int)) (pw y (i : Int)) (n : Int) true (ih (i + 1) _ _ _ (by omega) hnx) n 0 (by omega)
    have h2 : Ev (fun k => orrerylaw20_OffsetPlain.j2 k told y (n : Int) a b (u.set (rd told (i : Int)).toNat 1) (i : Int) (rd told (i : Int)) (pw y (i : Int)) told (n : Int) (i : Int)) true := by
      refine Ev.step (fun k => ?_) h1
      simp [orrerylaw20_OffsetPlain.j2, rowE]
    refine Ev.step (fun k => ?_) h2
    simp only [orrerylaw20_OffsetPlain.j1]
    rw [if_neg (by simp), if_pos (by omega), if_pos (by rw [hp.ul]; omega), Option.bind_some]
    unfold pw
    by_cases c4 : (i : Int) < (y.length : Int)
    · rw [if_pos c4, if_pos (by omega), if_pos c4]
    · rw [if_neg c4, if_neg c4]
theorem Plain_l2 {n : Nat} (hn : n ≤ 40) (y c1 d1 c2 d2 told : List Int) (hc1 : c1.length = n) (hd1 : d1.length = n) (hc2 : c2.length = n) (hd2 : d2.length = n) (ht : told.length = n) (h : ∀ i : Int, 0 ≤ i → i < (n : Int) → rd c1 i = 0 ∧ rd d1 i = 0 ∧ rd c2 i = 0 ∧ 0 ≤ rd told i ∧ rd told i < (n : Int) ∧ rd d2 (rd told i) = pw y i) :
    ∀ (r i : Nat), i + r = n → Ev (fun k => orrerylaw20_OffsetPlain.l2 k y c1 d1 c2 d2 told (n : Int) (i : Int)) true := by
  intro r
  induction r with
  | zero =>
    intro i hi
    refine Ev.step (f := fun _ => some true) (fun k => ?_) (Ev.now _)
    simp only [orrerylaw20_OffsetPlain.l2]
    rw [if_neg (by omega)]
  | succ r ih =>
    intro i hi
    obtain ⟨g1, g2, g3, g4, g5, g6⟩ := h (i : Int) (by omega) (by omega)
    unfold pw at g6
    refine Ev.step (fun k => ?_) (ih (i + 1) (by omega))
    simp only [orrerylaw20_OffsetPlain.l2]
    by_cases c4 : (i : Int) < (y.length : Int)
    · rw [if_pos c4] at g6
      rw [if_pos (by omega), if_pos (by omega), if_pos (by omega), if_pos c4, if_pos (by omega), if_pos g1, if_pos (by omega), if_pos g2, if_pos (by omega), if_pos g3, if_pos g4, if_pos (by omega), if_pos g6, w64 (n := (i : Int) + 1) (by omega) (by omega), show (i : Int) + 1 = ((i + 1 : Nat) : Int) by omega]
    · rw [if_neg c4] at g6
      rw [if_pos (by omega), if_pos (by omega), if_pos (by omega), if_neg c4, if_pos (by omega), if_pos g1, if_pos (by omega), if_pos g2, if_pos (by omega), if_pos g3, if_pos g4, if_pos (by omega), if_pos g6, w64 (n := (i : Int) + 1) (by omega) (by omega), show (i : Int) + 1 = ((i + 1 : Nat) : Int) by omega]
/-- Offsets that are nought in each row. -/
theorem plain_off {n : Nat} {l : List S40} {told : List Int} (ha : n ≤ 64) (T : Whole n l told) (hz : ∀ i i' : Int, 0 ≤ i → i < (n : Int) → 0 ≤ i' → i' < (n : Int) → wt l i' (rd told i) ≤ wt l i (rd told i)) :
    ∃ c d, Ev (fun k => offset_Offsets.f k (n : Int) l told) (c, d, 0) ∧ c.length = n ∧ d.length = n ∧ (∀ i : Int, 0 ≤ i → i < (n : Int) → rd c i = 0) ∧ IsD (wt l) n c d ∧ ∀ i : Int, 0 ≤ i → i < (n : Int) → rd d (rd told i) = wt l i (rd told i) := by
  have hb : toldB (n : Int) l told = true := toldB_of (by omega) (by simpa using T)
  obtain ⟨o, ho, _, hO⟩ := Ev_LeastOff hb
  rw [Int.toNat_natCast] at ho
  have h0 : CB n (List.replicate n 0) := ⟨by simp, fun i a b => by rw [rd_rep a b]; omega⟩
  obtain ⟨d0, hd0, _⟩ := Least_l0 T h0
  have hup : ∀ i : Int, 0 ≤ i → i < (n : Int) → rd d0 (rd told i) = wt l i (rd told i) := fun i i0 i1 => by
    obtain ⟨r0, r1, r2⟩ := T.rg i i0 i1
    have h1 := hd0.2 _ r0 r1
    have h2 := h1.2.1 i i0 i1 r2
    rw [rd_rep i0 i1] at h2
    rcases h1.2.2 with h3 | ⟨i', a, b, w, h3⟩
    · omega
    · rw [rd_rep a b] at h3
      have := hz i i' i0 i1 a b
      omega
  have hf : Fit (wt l) n told (fun _ => 0) (rd d0) := ⟨fun _ _ _ => Int.le_refl _, fun i a b => (hd0.2 _ (T.rg i a b).1 (T.rg i a b).2.1).1, fun i a b => by rw [hup i a b]; omega, fun i j a b e f w => by
    have := (hd0.2 j e f).2.1 i a b w
    rw [rd_rep a b] at this; omega⟩
  rcases o with _ | ⟨c, d⟩
  · obtain ⟨i, a, b, w⟩ := ho _ _ hf
    exact absurd w (by omega)
  · have hc0 : ∀ i : Int, 0 ≤ i → i < (n : Int) → rd c i = 0 := fun i a b => by
      have h1 := ho.2.2.2.2 _ _ hf i a b
      have h2 := ho.2.1 i a b
      omega
    exact ⟨c, d, hO, ho.1, ho.2.2.1.1, hc0, ho.2.2.1, fun i a b => by have h1 := ho.2.2.2.1 i a b; rw [hc0 i a b] at h1; omega⟩
theorem OffsetPlain_pure (l0 l1 : List Int) (h0 : (∀ x ∈ l0, I64 x) ∧ l0.length ≤ 17592186043904) (h1 : (∀ x ∈ l1, I64 x) ∧ l1.length ≤ 17592186043904) : ∃ k, orrerylaw20_OffsetPlain.f k l0 l1 = some true := by
  refine Ev.rounds (g := fun k => orrerylaw20_OffsetPlain.f k l0 l1) ?_
  unfold orrerylaw20_OffsetPlain.f
  have hlz := h0.2
  simp only [if_pos (show (0 : Int) ≤ (l0.length : Int) by omega), Int.toNat_natCast, if_pos (show l0.length ≤ 35184372088832 by omega)]
  clear h0 h1
  generalize hn : l0.length = n at hlz
  by_cases c : n ≤ 40
  · have h := Plain_l0 c l0 l1 hn (fun a b u P => ?_) n 0 [] [] (List.replicate n 0) (by omega) ⟨by simp, by simp, (fun e he => by cases he), (fun e he => by cases he), fun i' j a b => by omega, fun i' a b => by omega, by simp, fun x x0 x1 => by
        rw [rd_rep x0 x1]
        constructor
        · intro h; cases h
        · rintro ⟨k, a, b, _⟩; omega, fun k a b => by omega, fun k k' a b e => by omega⟩
    · exact h
    · have hnn : n * n ≤ 40 * 40 := Nat.mul_le_mul c c
      have hnn2 : n * (n + 1) ≤ 40 * 41 := Nat.mul_le_mul c (by omega)
      have ea : Edges n n a := fun e he => by have := P.ae e he; omega
      have eb : Edges n n b := fun e he => by
        have h1 := P.be e he
        have := pw_le l1 e.f0
        omega
      have wa : ∀ i j : Int, 0 ≤ i → i < (n : Int) → 0 ≤ j → j < (n : Int) → wt a i j = 0 := fun i j i0 i1 j0 j1 => by
        have h1 : 0 ≤ wt a i j := (wt_nonneg (fun e he => (ea e he).2.2.2.2.1) i j).2 ⟨_, P.am i j i0 i1 j0 j1, rfl, rfl⟩
        obtain ⟨e, he, e0, e1, e2⟩ := wt_att h1
        have := P.ae e he
        omega
      have wb : ∀ i : Int, 0 ≤ i → i < (n : Int) → wt b i (rd l0 i) = pw l1 i := fun i i0 i1 => by
        have h1 := wt_ge (P.bm i i0 i1)
        have hp := pw_le l1 i
        simp only at h1
        obtain ⟨e, he, e0, e1, e2⟩ := wt_att (show 0 ≤ wt b i (rd l0 i) by omega)
        have h2 := (P.be e he).2.2.2.2
        rw [e0] at h2
        omega
      have Ta : Whole n a l0 := ⟨by omega, by rw [P.al]; omega, ea, hn, fun i i0 i1 => ⟨(P.rg i i0 i1).1, (P.rg i i0 i1).2, by rw [wa i _ i0 i1 (P.rg i i0 i1).1 (P.rg i i0 i1).2]; omega⟩, fun k k' a b e => P.inj k k' a b e⟩
      have Tb : Whole n b l0 := ⟨by omega, by rw [P.bl]; omega, eb, hn, fun i i0 i1 => ⟨(P.rg i i0 i1).1, (P.rg i i0 i1).2, by rw [wb i i0 i1]; exact (pw_le l1 i).1⟩, fun k k' a b e => P.inj k k' a b e⟩
      obtain ⟨c1, d1, hO1, hc1, hd1, hz1, hD1, _⟩ := plain_off (by omega) Ta (fun i i' i0 i1 j0 j1 => by
        obtain ⟨r0, r1⟩ := P.rg i i0 i1
        rw [wa i _ i0 i1 r0 r1, wa i' _ j0 j1 r0 r1]; exact Int.le_refl _)
      obtain ⟨c2, d2, hO2, hc2, hd2, hz2, hD2, he2⟩ := plain_off (by omega) Tb (fun i i' i0 i1 j0 j1 => by
        rw [wb i i0 i1]
        have hp := pw_le l1 i
        by_cases q : 0 ≤ wt b i' (rd l0 i)
        · obtain ⟨e, he, e0, e1, e2⟩ := wt_att q
          rcases (P.be e he).2.2.2.2 with h2 | ⟨h2, h3⟩
          · omega
          · rw [e1, e0] at h2
            have hii : i' = i := by
              by_cases q1 : i < i'
              · exact absurd h2 (P.inj i i' i0 q1 j1)
              · by_cases q2 : i' < i
                · exact absurd h2.symm (P.inj i' i j0 q2 i1)
                · omega
            rw [hii, wb i i0 i1]; exact Int.le_refl _
        · omega)
      have hend := Plain_l2 c l1 c1 d1 c2 d2 l0 hc1 hd1 hc2 hd2 hn (fun i i0 i1 => ⟨hz1 i i0 i1, by
        rcases (hD1.2 i i0 i1).2.2 with h1 | ⟨i', a0, b0, w, h1⟩
        · exact h1
        · rw [h1, wa i' i a0 b0 i0 i1, hz1 i' a0 b0]; rfl, hz2 i i0 i1, (P.rg i i0 i1).1, (P.rg i i0 i1).2, by rw [he2 i i0 i1, wb i i0 i1]⟩) n 0 (by omega)
      have hj4 : Ev (fun k => orrerylaw20_OffsetPlain.j4 k l0 l1 c1 d1 c2 d2 false) true := Ev.step (fun k => by
        simp only [orrerylaw20_OffsetPlain.j4]
        rw [if_neg (by simp), hn]; rfl) hend
      refine Ev.step (f := fun k => (offset_Offsets.f k (n : Int) a l0).bind fun bt299 => ((offset_Offsets.f k (n : Int) b l0).bind fun bt306 => (if bt299.2.2 = 0 then (if bt306.2.2 = 0 then (if (bt299.1.length : Int) = (n : Int) then (orrerylaw20_OffsetPlain.j4 k l0 l1 bt299.1 bt299.2.1 bt306.1 bt306.2.1 ((bt306.1.length : Int) != (n : Int))) else (orrerylaw20_OffsetPlain.j4 k l0 l1 bt299.1 bt299.2.1 bt306.1 bt306.2.1 true)) else (orrerylaw20_OffsetPlain.j4 k l0 l1 bt299.1 bt299.2.1 bt306.1 bt306.2.1 true)) else (orrerylaw20_OffsetPlain.j4 k l0 l1 bt299.1 bt299.2.1 bt306.1 bt306.2.1 true)))) (fun k => ?_) (Ev.bind hO1 (Ev.bind hO2 ?_))
      · simp only [orrerylaw20_OffsetPlain.l0]; rw [if_neg (by omega)]
      · simp only [if_true, hc1, hc2, bne_self_eq_false]
        exact hj4
  · refine Ev.step (f := fun k => orrerylaw20_OffsetPlain.j1 k l0 l1 (n : Int) [] [] (List.replicate n 0) 0 (rd l0 0) l0 (n : Int) 0 true) (fun k => ?_) (Ev.step (f := fun _ => some true) (fun k => by simp [orrerylaw20_OffsetPlain.j1]) (Ev.now _))
    simp only [orrerylaw20_OffsetPlain.l0]
    rw [if_pos (by omega), if_pos (by omega), if_pos (by omega), if_pos (by omega)]
end Go.Proofs.Ytamloclgignfgaa.PA
