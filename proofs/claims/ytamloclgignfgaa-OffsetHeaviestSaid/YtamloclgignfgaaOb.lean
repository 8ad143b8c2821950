/- What Told, Least, Offsets and Ints tell, in plain Lean. -/
import Derived.Test.YtamloclgignfgaaPAx11
import Derived.Test.YtamloclgignfgaaPAx12
import Derived.Test.YtamloclgignfgaaPAx13
import Derived.Test.YtamloclgignfgaaPAx14
import Derived.Test.YtamloclgignfgaaOa
namespace Go.Proofs.Ytamloclgignfgaa.PA
open Go.RowKit Go.Proofs.YtamloclgignfgaaW.PrintWords Go.Proofs.YtamloclgignfgaaW.PrintLast Go.Proofs.YtamloclgignfgaaW.PrintMore
set_option linter.unusedVariables false
set_option linter.unusedSimpArgs false

/-! ### Told -/
theorem Told_l0 (a : Int) (l : List S40) (told : List Int) (hn : told.length ≤ 64) (t : List (List Int)) (b : Bool) (ht : Ev (fun k => orreryref19_Table.f k a a l) t) (hb : Ev (fun k => orreryref19_Matching.f k t a told) b) :
    ∀ (d i : Nat), i + d = told.length → Ev (fun k => orreryref20_Told.l0 k a l told told (told.length : Int) (i : Int)) (if (told.drop i).all (fun j => decide (0 ≤ j)) = true then b else false) := by
  intro d
  induction d with
  | zero =>
    intro i hi
    rw [List.drop_eq_nil_of_le (by omega)]
    refine Ev.step (f := fun k => (orreryref19_Table.f k a a l).bind fun t187 => ((orreryref19_Matching.f k t187 a told).bind fun t190 => (some t190))) (fun k => ?_) (Ev.bind ht (Ev.bind hb (Ev.now _)))
    simp only [orreryref20_Told.l0]; rw [if_neg (by omega)]
  | succ d ih =>
    intro i hi
    rw [drop_rdI (show i < told.length by omega)]
    generalize hx : rd told (i : Int) = x
    by_cases c : x < 0
    · rw [List.all_cons, decide_eq_false (show ¬ 0 ≤ x by omega), Bool.false_and, if_neg (by simp)]
      refine Ev.step (f := fun _ => some false) (fun k => ?_) (Ev.now _)
      simp only [orreryref20_Told.l0]
      rw [if_pos (by omega), if_pos (by omega), if_pos (by omega), hx, if_pos c]
    · rw [List.all_cons, decide_eq_true (show 0 ≤ x by omega), Bool.true_and]
      refine Ev.step (fun k => ?_) (ih (i + 1) (by omega))
      simp only [orreryref20_Told.l0]
      rw [if_pos (by omega), if_pos (by omega), if_pos (by omega), hx, if_neg c, w64 (by omega) (by omega), show (i : Int) + 1 = ((i + 1 : Nat) : Int) by omega]
theorem Ev_Told (a : Int) (l : List S40) (told : List Int) (hl : l.length ≤ 9223372036854775807) : Ev (fun k => orreryref20_Told.f k a l told) (toldB a l told) := by
  unfold orreryref20_Told.f
  have hR := Ev_Right a a l hl
  have hj : Ev (fun k => orreryref20_Told.j0 k a l told true) false := Ev.step (f := fun _ => some false) (fun k => by simp [orreryref20_Told.j0]) (Ev.now _)
  by_cases hb : rightB a a l = true
  · rw [hb] at hR
    refine Ev.bind hR ?_
    simp only [if_true]
    by_cases hl' : (told.length : Int) = a
    · rw [toldB_mat a l told hb hl']
      rw [show ((told.length : Int) != a) = false by simpa using hl']
      obtain ⟨⟨ha0, ha1, _, _, hlen⟩, hed⟩ := rightB_iff a a l hb
      have hE : Edges a.toNat a.toNat l := fun e he => by have := hed e he; omega
      have hM : Ev (fun k => orreryref19_Matching.f k (tabL a.toNat a.toNat l) a told) (matL (tabL a.toNat a.toNat l) a told 0 (List.replicate a.toNat 0)) := by
        unfold orreryref19_Matching.f
        have hG := tabL_grid l hE
        simp only [if_pos (show (told.length : Int) = ((tabL a.toNat a.toNat l).length : Int) by rw [hG.1]; omega), if_pos ha0, if_pos (show a.toNat ≤ 35184372088832 by omega)]
        have := Matching_l0 hG told (by omega) (by omega) told.length 0 (List.replicate a.toNat 0) (by omega) (by simp)
        rw [Int.toNat_of_nonneg ha0] at this
        simpa using this
      have := Told_l0 a l told (by omega) _ _ (Ev_Table hb) hM told.length 0 (by omega)
      rw [List.drop_zero] at this
      refine Ev.step (fun k => ?_) this
      simp [orreryref20_Told.j0]
    · have h2 : toldB a l told = false := by unfold toldB; rw [if_pos hb, if_neg hl']
      rw [h2, show ((told.length : Int) != a) = true by simpa using hl']
      exact hj
  · have hbf : rightB a a l = false := by simpa using hb
    have h2 : toldB a l told = false := by unfold toldB; rw [if_neg hb]
    rw [hbf] at hR
    rw [h2]
    refine Ev.bind hR ?_
    simp only [Bool.false_eq_true, if_false]
    exact hj

/-! ### Ints -/
theorem Ints_l0 (l l' : List Int) (h : l = l') (hn : l.length ≤ 64) : ∀ (d i : Nat), i + d = l.length → Ev (fun k => orreryref17_Ints.l0 k l l' (l.length : Int) (i : Int)) true := by
  subst h
  intro d
  induction d with
  | zero =>
    intro i hi
    refine Ev.step (f := fun _ => some true) (fun k => ?_) (Ev.now _)
    simp only [orreryref17_Ints.l0]; rw [if_neg (by omega)]
  | succ d ih =>
    intro i hi
    refine Ev.step (fun k => ?_) (ih (i + 1) (by omega))
    simp only [orreryref17_Ints.l0]
    rw [if_pos (by omega), if_pos (by omega), if_pos (by omega), if_pos (by omega), if_pos trivial, w64 (by omega) (by omega), show (i : Int) + 1 = ((i + 1 : Nat) : Int) by omega]
theorem Ev_Ints (l : List Int) (hn : l.length ≤ 64) : Ev (fun k => orreryref17_Ints.f k l l) true := by
  unfold orreryref17_Ints.f
  simp only [if_true]
  exact Ints_l0 l l rfl hn l.length 0 (by omega)

/-! ### Least -/
/-- Small offsets. -/
def CB (n : Nat) (c : List Int) : Prop := c.length = n ∧ ∀ i : Int, 0 ≤ i → i < (n : Int) → 0 ≤ rd c i ∧ rd c i ≤ 6
theorem ColP.hi {n m : Nat} {l : List S40} (hE : Edges n m l) {k : Nat} {c : List Int} (hc : CB k c) {x j i : Int} (hi : i ≤ (k : Int)) (h : ColP (wt l) c x j i) : x ≤ 106 := by
  rcases h.2.2 with h3 | ⟨i', a, b, w, h3⟩
  · omega
  · have := wt_le hE i' j
    have := hc.2 i' a (by omega)
    omega
theorem Least_l2 {n : Nat} {l : List S40} {told : List Int} (T : Whole n l told) {c : List Int} (hc : CB n c) (j : Nat) (hj : j < n) (d0 : List Int) : ∀ (r i : Nat) (d : List Int), i + r = n → d.length = n → (∀ j' : Int, 0 ≤ j' → j' < (n : Int) → j' ≠ (j : Int) → rd d j' = rd d0 j') → ColP (wt l) c (rd d (j : Int)) (j : Int) (i : Int) →
    ∃ d' : List Int, d'.length = n ∧ (∀ j' : Int, 0 ≤ j' → j' < (n : Int) → j' ≠ (j : Int) → rd d' j' = rd d0 j') ∧ ColP (wt l) c (rd d' (j : Int)) (j : Int) (n : Int) ∧
      ∀ R, Ev (fun k => orreryref20_Least.l1 k (tabL n n l) told (n : Int) c d' (n : Int) ((j + 1 : Nat) : Int)) R → Ev (fun k => orreryref20_Least.l2 k (tabL n n l) told (n : Int) c d (j : Int) (n : Int) (j : Int) (n : Int) (i : Int)) R := by
  have hG := tabL_grid l T.hE
  have hn := T.hn
  intro r
  induction r with
  | zero =>
    intro i d hi hd ho hp
    have hin : i = n := by omega
    subst hin
    refine ⟨d, hd, ho, hp, fun R hR => Ev.step (fun k => ?_) hR⟩
    simp only [orreryref20_Least.l2]
    rw [if_neg (by omega), w64 (by omega) (by omega), show (j : Int) + 1 = ((j + 1 : Nat) : Int) by omega]
  | succ r ih =>
    intro i d hi hd ho hp
    have hrow := hG.row (i := (i : Int)) (by omega) (by omega)
    have hta := tab_at T.hE (show (0 : Int) ≤ (i : Int) by omega) (show (i : Int) < (n : Int) by omega) (show (0 : Int) ≤ (j : Int) by omega) (show (j : Int) < (n : Int) by omega)
    have hw := wt_le T.hE (i : Int) (j : Int)
    have hci := hc.2 (i : Int) (by omega) (by omega)
    by_cases c1 : 0 ≤ wt l (i : Int) (j : Int)
    · by_cases c2 : wt l (i : Int) (j : Int) + rd c (i : Int) > rd d (j : Int)
      · have hset := fun j' => rd_set d (j : Int) j' (wt l (i : Int) (j : Int) + rd c (i : Int)) (by omega) (by omega)
        obtain ⟨d', h1, h2, h3, h4⟩ := ih (i + 1) (d.set (j : Int).toNat (wt l (i : Int) (j : Int) + rd c (i : Int))) (by omega) (by simp [hd])
          (fun j' a b e => by rw [hset j' a, if_neg (fun h => e h.symm)]; exact ho j' a b e)
          (by rw [hset (j : Int) (by omega), if_pos rfl]; have := hp.up (by omega) c1 (by omega); simpa using this)
        refine ⟨d', h1, h2, h3, fun R hR => Ev.step (fun k => ?_) (h4 R hR)⟩
        simp only [orreryref20_Least.l2]
        rw [if_pos (by omega), if_pos (by omega), if_pos (by rw [hG.1]; omega), if_pos (by omega), if_pos (by rw [hrow]; omega), hta, if_pos (by omega), if_pos (by rw [hc.1]; omega), if_pos (by omega), w64 (by omega) (by omega), if_pos c2, w64 (by omega) (by omega), show (i : Int) + 1 = ((i + 1 : Nat) : Int) by omega]
      · obtain ⟨d', h1, h2, h3, h4⟩ := ih (i + 1) d (by omega) hd ho (by have := hp.stay (by omega) (.inr (by omega)); simpa using this)
        refine ⟨d', h1, h2, h3, fun R hR => Ev.step (fun k => ?_) (h4 R hR)⟩
        simp only [orreryref20_Least.l2]
        rw [if_pos (by omega), if_pos (by omega), if_pos (by rw [hG.1]; omega), if_pos (by omega), if_pos (by rw [hrow]; omega), hta, if_pos (by omega), if_pos (by rw [hc.1]; omega), if_pos (by omega), w64 (by omega) (by omega), if_neg c2, w64 (by omega) (by omega), show (i : Int) + 1 = ((i + 1 : Nat) : Int) by omega]
    · obtain ⟨d', h1, h2, h3, h4⟩ := ih (i + 1) d (by omega) hd ho (by have := hp.stay (by omega) (.inl (by omega)); simpa using this)
      refine ⟨d', h1, h2, h3, fun R hR => Ev.step (fun k => ?_) (h4 R hR)⟩
      simp only [orreryref20_Least.l2]
      rw [if_pos (by omega), if_pos (by omega), if_pos (by rw [hG.1]; omega), if_pos (by omega), if_pos (by rw [hrow]; omega), hta, if_neg (by omega), w64 (by omega) (by omega), show (i : Int) + 1 = ((i + 1 : Nat) : Int) by omega]
theorem Least_l1 {n : Nat} {l : List S40} {told : List Int} (T : Whole n l told) {c : List Int} (hc : CB n c) : ∀ (r j : Nat) (d : List Int), j + r = n → d.length = n → (∀ j' : Int, 0 ≤ j' → j' < (j : Int) → ColP (wt l) c (rd d j') j' (n : Int)) → (∀ j' : Int, (j : Int) ≤ j' → j' < (n : Int) → rd d j' = 0) →
    ∃ d', IsD (wt l) n c d' ∧ ∀ R, Ev (fun k => orreryref20_Least.l3 k (tabL n n l) told (n : Int) c d' true (n : Int) 0) R → Ev (fun k => orreryref20_Least.l1 k (tabL n n l) told (n : Int) c d (n : Int) (j : Int)) R := by
  have hG := tabL_grid l T.hE
  have hn := T.hn
  intro r
  induction r with
  | zero =>
    intro j d hj hd hp hz
    refine ⟨d, ⟨hd, fun j' a b => hp j' a (by omega)⟩, fun R hR => Ev.step (fun k => ?_) hR⟩
    simp only [orreryref20_Least.l1]
    rw [if_neg (by omega), hG.1]
  | succ r ih =>
    intro j d hj hd hp hz
    obtain ⟨d1, h1, h2, h3, h4⟩ := Least_l2 T hc j (by omega) d n 0 d (by omega) hd (fun _ _ _ _ => rfl) (by rw [hz (j : Int) (by omega) (by omega)]; exact ColP.zero _ _ _)
    obtain ⟨d', h5, h6⟩ := ih (j + 1) d1 (by omega) h1 (fun j' a b => by
      by_cases e : j' = (j : Int)
      · rw [e]; exact h3
      · rw [h2 j' a (by omega) e]; exact hp j' a (by omega)) (fun j' a b => by rw [h2 j' (by omega) b (by omega)]; exact hz j' (by omega) b)
    refine ⟨d', h5, fun R hR => Ev.step (fun k => ?_) (h4 R (h6 R hR))⟩
    simp only [orreryref20_Least.l1]
    rw [if_pos (by omega), hG.1]; rfl
theorem Least_l0 {n : Nat} {l : List S40} {told : List Int} (T : Whole n l told) {c : List Int} (hc : CB n c) :
    ∃ d', IsD (wt l) n c d' ∧ ∀ R, Ev (fun k => orreryref20_Least.l3 k (tabL n n l) told (n : Int) c d' true (n : Int) 0) R → Ev (fun k => orreryref20_Least.l0 k (tabL n n l) told (n : Int) c) R := by
  have hn := T.hn
  obtain ⟨d', h1, h2⟩ := Least_l1 T hc n 0 (List.replicate n 0) (by omega) (by simp) (fun j' a b => by omega) (fun j' a b => rd_rep (by omega) b)
  refine ⟨d', h1, fun R hR => Ev.step (fun k => ?_) (h2 R hR)⟩
  simp only [orreryref20_Least.l0]
  rw [if_pos (by omega), if_pos (by omega), Int.toNat_natCast, Option.bind_some, List.length_replicate]; rfl
theorem Least_l3 {n : Nat} {l : List S40} {told : List Int} (T : Whole n l told) {c d : List Int} (hc : CB n c) (hd : IsD (wt l) n c d) (R : List Int × List Int × Bool)
    (hbad : (∃ i : Int, 0 ≤ i ∧ i < (n : Int) ∧ 6 < rd (nxt (wt l) n told d) i) → R = ([], [], false))
    (hsame : (∀ i : Int, 0 ≤ i → i < (n : Int) → rd (nxt (wt l) n told d) i ≤ 6) → nxt (wt l) n told d = c → R = (c, d, true))
    (hnext : (∀ i : Int, 0 ≤ i → i < (n : Int) → rd (nxt (wt l) n told d) i ≤ 6) → nxt (wt l) n told d ≠ c → Ev (fun k => orreryref20_Least.l0 k (tabL n n l) told (n : Int) (nxt (wt l) n told d)) R) :
    ∀ (r i : Nat) (cur : List Int) (b : Bool), i + r = n → cur.length = n → (∀ k : Int, 0 ≤ k → k < (i : Int) → rd cur k = rd (nxt (wt l) n told d) k) → (∀ k : Int, (i : Int) ≤ k → k < (n : Int) → rd cur k = rd c k) → (b = true ↔ ∀ k : Int, 0 ≤ k → k < (i : Int) → rd (nxt (wt l) n told d) k = rd c k) → (∀ k : Int, 0 ≤ k → k < (i : Int) → rd (nxt (wt l) n told d) k ≤ 6) →
      Ev (fun k => orreryref20_Least.l3 k (tabL n n l) told (n : Int) cur d b (n : Int) (i : Int)) R := by
  have hG := tabL_grid l T.hE
  have hn := T.hn
  have hnl := nxt_len (wt l) n told d
  intro r
  induction r with
  | zero =>
    intro i cur b hi hl hlo hhi hb h6
    have hin : i = n := by omega
    subst hin
    have hcur := ext_rd hl hnl hlo
    by_cases q : b = true
    · have hcc := ext_rd hnl hc.1 (hb.1 q)
      rw [hsame h6 hcc, ← hcc, ← hcur]
      refine Ev.step (f := fun _ => some _) (fun k => ?_) (Ev.now _)
      simp only [orreryref20_Least.l3]
      rw [if_neg (by omega), if_pos q]
    · have hne : nxt (wt l) i told d ≠ c := fun h => q (hb.2 (fun k _ _ => by rw [h]))
      refine Ev.step (fun k => ?_) (hnext h6 hne)
      simp only [orreryref20_Least.l3]
      rw [if_neg (by omega), if_neg q, hcur]
  | succ r ih =>
    intro i cur b hi hl hlo hhi hb h6
    obtain ⟨r0, r1, r2⟩ := T.rg (i : Int) (by omega) (by omega)
    have hrow := hG.row (i := (i : Int)) (by omega) (by omega)
    have hta := tab_at T.hE (show (0 : Int) ≤ (i : Int) by omega) (show (i : Int) < (n : Int) by omega) r0 r1
    have hw := wt_le T.hE (i : Int) (rd told (i : Int))
    have hdc := hd.2 _ r0 r1
    have hd0 := hdc.1
    have hd1 := hdc.hi T.hE hc (Int.le_refl _)
    have hnx := rd_nxt (wt l) n told d (i := (i : Int)) (by omega) (by omega)
    have hcuri := hhi (i : Int) (by omega) (by omega)
    have hlen := T.len
    by_cases q : rd d (rd told (i : Int)) - wt l (i : Int) (rd told (i : Int)) > 6
    · rw [hbad ⟨(i : Int), by omega, by omega, by rw [hnx]; omega⟩]
      refine Ev.step (f := fun _ => some _) (fun k => ?_) (Ev.now _)
      simp only [orreryref20_Least.l3]
      rw [if_pos (by omega), if_pos (by omega), if_pos (by omega), if_pos (by omega), if_pos (by rw [hd.1]; omega), if_pos (by rw [hG.1]; omega), if_pos (by rw [hrow]; omega), hta, w64 (by omega) (by omega), if_pos q]
    · have hset := fun k k0 => rd_set cur (i : Int) k (rd d (rd told (i : Int)) - wt l (i : Int) (rd told (i : Int))) (by omega) (by omega) k0
      have step := fun b' hb' => ih (i + 1) (cur.set (i : Int).toNat (rd d (rd told (i : Int)) - wt l (i : Int) (rd told (i : Int)))) b' (by omega) (by simp [hl])
        (fun k k0 k1 => by
          rw [hset k k0]
          by_cases e : (i : Int) = k
          · rw [if_pos e, ← e, hnx]
          · rw [if_neg e]; exact hlo k k0 (by omega))
        (fun k k0 k1 => by rw [hset k (by omega), if_neg (by omega)]; exact hhi k (by omega) k1) hb'
        (fun k k0 k1 => by
          by_cases e : k = (i : Int)
          · rw [e, hnx]; omega
          · exact h6 k k0 (by omega))
      by_cases qb : b = true
      · refine Ev.step (fun k => ?_) (step ((rd d (rd told (i : Int)) - wt l (i : Int) (rd told (i : Int))) == rd cur (i : Int)) ?_)
        · simp only [orreryref20_Least.l3]
          rw [if_pos (by omega), if_pos (by omega), if_pos (by omega), if_pos (by omega), if_pos (by rw [hd.1]; omega), if_pos (by rw [hG.1]; omega), if_pos (by rw [hrow]; omega), hta, w64 (n := rd d (rd told (i : Int)) - wt l (i : Int) (rd told (i : Int))) (by omega) (by omega), if_neg q, if_pos qb, if_pos (by omega), w64 (by omega) (by omega), show (i : Int) + 1 = ((i + 1 : Nat) : Int) by omega]
        · rw [beq_iff_eq, hcuri, ← hnx]
          constructor
          · intro h k k0 k1
            by_cases e : k = (i : Int)
            · rw [e]; exact h
            · exact hb.1 qb k k0 (by omega)
          · intro h; exact h (i : Int) (by omega) (by omega)
      · refine Ev.step (fun k => ?_) (step false ?_)
        · simp only [orreryref20_Least.l3]
          rw [if_pos (by omega), if_pos (by omega), if_pos (by omega), if_pos (by omega), if_pos (by rw [hd.1]; omega), if_pos (by rw [hG.1]; omega), if_pos (by rw [hrow]; omega), hta, w64 (n := rd d (rd told (i : Int)) - wt l (i : Int) (rd told (i : Int))) (by omega) (by omega), if_neg q, if_neg qb, if_pos (by omega), w64 (by omega) (by omega), show (i : Int) + 1 = ((i + 1 : Nat) : Int) by omega]
        · constructor
          · intro h; cases h
          · intro h; exact absurd (hb.2 (fun k k0 k1 => h k k0 (by omega))) qb

/-! ### Offsets -/
theorem Off_l0 {n : Nat} {l : List S40} {told : List Int} (T : Whole n l told) (R : List Int × List Int × Int) : ∀ (r i : Nat) (own : List Int), i + r = l.length → own.length = n →
    Ev (fun k => offset_Offsets.l1 k l told ((l.drop i).foldl (oE told) own) (List.replicate n 0) (List.replicate n 0)) R → Ev (fun k => offset_Offsets.l0 k (n : Int) l told own l (l.length : Int) (i : Int)) R := by
  have hn := T.hn
  have hl := T.hl
  intro r
  induction r with
  | zero =>
    intro i own hi ho h
    rw [List.drop_eq_nil_of_le (by omega)] at h
    refine Ev.step (fun k => ?_) h
    simp only [offset_Offsets.l0]
    rw [if_neg (by omega), if_pos (by omega), if_pos (by omega), Int.toNat_natCast]; rfl
  | succ r ih =>
    intro i own hi ho h
    rw [drop_rd (show i < l.length by omega), List.foldl_cons] at h
    have he := T.hE (rd_T40 l (i : Int)) (by
      unfold rd_T40; rw [List.getD_eq_getElem?_getD, Int.toNat_natCast, List.getElem?_eq_getElem (by omega)]; exact List.getElem_mem _)
    have hlen := T.len
    generalize hx : rd_T40 l (i : Int) = e at he h
    by_cases q : rd told e.f0 = e.f1
    · have ho2 : oE told own e = own.set e.f0.toNat (mx (rd own e.f0) e.f2) := by unfold oE; rw [if_pos q]
      rw [ho2] at h
      refine Ev.step (fun k => ?_) (ih (i + 1) _ (by omega) (by simp [ho]) h)
      simp only [offset_Offsets.l0]
      rw [if_pos (by omega), if_pos (by omega), if_pos (by omega), hx, if_pos he.1, if_pos (by omega), if_pos q, if_pos (by omega), w64 (by omega) (by omega), show (i : Int) + 1 = ((i + 1 : Nat) : Int) by omega]
    · have ho2 : oE told own e = own := by unfold oE; rw [if_neg q]
      rw [ho2] at h
      refine Ev.step (fun k => ?_) (ih (i + 1) _ (by omega) ho h)
      simp only [offset_Offsets.l0]
      rw [if_pos (by omega), if_pos (by omega), if_pos (by omega), hx, if_pos he.1, if_pos (by omega), if_neg q, w64 (by omega) (by omega), show (i : Int) + 1 = ((i + 1 : Nat) : Int) by omega]
theorem Off_l2 {n : Nat} {l : List S40} {told : List Int} (T : Whole n l told) {c : List Int} (hc : CB n c) (own : List Int) (R : List Int × List Int × Int) : ∀ (r i : Nat) (d : List Int), i + r = l.length → d.length = n →
    Ev (fun k => offset_Offsets.l3 k l told own c ((l.drop i).foldl (dE c) d) false told (n : Int) 0) R → Ev (fun k => offset_Offsets.l2 k l told own c d l (l.length : Int) (i : Int)) R := by
  have hn := T.hn
  have hl := T.hl
  intro r
  induction r with
  | zero =>
    intro i d hi ho h
    rw [List.drop_eq_nil_of_le (by omega)] at h
    refine Ev.step (fun k => ?_) h
    simp only [offset_Offsets.l2]
    rw [if_neg (by omega), T.len]; rfl
  | succ r ih =>
    intro i d hi ho h
    rw [drop_rd (show i < l.length by omega), List.foldl_cons] at h
    have he := T.hE (rd_T40 l (i : Int)) (by
      unfold rd_T40; rw [List.getD_eq_getElem?_getD, Int.toNat_natCast, List.getElem?_eq_getElem (by omega)]; exact List.getElem_mem _)
    generalize hx : rd_T40 l (i : Int) = e at he h
    have hce := hc.2 e.f0 he.1 he.2.1
    refine Ev.step (fun k => ?_) (ih (i + 1) (dE c d e) (by omega) (by unfold dE; simp [ho]) h)
    simp only [offset_Offsets.l2]
    rw [if_pos (by omega), if_pos (by omega), if_pos (by omega), hx, if_pos he.2.2.1, if_pos (by omega), if_pos he.1, if_pos (by rw [hc.1]; omega), w64 (n := e.f2 + rd c e.f0) (by omega) (by omega), w64 (by omega) (by omega), show (i : Int) + 1 = ((i + 1 : Nat) : Int) by omega]
    rfl
theorem Off_l1 {n : Nat} {l : List S40} {told : List Int} (T : Whole n l told) {c : List Int} (hc : CB n c) (own : List Int) (R : List Int × List Int × Int) (d d' : List Int) (hd : d.length = n) (hd' : IsD (wt l) n c d') (h : ∀ j : Int, 0 ≤ j → j < (n : Int) → 0 ≤ rd d j ∧ rd d j ≤ rd d' j)
    (hR : Ev (fun k => offset_Offsets.l3 k l told own c d' false told (n : Int) 0) R) : Ev (fun k => offset_Offsets.l1 k l told own c d) R := by
  have h1 := Off_l2 T hc own R l.length 0 d (by omega) hd (by rw [List.drop_zero, dE_isD T.hE hd hd' h]; exact hR)
  refine Ev.step (fun k => ?_) h1
  simp only [offset_Offsets.l1]; rfl
theorem Off_l3 {n : Nat} {l : List S40} {told : List Int} (T : Whole n l told) {c d own : List Int} (hc : CB n c) (hd : IsD (wt l) n c d) (hol : own.length = n) (ho : ∀ i : Int, 0 ≤ i → i < (n : Int) → rd own i = wt l i (rd told i)) (R : List Int × List Int × Int)
    (hbad : (∃ i : Int, 0 ≤ i ∧ i < (n : Int) ∧ 6 < rd (nxt (wt l) n told d) i) → R = ([], [], 2))
    (hsame : (∀ i : Int, 0 ≤ i → i < (n : Int) → rd (nxt (wt l) n told d) i ≤ 6) → nxt (wt l) n told d = c → R = (c, d, 0))
    (hnext : (∀ i : Int, 0 ≤ i → i < (n : Int) → rd (nxt (wt l) n told d) i ≤ 6) → nxt (wt l) n told d ≠ c → Ev (fun k => offset_Offsets.l1 k l told own (nxt (wt l) n told d) d) R) :
    ∀ (r i : Nat) (cur : List Int) (b : Bool), i + r = n → cur.length = n → (∀ k : Int, 0 ≤ k → k < (i : Int) → rd cur k = rd (nxt (wt l) n told d) k) → (∀ k : Int, (i : Int) ≤ k → k < (n : Int) → rd cur k = rd c k) → (b = false ↔ ∀ k : Int, 0 ≤ k → k < (i : Int) → rd (nxt (wt l) n told d) k = rd c k) → (∀ k : Int, 0 ≤ k → k < (i : Int) → rd (nxt (wt l) n told d) k ≤ 6) →
      Ev (fun k => offset_Offsets.l3 k l told own cur d b told (n : Int) (i : Int)) R := by
  have hn := T.hn
  have hnl := nxt_len (wt l) n told d
  intro r
  induction r with
  | zero =>
    intro i cur b hi hl hlo hhi hb h6
    have hin : i = n := by omega
    subst hin
    have hcur := ext_rd hl hnl hlo
    by_cases q : b = false
    · have hcc := ext_rd hnl hc.1 (hb.1 q)
      rw [hsame h6 hcc, ← hcc, ← hcur]
      refine Ev.step (f := fun _ => some _) (fun k => ?_) (Ev.now _)
      simp only [offset_Offsets.l3]
      rw [if_neg (by omega), if_neg (by simp [q])]
    · have hne : nxt (wt l) i told d ≠ c := fun h => q (hb.2 (fun k _ _ => by rw [h]))
      refine Ev.step (fun k => ?_) (hnext h6 hne)
      simp only [offset_Offsets.l3]
      rw [if_neg (by omega), if_pos (by simpa using q), hcur]
  | succ r ih =>
    intro i cur b hi hl hlo hhi hb h6
    obtain ⟨r0, r1, r2⟩ := T.rg (i : Int) (by omega) (by omega)
    have hw := wt_le T.hE (i : Int) (rd told (i : Int))
    have hdc := hd.2 _ r0 r1
    have hd0 := hdc.1
    have hd1 := hdc.hi T.hE hc (Int.le_refl _)
    have hnx := rd_nxt (wt l) n told d (i := (i : Int)) (by omega) (by omega)
    have hoi := ho (i : Int) (by omega) (by omega)
    have hcuri := hhi (i : Int) (by omega) (by omega)
    have hlen := T.len
    have hwr : wrap64 (rd d (rd told (i : Int)) - rd own (i : Int)) = rd (nxt (wt l) n told d) (i : Int) := by rw [hoi, w64 (by omega) (by omega), hnx]
    have h6' : rd (nxt (wt l) n told d) (i : Int) ≤ 6 → ∀ k : Int, 0 ≤ k → k < ((i + 1 : Nat) : Int) → rd (nxt (wt l) n told d) k ≤ 6 := fun hq k k0 k1 => by
      by_cases e : k = (i : Int)
      · rw [e]; exact hq
      · exact h6 k k0 (by omega)
    by_cases qs : rd (nxt (wt l) n told d) (i : Int) = rd cur (i : Int)
    · by_cases q : rd cur (i : Int) > 6
      · rw [hbad ⟨(i : Int), by omega, by omega, by rw [qs]; omega⟩]
        refine Ev.step (f := fun _ => some _) (fun k => ?_) (Ev.now _)
        simp only [offset_Offsets.l3]
        rw [if_pos (by omega), if_pos (by omega), if_pos (by omega), if_pos (by omega), if_pos (by rw [hd.1]; omega), if_pos (by omega), if_pos (by omega), hwr, if_pos qs, if_pos q]
      · refine Ev.step (fun k => ?_) (ih (i + 1) cur b (by omega) hl (fun k k0 k1 => by
            by_cases e : k = (i : Int)
            · rw [e, qs]
            · exact hlo k k0 (by omega)) (fun k k0 k1 => hhi k (by omega) k1) ?_ (h6' (by omega)))
        · simp only [offset_Offsets.l3]
          rw [if_pos (by omega), if_pos (by omega), if_pos (by omega), if_pos (by omega), if_pos (by rw [hd.1]; omega), if_pos (by omega), if_pos (by omega), hwr, if_pos qs, if_neg q, w64 (by omega) (by omega), show (i : Int) + 1 = ((i + 1 : Nat) : Int) by omega]
        · rw [hb]
          constructor
          · intro h k k0 k1
            by_cases e : k = (i : Int)
            · rw [e, qs, hcuri]
            · exact h k k0 (by omega)
          · intro h k k0 k1; exact h k k0 (by omega)
    · have hset := fun k k0 => rd_set cur (i : Int) k (rd (nxt (wt l) n told d) (i : Int)) (by omega) (by omega) k0
      by_cases q : rd (nxt (wt l) n told d) (i : Int) > 6
      · rw [hbad ⟨(i : Int), by omega, by omega, q⟩]
        refine Ev.step (f := fun _ => some _) (fun k => ?_) (Ev.now _)
        simp only [offset_Offsets.l3]
        rw [if_pos (by omega), if_pos (by omega), if_pos (by omega), if_pos (by omega), if_pos (by rw [hd.1]; omega), if_pos (by omega), if_pos (by omega), hwr, if_neg qs, Option.bind_some, hset _ (by omega), if_pos rfl, if_pos q]
      · refine Ev.step (fun k => ?_) (ih (i + 1) (cur.set (i : Int).toNat (rd (nxt (wt l) n told d) (i : Int))) true (by omega) (by simp [hl]) (fun k k0 k1 => by
            rw [hset k k0]
            by_cases e : (i : Int) = k
            · rw [if_pos e, e]
            · rw [if_neg e]; exact hlo k k0 (by omega)) (fun k k0 k1 => by rw [hset k (by omega), if_neg (by omega)]; exact hhi k (by omega) k1) ?_ (h6' (by omega)))
        · simp only [offset_Offsets.l3]
          rw [if_pos (by omega), if_pos (by omega), if_pos (by omega), if_pos (by omega), if_pos (by rw [hd.1]; omega), if_pos (by omega), if_pos (by omega), hwr, if_neg qs, Option.bind_some, hset _ (by omega), if_pos rfl, if_neg q, w64 (by omega) (by omega), show (i : Int) + 1 = ((i + 1 : Nat) : Int) by omega]
        · constructor
          · intro h; cases h
          · intro h; exact absurd ((h (i : Int) (by omega) (by omega)).trans hcuri.symm) qs

/-! ### both -/
theorem both {n : Nat} {l : List S40} {told : List Int} (T : Whole n l told) : ∀ (N : Nat) (c : List Int), CB n c → (∀ more up, Fit (wt l) n told more up → ∀ i : Int, 0 ≤ i → i < (n : Int) → rd c i ≤ more i) → 6 * (n : Int) - sm (rd c) n ≤ (N : Int) →
    ∃ o, Best (wt l) n told o ∧ Ev (fun k => orreryref20_Least.l0 k (tabL n n l) told (n : Int) c) (outL o) ∧
      ∀ own d, own.length = n → (∀ i : Int, 0 ≤ i → i < (n : Int) → rd own i = wt l i (rd told i)) → d.length = n → (∀ d', IsD (wt l) n c d' → ∀ j : Int, 0 ≤ j → j < (n : Int) → 0 ≤ rd d j ∧ rd d j ≤ rd d' j) → Ev (fun k => offset_Offsets.l1 k l told own c d) (outO o) := by
  intro N
  induction N using Nat.strongRecOn with
  | _ N ih =>
  intro c hc hle hN
  have hcl := hc.1
  obtain ⟨d, hd, hL⟩ := Least_l0 T hc
  have hnl := nxt_len (wt l) n told d
  have hup : ∀ i : Int, 0 ≤ i → i < (n : Int) → rd c i ≤ rd (nxt (wt l) n told d) i := fun i i0 i1 => by
    obtain ⟨r0, r1, r2⟩ := T.rg i i0 i1
    rw [rd_nxt _ _ _ _ i0 i1]
    have := (hd.2 _ r0 r1).2.1 i i0 i1 r2
    omega
  have hle' : ∀ more up, Fit (wt l) n told more up → ∀ i : Int, 0 ≤ i → i < (n : Int) → rd (nxt (wt l) n told d) i ≤ more i := fun more up hf i i0 i1 => by
    obtain ⟨r0, r1, r2⟩ := T.rg i i0 i1
    rw [rd_nxt _ _ _ _ i0 i1]
    have h1 := hf.d_le hd (hle more up hf) (rd told i) r0 r1 (hf.d0 i i0 i1)
    have h2 := hf.eq i i0 i1
    omega
  have startL : ∀ R, (∀ (r i : Nat) (cur : List Int) (b : Bool), i + r = n → cur.length = n → (∀ k : Int, 0 ≤ k → k < (i : Int) → rd cur k = rd (nxt (wt l) n told d) k) → (∀ k : Int, (i : Int) ≤ k → k < (n : Int) → rd cur k = rd c k) → (b = true ↔ ∀ k : Int, 0 ≤ k → k < (i : Int) → rd (nxt (wt l) n told d) k = rd c k) → (∀ k : Int, 0 ≤ k → k < (i : Int) → rd (nxt (wt l) n told d) k ≤ 6) → Ev (fun k => orreryref20_Least.l3 k (tabL n n l) told (n : Int) cur d b (n : Int) (i : Int)) R) → Ev (fun k => orreryref20_Least.l0 k (tabL n n l) told (n : Int) c) R :=
    fun R h => hL R (h n 0 c true (by omega) hcl (fun k a b => by omega) (fun k a b => rfl) ⟨fun _ k a b => by omega, fun _ => rfl⟩ (fun k a b => by omega))
  have startO : ∀ R own (d0 : List Int), own.length = n → d0.length = n → (∀ d', IsD (wt l) n c d' → ∀ j : Int, 0 ≤ j → j < (n : Int) → 0 ≤ rd d0 j ∧ rd d0 j ≤ rd d' j) → (∀ (r i : Nat) (cur : List Int) (b : Bool), i + r = n → cur.length = n → (∀ k : Int, 0 ≤ k → k < (i : Int) → rd cur k = rd (nxt (wt l) n told d) k) → (∀ k : Int, (i : Int) ≤ k → k < (n : Int) → rd cur k = rd c k) → (b = false ↔ ∀ k : Int, 0 ≤ k → k < (i : Int) → rd (nxt (wt l) n told d) k = rd c k) → (∀ k : Int, 0 ≤ k → k < (i : Int) → rd (nxt (wt l) n told d) k ≤ 6) → Ev (fun k => offset_Offsets.l3 k l told own cur d b told (n : Int) (i : Int)) R) → Ev (fun k => offset_Offsets.l1 k l told own c d0) R :=
    fun R own d0 hol hd0 hdd h => Off_l1 T hc own R d0 d hd0 hd (hdd d hd) (h n 0 c false (by omega) hcl (fun k a b => by omega) (fun k a b => rfl) ⟨fun _ k a b => by omega, fun _ => rfl⟩ (fun k a b => by omega))
  by_cases hbad : ∃ i : Int, 0 ≤ i ∧ i < (n : Int) ∧ 6 < rd (nxt (wt l) n told d) i
  · have hnb : ¬ ∀ i : Int, 0 ≤ i → i < (n : Int) → rd (nxt (wt l) n told d) i ≤ 6 := by
      obtain ⟨i, a, b, w⟩ := hbad
      intro h; have := h i a b; omega
    refine ⟨none, ?_, ?_, ?_⟩
    · intro more up hf
      obtain ⟨i, a, b, w⟩ := hbad
      exact ⟨i, a, b, by have := hle' more up hf i a b; omega⟩
    · exact startL _ (Least_l3 T hc hd _ (fun _ => rfl) (fun h => absurd h hnb) (fun h => absurd h hnb))
    · intro own d0 hol ho hd0 hdd
      exact startO _ own d0 hol hd0 hdd (Off_l3 T hc hd hol ho _ (fun _ => rfl) (fun h => absurd h hnb) (fun h => absurd h hnb))
  have h6 : ∀ i : Int, 0 ≤ i → i < (n : Int) → rd (nxt (wt l) n told d) i ≤ 6 := fun i a b => by
    by_cases h : rd (nxt (wt l) n told d) i ≤ 6
    · exact h
    · exact absurd ⟨i, a, b, by omega⟩ hbad
  by_cases hs : nxt (wt l) n told d = c
  · refine ⟨some (c, d), ⟨hcl, hc.2, hd, fun i i0 i1 => ?_, hle⟩, ?_, ?_⟩
    · have := rd_nxt (wt l) n told d i0 i1
      rw [hs] at this
      omega
    · exact startL _ (Least_l3 T hc hd _ (fun h => absurd h hbad) (fun _ _ => rfl) (fun _ h => absurd hs h))
    · intro own d0 hol ho hd0 hdd
      exact startO _ own d0 hol hd0 hdd (Off_l3 T hc hd hol ho _ (fun h => absurd h hbad) (fun _ _ => rfl) (fun _ h => absurd hs h))
  · have hc' : CB n (nxt (wt l) n told d) := ⟨hnl, fun i a b => ⟨by have := hup i a b; have := hc.2 i a b; omega, h6 i a b⟩⟩
    have hlt : sm (rd c) n < sm (rd (nxt (wt l) n told d)) n := by
      by_cases h : ∃ i : Int, 0 ≤ i ∧ i < (n : Int) ∧ rd c i < rd (nxt (wt l) n told d) i
      · obtain ⟨i, a, b, w⟩ := h
        exact sm_lt n hup i a b w
      · exfalso
        refine hs (ext_rd hnl hcl (fun i a b => ?_))
        have := hup i a b
        by_cases e : rd c i < rd (nxt (wt l) n told d) i
        · exact absurd ⟨i, a, b, e⟩ h
        · omega
    have hmx : sm (rd (nxt (wt l) n told d)) n ≤ 6 * (n : Int) := by
      have := sm_le (f := rd (nxt (wt l) n told d)) (g := fun _ => 6) n h6
      rw [sm_const] at this; exact this
    obtain ⟨o, h1, h2, h3⟩ := ih (N - 1) (by omega) (nxt (wt l) n told d) hc' hle' (by omega)
    refine ⟨o, h1, ?_, ?_⟩
    · exact startL _ (Least_l3 T hc hd _ (fun h => absurd h hbad) (fun _ h => absurd h hs) (fun _ _ => h2))
    · intro own d0 hol ho hd0 hdd
      exact startO _ own d0 hol hd0 hdd (Off_l3 T hc hd hol ho _ (fun h => absurd h hbad) (fun _ h => absurd h hs) (fun _ _ => h3 own d hol ho hd.1 (fun d' hd' j j0 j1 =>
        ⟨(hd.2 j j0 j1).1, ColP.le hup (hd.2 j j0 j1) (hd'.2 j j0 j1)⟩)))
/-- The two functions tell the same, and it is the best. -/
theorem Ev_LeastOff {a : Int} {l : List S40} {told : List Int} (h : toldB a l told = true) : ∃ o, Best (wt l) a.toNat told o ∧ Ev (fun k => orreryref20_Least.f k (tabL a.toNat a.toNat l) told) (outL o) ∧ Ev (fun k => offset_Offsets.f k a l told) (outO o) := by
  obtain ⟨ha, T⟩ := toldB_whole h
  have hn := T.hn
  have h0 : CB a.toNat (List.replicate a.toNat 0) := ⟨by simp, fun i a b => by rw [rd_rep a b]; omega⟩
  obtain ⟨o, h1, h2, h3⟩ := both T (6 * a.toNat - sm (rd (List.replicate a.toNat 0)) a.toNat).toNat (List.replicate a.toNat 0) h0 (fun more up hf i i0 i1 => by rw [rd_rep i0 i1]; exact hf.c0 i i0 i1) (by omega)
  refine ⟨o, h1, ?_, ?_⟩
  · unfold orreryref20_Least.f
    have hG := tabL_grid l T.hE
    rw [hG.1]
    simp only [if_pos (show (0 : Int) ≤ (a.toNat : Int) by omega), Int.toNat_natCast, if_pos (show a.toNat ≤ 35184372088832 by omega)]
    exact h2
  · unfold offset_Offsets.f offset_right.f
    rw [h]
    simp only [Option.bind_some, if_true, if_pos ha, if_pos (show a.toNat ≤ 35184372088832 by omega)]
    obtain ⟨g1, g2⟩ := oE_own T
    have h4 := Off_l0 T (outO o) l.length 0 (List.replicate a.toNat 0) (by omega) (by simp) (by
      rw [List.drop_zero]
      exact h3 _ (List.replicate a.toNat 0) g1 g2 (by simp) (fun d' hd' j j0 j1 => by rw [rd_rep j0 j1]; exact ⟨Int.le_refl _, (hd'.2 j j0 j1).1⟩))
    rw [Int.toNat_of_nonneg ha] at h4
    exact h4
theorem Ev_OffBad {a : Int} {l : List S40} {told : List Int} (h : toldB a l told = false) : Ev (fun k => offset_Offsets.f k a l told) ([], [], 170) := by
  unfold offset_Offsets.f offset_right.f
  rw [h]
  simp only [Option.bind_some, Bool.false_eq_true, if_false]
  exact Ev.now _
end Go.Proofs.Ytamloclgignfgaa.PA
