/- MatchWhole in plain Lean. -/
import Derived.Test.YtamloclgignfgaaPAx26
import Derived.Test.YtamloclgignfgaaRowA
import Derived.Test.YtamloclgignfgaaOv
import Derived.Test.YtamloclgignfgaaAn
namespace Go.Proofs.Ytamloclgignfgaa.PA
open Go.RowKit Go.Proofs.YtamloclgignfgaaW.PrintWords Go.Proofs.YtamloclgignfgaaW.PrintLast Go.Proofs.YtamloclgignfgaaW.PrintMore
set_option linter.unusedVariables false
set_option linter.unusedSimpArgs false

/-- The weight that is put at place i. -/
def wo (ws : List Int) (i : Int) : Int := if i < (ws.length : Int) then (if rd ws i ≥ 0 then (if rd ws i ≤ 100 then rd ws i else 0) else 0) else 0
theorem wo_rg (ws : List Int) (i : Int) : 0 ≤ wo ws i ∧ wo ws i ≤ 100 := by
  unfold wo
  split
  · split
    · split <;> omega
    · omega
  · omega
/-- The edges that are put. -/
def pe (perm ws : List Int) (i : Nat) : List S40 := (List.range i).map (fun k : Nat => (⟨(k : Int), rd perm (k : Int), wo ws (k : Int)⟩ : S40))
theorem pe_succ (perm ws : List Int) (i : Nat) : pe perm ws (i + 1) = pe perm ws i ++ [(⟨(i : Int), rd perm (i : Int), wo ws (i : Int)⟩ : S40)] := by
  unfold pe; rw [List.range_succ, List.map_append]; rfl
theorem pe_len (perm ws : List Int) (i : Nat) : (pe perm ws i).length = i := by simp [pe]
theorem sum_wo (ws : List Int) : ∀ i : Nat, 0 ≤ sm (wo ws) i ∧ sm (wo ws) i ≤ 100 * (i : Int) := by
  intro i
  induction i with
  | zero => simp [sm]
  | succ i ih => unfold sm; have := wo_rg ws (i : Int); omega
/-- What is known of the first places. -/
structure PI (n : Nat) (perm : List Int) (i : Nat) (u : List Int) : Prop where
  ul : u.length = n
  um : ∀ x : Int, 0 ≤ x → x < (n : Int) → (rd u x = 1 ↔ ∃ k : Int, 0 ≤ k ∧ k < (i : Int) ∧ rd perm k = x)
  rg : ∀ k : Int, 0 ≤ k → k < (i : Int) → 0 ≤ rd perm k ∧ rd perm k < (n : Int)
  inj : ∀ k k' : Int, 0 ≤ k → k < k' → k' < (i : Int) → rd perm k ≠ rd perm k'
theorem PI.step {n : Nat} {perm : List Int} {i : Nat} {u : List Int} (h : PI n perm i u) (h0 : 0 ≤ rd perm (i : Int)) (h1 : rd perm (i : Int) < (n : Int)) (h2 : ¬ rd u (rd perm (i : Int)) = 1) : PI n perm (i + 1) (u.set (rd perm (i : Int)).toNat 1) := by
  have hul := h.ul
  refine ⟨by rw [List.length_set]; exact hul, fun x x0 x1 => ?_, fun k k0 k1 => ?_, fun k k' k0 kk k1 e => ?_⟩
  · rw [rd_set u _ x 1 h0 (by omega) x0]
    by_cases e : rd perm (i : Int) = x
    · rw [if_pos e]; simp only [true_iff]; exact ⟨(i : Int), by omega, by omega, e⟩
    · rw [if_neg e, h.um x x0 x1]
      exact ⟨fun ⟨k, a, b, c⟩ => ⟨k, a, by omega, c⟩, fun ⟨k, a, b, c⟩ => ⟨k, a, by
        by_cases q : k = (i : Int)
        · rw [q] at c; exact absurd c e
        · omega, c⟩⟩
  · by_cases q : k = (i : Int)
    · rw [q]; exact ⟨h0, h1⟩
    · exact h.rg k k0 (by omega)
  · by_cases q : k' = (i : Int)
    · rw [q] at e kk
      exact h2 ((h.um _ h0 h1).2 ⟨k, k0, by omega, e⟩)
    · exact h.inj k k' k0 kk (by omega) e
theorem most_f2 {a : Int} {l : List S40} (hb : rightB a a l = true) : match_Most.f a a l = some (mostL a.toNat a.toNat l, 0) := by unfold match_Most.f; rw [if_pos hb]

theorem Whole_l1 {n : Nat} (hn : n ≤ 40) {perm ws u : List Int} (hp : perm.length = n) (P : PI n perm n u) (l2 : List S40) (hl : l2.length ≤ 2000) : ∀ (d i : Nat) (F : List S40), i + d = l2.length → Edges n n F → F.length ≤ i →
    Ev (fun k => orrerylaw19_MatchWhole.l1 k (n : Int) (pe perm ws n ++ F) (sm (wo ws) n) l2 (l2.length : Int) (i : Int)) true := by
  intro d
  induction d with
  | zero =>
    intro i F hi hF hFl
    have hE : Edges n n (pe perm ws n ++ F) := fun e he => by
      rcases List.mem_append.1 he with h | h
      · obtain ⟨k, hk, rfl⟩ := List.mem_map.1 h
        have hk' := List.mem_range.1 hk
        have h1 := P.rg (k : Int) (by omega) (by omega)
        have h2 := wo_rg ws (k : Int)
        exact ⟨by simp only; omega, by simp only; omega, h1.1, h1.2, h2.1, h2.2⟩
      · exact hF e h
    have hlen : (pe perm ws n ++ F).length ≤ 4096 := by rw [List.length_append, pe_len]; omega
    have hge : ∀ i : Int, 0 ≤ i → i < (n : Int) → wo ws i ≤ wt (pe perm ws n ++ F) i (rd perm i) := fun i i0 i1 => by
      have hm : (⟨i, rd perm i, wo ws i⟩ : S40) ∈ pe perm ws n ++ F := List.mem_append_left _ (List.mem_map.2 ⟨i.toNat, List.mem_range.2 (by omega), by rw [show ((i.toNat : Nat) : Int) = i by omega]⟩)
      exact wt_ge hm
    have T : Whole n (pe perm ws n ++ F) perm := ⟨by omega, hlen, hE, hp, fun i a b => by
      have h1 := P.rg i a b
      have h2 := hge i a b
      have h3 := wo_rg ws i
      exact ⟨h1.1, h1.2, by omega⟩, P.inj⟩
    have hb : rightB (n : Int) (n : Int) (pe perm ws n ++ F) = true := right_of (by omega) (by omega) hlen (by rw [Int.toNat_natCast]; exact hE)
    have mw := most_whole hb
    obtain ⟨hG, hM, _⟩ := most_good hb
    have hAs := Ev_Assign hb
    have hMf := most_f2 hb
    rw [Int.toNat_natCast] at mw hG hM hAs hMf
    have hTab := Ev_Table hb
    rw [Int.toNat_natCast] at hTab
    rcases hAs with ⟨L, p, q, O, hA⟩ | ⟨hno, _⟩
    · have hLl := O.T.len
      have hml : (mostL n n (pe perm ws n ++ F)).length = n := by rw [hM.1, hG.1]
      refine Ev.step (f := fun k => ((orreryref19_Table.f k (n : Int) (n : Int) (pe perm ws n ++ F)).bind fun t494 => ((match_Assign.f k (n : Int) (pe perm ws n ++ F)).bind fun bt497 => ((match_Most.f (n : Int) (n : Int) (pe perm ws n ++ F)).bind fun bt501 => (if bt497.2 = 0 then (if bt501.2 = 0 then ((orreryref19_Matching.f k t494 (n : Int) bt497.1).bind fun t505 => (if t505 = true then ((orreryref19_Size.f k bt497.1).bind fun t506 => (if t506 = (n : Int) then ((orreryref19_Sum.f k t494 bt497.1).bind fun t507 => (if t507 ≥ sm (wo ws) n then ((orreryref19_Matching.f k t494 (n : Int) bt501.1).bind fun t508 => (if t508 = true then ((orreryref19_Size.f k bt501.1).bind fun t509 => (some (t509 == (n : Int)))) else (some false))) else (some false))) else (some false))) else (some false))) else (some false)) else (some false)))))) (fun k => by
          simp only [orrerylaw19_MatchWhole.l1]; rw [if_neg (by omega)]) ?_
      refine Ev.bind hTab (Ev.bind hA ?_)
      simp only [hMf, Option.bind_some, if_true]
      obtain ⟨b, hb1, hbi⟩ := Ev_Matching hG (by omega) L (by omega)
      rw [hbi.2 O.T.mat] at hb1
      refine Ev.bind hb1 ?_
      simp only [if_true]
      have hs1 := Ev_Size L (by omega)
      rw [(sizeN_full hLl).2 (fun i a b => (O.T.rg i a b).1)] at hs1
      refine Ev.bind hs1 ?_
      simp only [if_true]
      refine Ev.bind (Ev_Sum O.T) ?_
      have hsum : sm (wo ws) n ≤ wsum n (pe perm ws n ++ F) L := Int.le_trans (sm_le n hge) (O.best T)
      simp only [if_pos (show wsum n (pe perm ws n ++ F) L ≥ sm (wo ws) n from hsum)]
      obtain ⟨b', hb1', hbi'⟩ := Ev_Matching hG (by omega) (mostL n n (pe perm ws n ++ F)) (by omega)
      rw [hbi'.2 hM] at hb1'
      refine Ev.bind hb1' ?_
      simp only [if_true]
      have hs2 := Ev_Size (mostL n n (pe perm ws n ++ F)) (by omega)
      rw [mw.2 ⟨perm, T⟩] at hs2
      refine Ev.bind hs2 ?_
      rw [beq_self_eq_true]
      exact Ev.now _
    · exact absurd T (hno perm)
  | succ d ih =>
    intro i F hi hF hFl
    have hil : i < l2.length := by omega
    have hskip := ih (i + 1) F (by omega) hF (by omega)
    have hw : wrap64 ((i : Int) + 1) = ((i + 1 : Nat) : Int) := by rw [w64 (by omega) (by omega)]; omega
    generalize hx : rd_T40 l2 (i : Int) = x
    have pre : ∀ k, orrerylaw19_MatchWhole.l1 (k + 1) (n : Int) (pe perm ws n ++ F) (sm (wo ws) n) l2 (l2.length : Int) (i : Int) = (if x.f0 ≥ 0 then (if x.f0 < (n : Int) then (if x.f1 ≥ 0 then (if x.f1 < (n : Int) then (if x.f2 ≥ 0 then (if x.f2 ≤ 100 then (if (pe perm ws n ++ F).length < 5864062014805 then (orrerylaw19_MatchWhole.l1 k (n : Int) ((pe perm ws n ++ F) ++ [(⟨x.f0, x.f1, x.f2⟩ : S40)]) (sm (wo ws) n) l2 (l2.length : Int) ((i + 1 : Nat) : Int)) else (none)) else (orrerylaw19_MatchWhole.l1 k (n : Int) (pe perm ws n ++ F) (sm (wo ws) n) l2 (l2.length : Int) ((i + 1 : Nat) : Int))) else (orrerylaw19_MatchWhole.l1 k (n : Int) (pe perm ws n ++ F) (sm (wo ws) n) l2 (l2.length : Int) ((i + 1 : Nat) : Int))) else (orrerylaw19_MatchWhole.l1 k (n : Int) (pe perm ws n ++ F) (sm (wo ws) n) l2 (l2.length : Int) ((i + 1 : Nat) : Int))) else (orrerylaw19_MatchWhole.l1 k (n : Int) (pe perm ws n ++ F) (sm (wo ws) n) l2 (l2.length : Int) ((i + 1 : Nat) : Int))) else (orrerylaw19_MatchWhole.l1 k (n : Int) (pe perm ws n ++ F) (sm (wo ws) n) l2 (l2.length : Int) ((i + 1 : Nat) : Int))) else (orrerylaw19_MatchWhole.l1 k (n : Int) (pe perm ws n ++ F) (sm (wo ws) n) l2 (l2.length : Int) ((i + 1 : Nat) : Int))) := fun k => by
      conv => lhs; simp only [orrerylaw19_MatchWhole.l1]
      rw [if_pos (by omega), if_pos (by omega), if_pos (by omega), hx, hw]
    by_cases c1 : x.f0 ≥ 0
    · by_cases c2 : x.f0 < (n : Int)
      · by_cases c3 : x.f1 ≥ 0
        · by_cases c4 : x.f1 < (n : Int)
          · by_cases c5 : x.f2 ≥ 0
            · by_cases c6 : x.f2 ≤ 100
              · have h1 := ih (i + 1) (F ++ [x]) (by omega) (fun e he => by
                  rcases List.mem_append.1 he with h | h
                  · exact hF e h
                  · rw [List.mem_singleton.1 h]; exact ⟨c1, c2, c3, c4, c5, c6⟩) (by simp; omega)
                rw [← List.append_assoc] at h1
                exact Ev.step (fun k => by rw [pre, if_pos c1, if_pos c2, if_pos c3, if_pos c4, if_pos c5, if_pos c6, if_pos (by rw [List.length_append, pe_len]; omega)]) h1
              · exact Ev.step (fun k => by rw [pre, if_pos c1, if_pos c2, if_pos c3, if_pos c4, if_pos c5, if_neg c6]) hskip
            · exact Ev.step (fun k => by rw [pre, if_pos c1, if_pos c2, if_pos c3, if_pos c4, if_neg c5]) hskip
          · exact Ev.step (fun k => by rw [pre, if_pos c1, if_pos c2, if_pos c3, if_neg c4]) hskip
        · exact Ev.step (fun k => by rw [pre, if_pos c1, if_pos c2, if_neg c3]) hskip
      · exact Ev.step (fun k => by rw [pre, if_pos c1, if_neg c2]) hskip
    · exact Ev.step (fun k => by rw [pre, if_neg c1]) hskip
theorem Whole_l0 {n : Nat} (hn : n ≤ 40) {perm ws : List Int} (hp : perm.length = n) (l2 : List S40) (hl : l2.length ≤ 2000) : ∀ (d i : Nat) (u : List Int), i + d = n → PI n perm i u →
    Ev (fun k => orrerylaw19_MatchWhole.l0 k ws l2 (n : Int) u (pe perm ws i) (sm (wo ws) i) perm (n : Int) (i : Int)) true := by
  intro d
  induction d with
  | zero =>
    intro i u hi P
    have : i = n := by omega
    subst this
    have h1 := Whole_l1 hn (ws := ws) hp P l2 hl l2.length 0 [] (by omega) (fun e he => by cases he) (by simp)
    rw [List.append_nil] at h1
    refine Ev.step (fun k => ?_) h1
    simp only [orrerylaw19_MatchWhole.l0]
    rw [if_neg (by omega)]; rfl
  | succ d ih =>
    intro i u hi P
    have hul := P.ul
    have st : ∀ k b, (rd perm (i : Int) < 0 ∨ rd perm (i : Int) ≥ (n : Int) → b = true) → (0 ≤ rd perm (i : Int) → rd perm (i : Int) < (n : Int) → b = (rd u (rd perm (i : Int)) == 1)) → orrerylaw19_MatchWhole.l0 (k + 1) ws l2 (n : Int) u (pe perm ws i) (sm (wo ws) i) perm (n : Int) (i : Int) = orrerylaw19_MatchWhole.j2 k ws l2 (n : Int) u (pe perm ws i) (sm (wo ws) i) (i : Int) (rd perm (i : Int)) perm (n : Int) (i : Int) b := fun k b h1 h2 => by
      simp only [orrerylaw19_MatchWhole.l0]
      rw [if_pos (by omega), if_pos (by omega), if_pos (by omega)]
      by_cases c1 : rd perm (i : Int) < 0
      · rw [if_pos c1, h1 (.inl c1)]
      rw [if_neg c1]
      by_cases c2 : rd perm (i : Int) ≥ (n : Int)
      · rw [if_pos c2, h1 (.inr c2)]
      rw [if_neg c2, if_pos (by omega), if_pos (by omega), h2 (by omega) (by omega)]
    have jt : Ev (fun k => orrerylaw19_MatchWhole.j2 k ws l2 (n : Int) u (pe perm ws i) (sm (wo ws) i) (i : Int) (rd perm (i : Int)) perm (n : Int) (i : Int) true) true := Ev.step (f := fun _ => some true) (fun k => by simp [orrerylaw19_MatchWhole.j2]) (Ev.now _)
    by_cases c1 : rd perm (i : Int) < 0 ∨ rd perm (i : Int) ≥ (n : Int)
    · exact Ev.step (fun k => st k true (fun _ => rfl) (fun a b => by omega)) jt
    have c0 : 0 ≤ rd perm (i : Int) := by omega
    have c2 : rd perm (i : Int) < (n : Int) := by omega
    by_cases c3 : rd u (rd perm (i : Int)) = 1
    · exact Ev.step (fun k => st k true (fun _ => rfl) (fun _ _ => by rw [c3]; rfl)) jt
    · refine Ev.step (fun k => st k false (fun h => absurd h c1) (fun _ _ => by symm; simpa using c3)) ?_
      have h1 := ih (i + 1) _ (by omega) (P.step c0 c2 c3)
      rw [pe_succ] at h1
      have hs := sum_wo ws i
      have hw := wo_rg ws (i : Int)
      refine Ev.step (fun k => ?_) h1
      have c00 : 0 ≤ (i : Int) := by omega
      have hpl : (pe perm ws i).length < 5864062014805 := by rw [pe_len]; omega
      have e1 : wrap64 (sm (wo ws) i + wo ws (i : Int)) = sm (wo ws) (i + 1) := by rw [w64 (by omega) (by omega)]; rfl
      have e2 : wrap64 ((i : Int) + 1) = ((i + 1 : Nat) : Int) := by rw [w64 (by omega) (by omega)]; omega
      simp only [orrerylaw19_MatchWhole.j2, Bool.false_eq_true, if_false, Option.bind_some]
      rw [if_pos c0, if_pos (by omega)]
      rw [← e1, ← e2]
      by_cases q1 : (i : Int) < (ws.length : Int)
      · by_cases q2 : rd ws (i : Int) ≥ 0
        · by_cases q3 : rd ws (i : Int) ≤ 100
          · have hwo : wo ws (i : Int) = rd ws (i : Int) := by unfold wo; rw [if_pos q1, if_pos q2, if_pos q3]
            rw [hwo, if_pos q1, if_pos c00, if_pos q2, if_pos q3, if_pos hpl]
          · have hwo : wo ws (i : Int) = 0 := by unfold wo; rw [if_pos q1, if_pos q2, if_neg q3]
            rw [hwo, if_pos q1, if_pos c00, if_pos q2, if_neg q3, if_pos hpl]
        · have hwo : wo ws (i : Int) = 0 := by unfold wo; rw [if_pos q1, if_neg q2]
          rw [hwo, if_pos q1, if_pos c00, if_neg q2, if_pos hpl]
      · have hwo : wo ws (i : Int) = 0 := by unfold wo; rw [if_neg q1]
        rw [hwo, if_neg q1, if_pos hpl]
theorem MatchWhole_pure (l0 l1 : List Int) (l2 : List S40) (h0 : (∀ x ∈ l0, I64 x) ∧ l0.length ≤ 9223372036854775807) (h1 : (∀ x ∈ l1, I64 x) ∧ l1.length ≤ 9223372036854775807) (h2 : (∀ e ∈ l2, I64 e.f0 ∧ I64 e.f1 ∧ I64 e.f2) ∧ l2.length ≤ 9223372036854775807) : ∃ k, orrerylaw19_MatchWhole.f k l0 l1 l2 = some true := by
  refine Ev.rounds (g := fun k => orrerylaw19_MatchWhole.f k l0 l1 l2) ?_
  unfold orrerylaw19_MatchWhole.f
  have jt : Ev (fun k => orrerylaw19_MatchWhole.j0 k l0 l1 l2 (l0.length : Int) true) true := Ev.step (f := fun _ => some true) (fun k => by simp [orrerylaw19_MatchWhole.j0]) (Ev.now _)
  by_cases c1 : (l0.length : Int) > 40
  · simp only [if_pos c1]; exact jt
  simp only [if_neg c1]
  by_cases c2 : (l2.length : Int) > 2000
  · rw [decide_eq_true c2]; exact jt
  rw [decide_eq_false c2]
  have h3 := Whole_l0 (n := l0.length) (by omega) (perm := l0) (ws := l1) rfl l2 (by omega) l0.length 0 (List.replicate l0.length 0) (by omega) ⟨by simp, fun x x0 x1 => by
    rw [rd_rep x0 x1]
    exact ⟨fun h => by omega, fun ⟨k, a, b, _⟩ => by omega⟩, fun k a b => by omega, fun k k' a b c => by omega⟩
  refine Ev.step (fun k => ?_) h3
  simp only [orrerylaw19_MatchWhole.j0, Bool.false_eq_true, if_false]
  rw [if_pos (by omega), if_pos (by omega), Int.toNat_natCast]
  rfl
end Go.Proofs.Ytamloclgignfgaa.PA
