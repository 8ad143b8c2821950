/- match.Assign and Size, in plain Lean. -/
import Derived.Test.YtamloclgignfgaaAj
import Derived.Test.YtamloclgignfgaaPAx22
namespace Go.Proofs.Ytamloclgignfgaa.PA
open Go.RowKit Go.Proofs.YtamloclgignfgaaW.PrintWords Go.Proofs.YtamloclgignfgaaW.PrintLast Go.Proofs.YtamloclgignfgaaW.PrintMore
set_option linter.unusedVariables false
set_option linter.unusedSimpArgs false

/-- The heaviest whole matching, with prices that show it. -/
structure Opt (n : Nat) (l : List S40) (L : List Int) (p q : Int → Int) : Prop where
  T : Whole n l L
  le : ∀ i j : Int, 0 ≤ i → i < (n : Int) → 0 ≤ j → j < (n : Int) → 0 ≤ wt l i j → wt l i j ≤ p i + q j
  ti : ∀ i : Int, 0 ≤ i → i < (n : Int) → wt l i (rd L i) = p i + q (rd L i)
  q0 : ∀ j : Int, 0 ≤ j → j < (n : Int) → 0 ≤ q j
  pb : ∀ i : Int, 0 ≤ i → i < (n : Int) → -7680000000 ≤ p i ∧ p i ≤ 7680000000
theorem Mt.opt {n : Nat} {l : List S40} {out of : List Int} {p q : Int → Int} (M : Mt n n l out of) (D : Du n n l out of p q) : Opt n l out p q := by
  have hn := M.hn
  refine ⟨⟨M.hn, M.hl, M.hE, M.ol, fun i a b => ?_, fun i i' a b c e => ?_⟩, D.le, D.ti, D.q0, fun i a b => by have := D.pb i a b; omega⟩
  · obtain ⟨h1, h2, h3, _⟩ := M.row i a b
    exact ⟨h1, h2, h3⟩
  · have h1 := (M.row i a (by omega)).2.2.2
    have h2 := (M.row i' (by omega) c).2.2.2
    rw [e] at h1
    omega
theorem Assign_l1 {n : Nat} {l : List S40} : ∀ (d r : Nat) (out of : List Int) (p q : Int → Int), r + d = n → Mt n r l out of → Du n r l out of p q →
    (∃ L p q, Opt n l L p q ∧ Ev (fun k => match_Assign.l1 k (tabN n l) out of (n : Int) (r : Int)) (L, 0)) ∨ ((∀ told, ¬ Whole n l told) ∧ Ev (fun k => match_Assign.l1 k (tabN n l) out of (n : Int) (r : Int)) ([], 190)) := by
  intro d
  induction d with
  | zero =>
    intro r out of p q hr M D
    have : r = n := by omega
    subst this
    refine .inl ⟨out, p, q, M.opt D, Ev.step (f := fun _ => some (out, 0)) (fun k => ?_) (Ev.now _)⟩
    simp only [match_Assign.l1]; rw [if_neg (by omega)]
  | succ d ih =>
    intro r out of p q hr M D
    have hn := M.hn
    have st : ∀ R (x : Bool × List Int × List Int), Ev (fun k => match_augment.f k (r : Int) (tabN n l) out of) x → Ev (fun k => if x.1 = true then match_Assign.l1 k (tabN n l) x.2.1 x.2.2 (n : Int) ((r + 1 : Nat) : Int) else some ([], 190)) R → Ev (fun k => match_Assign.l1 k (tabN n l) out of (n : Int) (r : Int)) R := fun R x h1 h2 =>
      Ev.step (f := fun k => (match_augment.f k (r : Int) (tabN n l) out of).bind fun x => if x.1 = true then match_Assign.l1 k (tabN n l) x.2.1 x.2.2 (n : Int) ((r + 1 : Nat) : Int) else some ([], 190)) (fun k => by
        simp only [match_Assign.l1]
        rw [if_pos (by omega), w64 (by omega) (by omega), show (r : Int) + 1 = ((r + 1 : Nat) : Int) by omega]) (Ev.bind h1 h2)
    rcases augment_spec M D (by omega) with ⟨o, f, p', q', M', D', hE⟩ | ⟨hno, o, f, hE⟩
    · rcases ih (r + 1) o f p' q' (by omega) M' D' with ⟨L, p2, q2, h1, h2⟩ | ⟨h1, h2⟩
      · exact .inl ⟨L, p2, q2, h1, st _ _ hE (by simp only [if_true]; exact h2)⟩
      · exact .inr ⟨h1, st _ _ hE (by simp only [if_true]; exact h2)⟩
    · exact .inr ⟨hno, st _ _ hE (by simp only [Bool.false_eq_true, if_false]; exact Ev.now _)⟩
theorem Assign_l0 {n : Nat} (hn : n ≤ 64) (t : List (List Int)) (R : List Int × Int) (h : Ev (fun k => match_Assign.l1 k t (List.replicate n (-1)) (List.replicate n (-1)) (n : Int) 0) R) : ∀ (d j : Nat), j + d = n →
    Ev (fun k => match_Assign.l0 k (n : Int) t (List.replicate j (-1) ++ List.replicate (n - j) 0) (List.replicate j (-1) ++ List.replicate (n - j) 0) (n : Int) (j : Int)) R := by
  intro d
  induction d with
  | zero =>
    intro j hj
    have : j = n := by omega
    subst this
    refine Ev.step (fun k => ?_) h
    simp only [match_Assign.l0]
    rw [if_neg (by omega), Nat.sub_self, List.replicate_zero, List.append_nil]
  | succ d ih =>
    intro j hj
    have hlr : (List.replicate j (-1 : Int) ++ List.replicate (n - j) 0).length = n := by simp; omega
    refine Ev.step (fun k => ?_) (ih (j + 1) (by omega))
    simp only [match_Assign.l0]
    rw [if_pos (by omega), if_pos (by omega), if_pos (by rw [hlr]; omega), if_pos (by rw [hlr]; omega), Int.toNat_natCast, put_nx j n (-1) 0 (by omega), w64 (by omega) (by omega), show (j : Int) + 1 = ((j + 1 : Nat) : Int) by omega]
theorem Ev_Assign {a : Int} {l : List S40} (hb : rightB a a l = true) :
    (∃ L p q, Opt a.toNat l L p q ∧ Ev (fun k => match_Assign.f k a l) (L, 0)) ∨ ((∀ told, ¬ Whole a.toNat l told) ∧ Ev (fun k => match_Assign.f k a l) ([], 190)) := by
  obtain ⟨⟨ha0, ha1, _, _, hlen⟩, hed⟩ := rightB_iff a a l hb
  have hE : Edges a.toNat a.toNat l := fun e he => by have := hed e he; omega
  generalize hn : a.toNat = n at hE
  have han : a = (n : Int) := by omega
  subst han
  have hn64 : n ≤ 64 := by omega
  have rr : ∀ x : Int, 0 ≤ x → x < (n : Int) → rd (List.replicate n (-1)) x = -1 := fun x a b => rd_rep a b
  have M0 : Mt n 0 l (List.replicate n (-1)) (List.replicate n (-1)) := ⟨hn64, hlen, hE, by omega, by simp, by simp, fun i a b => by omega, fun j a b => .inl (by rw [rr j a b]; omega)⟩
  have D0 : Du n 0 l (List.replicate n (-1)) (List.replicate n (-1)) (fun _ => 0) (fun _ => 0) := ⟨fun i j a b => by omega, fun i a b => by omega, fun _ _ _ => Int.le_refl _, fun _ _ _ _ => rfl, fun i a b => by omega⟩
  have st : ∀ R, Ev (fun k => match_Assign.l1 k (tabN n l) (List.replicate n (-1)) (List.replicate n (-1)) (n : Int) ((0 : Nat) : Int)) R → Ev (fun k => match_Assign.f k (n : Int) l) R := fun R h => by
    unfold match_Assign.f match_right.f
    rw [hb]
    simp only [Option.bind_some, if_true]
    refine Ev.bind (Ev_tableM hn64 hlen hE) ?_
    simp only [if_pos (show (0 : Int) ≤ (n : Int) by omega), Int.toNat_natCast, if_pos (show n ≤ 35184372088832 by omega), List.length_replicate]
    have h1 := Assign_l0 hn64 (tabN n l) R h n 0 (by omega)
    rw [List.replicate_zero, List.nil_append, Nat.sub_zero] at h1
    exact h1
  rcases Assign_l1 n 0 _ _ _ _ (by omega) M0 D0 with ⟨L, p, q, h1, h2⟩ | ⟨h1, h2⟩
  · exact .inl ⟨L, p, q, h1, st _ h2⟩
  · exact .inr ⟨h1, st _ h2⟩
theorem Ev_AssignBad {a : Int} {l : List S40} (hb : rightB a a l = false) : Ev (fun k => match_Assign.f k a l) ([], 170) := by
  unfold match_Assign.f match_right.f
  rw [hb]
  simp only [Option.bind_some, Bool.false_eq_true, if_false]
  exact Ev.now _

/-! ### Size -/
/-- How many have a column. -/
def sizeN (l : List Int) : Nat := l.countP (fun x => decide (0 ≤ x))
theorem Size_l0 (l : List Int) (hn : l.length ≤ 64) : ∀ (d i : Nat) (s : Nat), i + d = l.length → s ≤ i → Ev (fun k => orreryref19_Size.l0 k (s : Int) l (l.length : Int) (i : Int)) (((s + sizeN (l.drop i) : Nat)) : Int) := by
  intro d
  induction d with
  | zero =>
    intro i s hi hs
    rw [List.drop_eq_nil_of_le (by omega)]
    refine Ev.step (f := fun _ => some (s : Int)) (fun k => ?_) (Ev.now _)
    simp only [orreryref19_Size.l0]; rw [if_neg (by omega)]
  | succ d ih =>
    intro i s hi hs
    rw [drop_rdI (show i < l.length by omega)]
    by_cases c : rd l (i : Int) ≥ 0
    · have h1 := ih (i + 1) (s + 1) (by omega) (by omega)
      have e : s + sizeN (rd l (i : Int) :: l.drop (i + 1)) = s + 1 + sizeN (l.drop (i + 1)) := by unfold sizeN; rw [List.countP_cons, if_pos (decide_eq_true c)]; omega
      rw [e]
      refine Ev.step (fun k => ?_) h1
      simp only [orreryref19_Size.l0]
      rw [if_pos (by omega), if_pos (by omega), if_pos (by omega), if_pos c, w64 (n := (s : Int) + 1) (by omega) (by omega), w64 (n := (i : Int) + 1) (by omega) (by omega), show (i : Int) + 1 = ((i + 1 : Nat) : Int) by omega, show (s : Int) + 1 = ((s + 1 : Nat) : Int) by omega]
    · have h1 := ih (i + 1) s (by omega) (by omega)
      have e : s + sizeN (rd l (i : Int) :: l.drop (i + 1)) = s + sizeN (l.drop (i + 1)) := by unfold sizeN; rw [List.countP_cons, if_neg (by simpa using c)]; omega
      rw [e]
      refine Ev.step (fun k => ?_) h1
      simp only [orreryref19_Size.l0]
      rw [if_pos (by omega), if_pos (by omega), if_pos (by omega), if_neg c, w64 (n := (i : Int) + 1) (by omega) (by omega), show (i : Int) + 1 = ((i + 1 : Nat) : Int) by omega]
theorem Ev_Size (l : List Int) (hn : l.length ≤ 64) : Ev (fun k => orreryref19_Size.f k l) (sizeN l : Int) := by
  have h := Size_l0 l hn l.length 0 0 (by omega) (by omega)
  rw [List.drop_zero, Nat.zero_add] at h
  exact h
theorem sizeN_le (l : List Int) : sizeN l ≤ l.length := List.countP_le_length
theorem sizeN_full {n : Nat} {l : List Int} (hl : l.length = n) : sizeN l = n ↔ ∀ i : Int, 0 ≤ i → i < (n : Int) → 0 ≤ rd l i := by
  unfold sizeN
  rw [← hl, List.countP_eq_length]
  constructor
  · intro h i a b
    exact of_decide_eq_true (h _ (rd_mem l i a b))
  · intro h x hx
    obtain ⟨k, hk, rfl⟩ := List.getElem_of_mem hx
    have := h (k : Int) (by omega) (by omega)
    unfold rd at this
    rw [List.getD_eq_getElem?_getD, Int.toNat_natCast, List.getElem?_eq_getElem hk] at this
    exact decide_eq_true this
theorem Whole.mat {n : Nat} {l : List S40} {L : List Int} (T : Whole n l L) : IsMat (tabL n n l) n L := by
  refine ⟨by rw [T.len, (tabL_grid l T.hE).1], fun i a b => ?_, fun i i' a b c e => ?_⟩
  · rw [T.len] at b
    obtain ⟨r0, r1, r2⟩ := T.rg i a b
    exact .inr ⟨r0, r1, by rw [tab_at T.hE a b r0 r1]; exact r2⟩
  · rw [T.len] at c
    exact absurd e (T.inj i i' a b c)
theorem IsMat.whole {n : Nat} {l : List S40} {L : List Int} (hn : n ≤ 64) (hl : l.length ≤ 4096) (hE : Edges n n l) (h : IsMat (tabL n n l) n L) (hf : ∀ i : Int, 0 ≤ i → i < (n : Int) → 0 ≤ rd L i) : Whole n l L := by
  have hlen : L.length = n := by rw [h.1, (tabL_grid l hE).1]
  refine ⟨hn, hl, hE, hlen, fun i a b => ?_, fun i i' a b c e => ?_⟩
  · rcases h.2.1 i a (by omega) with h1 | ⟨h1, h2, h3⟩
    · have := hf i a b; omega
    · rw [tab_at hE a b h1 h2] at h3; exact ⟨h1, h2, h3⟩
  · have := h.2.2 i i' a b (by omega) e
    have := hf i a (by omega)
    omega
end Go.Proofs.Ytamloclgignfgaa.PA
