/- Who reaches whom: what the reference's three loops tell, in plain Lean. -/
import Derived.Test.YtlaneafplmbcnaaPOx50
import Derived.Test.YtlaneafplmbcnaaRn
namespace Go.Proofs.Ytlaneafplmbcnaa.PO
open Go.RowKit Go.Proofs.YtlaneafplmbcnaaW.PrintWords Go.Proofs.YtlaneafplmbcnaaW.PrintLast Go.Proofs.YtlaneafplmbcnaaW.PrintMore
set_option linter.unusedVariables false
set_option linter.unusedSimpArgs false

/-- Half a phase: what is told while row i, column c is done. -/
def QQ (P : Int → Int → Prop) (m i c : Int) (i' k : Int) : Prop := P i' k ∨ ((i' < i ∨ (i' = i ∧ k < c)) ∧ P i' m ∧ P m k)
section
variable {n : Nat} {P : Int → Int → Prop} {G : List (List Int) → Prop}
theorem Reach_l5 (h64 : n ≤ 64) (m i : Nat) (hm : m < n) (hi : i < n) : ∀ (d c : Nat) (r : List (List Int)), c + d = n → Rl n r (QQ P m i c) →
    (∀ r', Rl n r' (QQ P m ((i + 1 : Nat) : Int) 0) → ∃ R, G R ∧ Ev (fun k => orreryref21_Reach.l4 k (n : Int) r' (m : Int) ((i + 1 : Nat) : Int)) R) →
    ∃ R, G R ∧ Ev (fun k => orreryref21_Reach.l5 k (n : Int) r (m : Int) (i : Int) (c : Int)) R := by
  intro d
  induction d with
  | zero =>
    intro c r hc h H
    obtain ⟨R, hG, hE⟩ := H r (h.congr (fun i' k i0 i1 k0 k1 => by
      unfold QQ
      constructor
      · rintro (h | ⟨h1, h2⟩)
        · exact .inl h
        · exact .inr ⟨.inl (by omega), h2⟩
      · rintro (h | ⟨h1, h2⟩)
        · exact .inl h
        · exact .inr ⟨by omega, h2⟩))
    refine ⟨R, hG, Ev.step (f := fun k => orreryref21_Reach.l4 k (n : Int) r (m : Int) ((i + 1 : Nat) : Int)) (fun k => ?_) hE⟩
    simp only [orreryref21_Reach.l5]
    rw [if_neg (by omega), w64 (by omega) (by omega), show (i : Int) + 1 = ((i + 1 : Nat) : Int) by omega]
  | succ d ih =>
    intro c r hc h H
    have hl := h.1.1
    have ri := h.1.row (show (0 : Int) ≤ (i : Int) by omega) (show (i : Int) < (n : Int) by omega)
    have rm := h.1.row (show (0 : Int) ≤ (m : Int) by omega) (show (m : Int) < (n : Int) by omega)
    have a1 := (h.2 i m (by omega) (by omega) (by omega) (by omega)).2
    have a2 := (h.2 m c (by omega) (by omega) (by omega) (by omega)).2
    have b1 : QQ P m i c i m ↔ P i m := ⟨fun h => h.elim id (fun h => h.2.1), .inl⟩
    have b2 : QQ P m i c m c ↔ P m c := ⟨fun h => h.elim id (fun h => h.2.2), .inl⟩
    rw [b1] at a1
    rw [b2] at a2
    have nx : ∀ r', Rl n r' (QQ P m i ((c + 1 : Nat) : Int)) → ∃ R, G R ∧ Ev (fun k => orreryref21_Reach.l5 k (n : Int) r' (m : Int) (i : Int) ((c + 1 : Nat) : Int)) R := fun r' h' => ih (c + 1) r' (by omega) h' H
    have stay : ¬ (P i m ∧ P m c) → Rl n r (QQ P m i ((c + 1 : Nat) : Int)) := fun hn => h.congr (fun i' k i0 i1 k0 k1 => by
      unfold QQ
      constructor
      · rintro (h | ⟨h1, h2⟩)
        · exact .inl h
        · exact .inr ⟨by omega, h2⟩
      · rintro (h | ⟨h1, h2⟩)
        · exact .inl h
        · by_cases e : i' = (i : Int) ∧ k = (c : Int)
          · rw [e.1, e.2] at h2; exact absurd h2 hn
          · exact .inr ⟨by omega, h2⟩)
    by_cases e1 : rd (rd_L3 r i) m = 1
    · by_cases e2 : rd (rd_L3 r m) c = 1
      · have h' := h.put (i := i) (c := c) (by omega) (by omega) (by omega) (by omega)
        obtain ⟨R, hG, hE⟩ := nx _ (h'.congr (fun i' k i0 i1 k0 k1 => by
          unfold QQ
          constructor
          · rintro ((h | ⟨h1, h2⟩) | ⟨h1, h2⟩)
            · exact .inl h
            · exact .inr ⟨by omega, h2⟩
            · rw [h1, h2]; exact .inr ⟨by omega, a1.1 e1, a2.1 e2⟩
          · rintro (h | ⟨h1, h2⟩)
            · exact .inl (.inl h)
            · by_cases e : i' = (i : Int) ∧ k = (c : Int)
              · exact .inr e
              · exact .inl (.inr ⟨by omega, h2⟩)))
        refine ⟨R, hG, Ev.step (f := fun k => orreryref21_Reach.l5 k (n : Int) (r.set (i : Int).toNat ((rd_L3 r i).set (c : Int).toNat 1)) (m : Int) (i : Int) ((c + 1 : Nat) : Int)) (fun k => ?_) hE⟩
        simp only [orreryref21_Reach.l5]
        rw [if_pos (by omega), if_pos (by omega), if_pos (by omega), if_pos (by omega), if_pos (by omega), if_pos e1, if_pos (by omega), if_pos (by omega), if_pos (by omega), if_pos e2, if_pos (by omega), w64 (by omega) (by omega), show (c : Int) + 1 = ((c + 1 : Nat) : Int) by omega]
      · obtain ⟨R, hG, hE⟩ := nx r (stay (fun hh => e2 (a2.2 hh.2)))
        refine ⟨R, hG, Ev.step (f := fun k => orreryref21_Reach.l5 k (n : Int) r (m : Int) (i : Int) ((c + 1 : Nat) : Int)) (fun k => ?_) hE⟩
        simp only [orreryref21_Reach.l5]
        rw [if_pos (by omega), if_pos (by omega), if_pos (by omega), if_pos (by omega), if_pos (by omega), if_pos e1, if_pos (by omega), if_pos (by omega), if_pos (by omega), if_neg e2, w64 (by omega) (by omega), show (c : Int) + 1 = ((c + 1 : Nat) : Int) by omega]
    · obtain ⟨R, hG, hE⟩ := nx r (stay (fun hh => e1 (a1.2 hh.1)))
      refine ⟨R, hG, Ev.step (f := fun k => orreryref21_Reach.l5 k (n : Int) r (m : Int) (i : Int) ((c + 1 : Nat) : Int)) (fun k => ?_) hE⟩
      simp only [orreryref21_Reach.l5]
      rw [if_pos (by omega), if_pos (by omega), if_pos (by omega), if_pos (by omega), if_pos (by omega), if_neg e1, w64 (by omega) (by omega), show (c : Int) + 1 = ((c + 1 : Nat) : Int) by omega]
theorem Reach_l4 (h64 : n ≤ 64) (m : Nat) (hm : m < n) : ∀ (d i : Nat) (r : List (List Int)), i + d = n → Rl n r (QQ P m i 0) →
    (∀ r', Rl n r' (QQ P m (n : Int) 0) → ∃ R, G R ∧ Ev (fun k => orreryref21_Reach.l3 k (n : Int) r' ((m + 1 : Nat) : Int)) R) →
    ∃ R, G R ∧ Ev (fun k => orreryref21_Reach.l4 k (n : Int) r (m : Int) (i : Int)) R := by
  intro d
  induction d with
  | zero =>
    intro i r hi h H
    have e : i = n := by omega
    subst e
    obtain ⟨R, hG, hE⟩ := H r h
    refine ⟨R, hG, Ev.step (f := fun k => orreryref21_Reach.l3 k (i : Int) r ((m + 1 : Nat) : Int)) (fun k => ?_) hE⟩
    simp only [orreryref21_Reach.l4]
    rw [if_neg (by omega), w64 (by omega) (by omega), show (m : Int) + 1 = ((m + 1 : Nat) : Int) by omega]
  | succ d ih =>
    intro i r hi h H
    obtain ⟨R, hG, hE⟩ := Reach_l5 (G := G) h64 m i hm (by omega) n 0 r (by omega) h (fun r' h' => ih (i + 1) r' (by omega) h' H)
    refine ⟨R, hG, Ev.step (f := fun k => orreryref21_Reach.l5 k (n : Int) r (m : Int) (i : Int) ((0 : Nat) : Int)) (fun k => ?_) hE⟩
    simp only [orreryref21_Reach.l4]
    rw [if_pos (by omega)]
    rfl
theorem Reach_l3 (h64 : n ≤ 64) (N : List (List Int)) : ∀ (d m : Nat) (r : List (List Int)), m + d = n → Rl n r (Pm N m) → ∃ R, Rl n R (Pm N n) ∧ Ev (fun k => orreryref21_Reach.l3 k (n : Int) r (m : Int)) R := by
  intro d
  induction d with
  | zero =>
    intro m r hm h
    have e : m = n := by omega
    subst e
    refine ⟨r, h, Ev.step (f := fun _ => some r) (fun k => ?_) (Ev.now _)⟩
    simp only [orreryref21_Reach.l3]
    rw [if_neg (by omega)]
  | succ d ih =>
    intro m r hm h
    obtain ⟨R, hG, hE⟩ := Reach_l4 (G := fun R => Rl n R (Pm N n)) (P := Pm N m) h64 m (by omega) n 0 r (by omega) (h.congr (fun i' k i0 i1 k0 k1 => by
      unfold QQ
      exact ⟨.inl, fun h => h.elim id (fun h => by have := h.1; omega)⟩)) (fun r' h' => ih (m + 1) r' (by omega) (h'.congr (fun i' k i0 i1 k0 k1 => by
      unfold QQ
      show _ ↔ (Pm N m i' k ∨ (Pm N m i' (m : Int) ∧ Pm N m (m : Int) k))
      constructor
      · rintro (h | h)
        · exact .inl h
        · exact .inr h.2
      · rintro (h | h)
        · exact .inl h
        · exact .inr ⟨.inl i1, h⟩)))
    refine ⟨R, hG, Ev.step (f := fun k => orreryref21_Reach.l4 k (n : Int) r (m : Int) ((0 : Nat) : Int)) (fun k => ?_) hE⟩
    simp only [orreryref21_Reach.l3]
    rw [if_pos (by omega)]
    rfl
end

section
variable {n : Nat}
theorem Reach_l2 (h64 : n ≤ 64) {l : List S33} (hl : l.length ≤ 4096) (hE : Edges n n l) {B : List Int} (hB : InN n B) (R : List (List Int)) : ∀ (d i : Nat) (r : List (List Int)), i + d = l.length → Grid n n r →
    Ev (fun k => orreryref21_Reach.l3 k (n : Int) ((l.drop i).foldl (rS B) r) ((0 : Nat) : Int)) R → Ev (fun k => orreryref21_Reach.l2 k (n : Int) B r l (l.length : Int) (i : Int)) R := by
  intro d
  induction d with
  | zero =>
    intro i r hi hg H
    rw [List.drop_eq_nil_of_le (by omega)] at H
    refine Ev.step (f := fun k => orreryref21_Reach.l3 k (n : Int) r ((0 : Nat) : Int)) (fun k => ?_) H
    simp only [orreryref21_Reach.l2]
    rw [if_neg (by omega)]
    rfl
  | succ d ih =>
    intro i r hi hg H
    have hmem : rd_T33 l (i : Int) ∈ l := List.mem_of_mem_drop (i := i) (by rw [drop_rd (show i < l.length by omega)]; exact List.mem_cons_self)
    rw [drop_rd (show i < l.length by omega)] at H
    generalize he : rd_T33 l (i : Int) = e at hmem H
    have hb := hE e hmem
    have hbb := hB.2 e.f1 hb.2.2.1 hb.2.2.2.1
    refine Ev.step (f := fun k => orreryref21_Reach.l2 k (n : Int) B (rS B r e) l (l.length : Int) ((i + 1 : Nat) : Int)) (fun k => ?_) (ih (i + 1) _ (by omega) (rS_grid hg ⟨hb.1, hb.2.1⟩) H)
    simp only [orreryref21_Reach.l2]
    rw [if_pos (by omega), if_pos (by omega), if_pos (by omega), he, if_pos hb.2.2.1, if_pos (by rw [hB.1]; exact hb.2.2.2.1), w64 (by omega) (by omega), show (i : Int) + 1 = ((i + 1 : Nat) : Int) by omega]
    unfold rS
    by_cases q : rd B e.f1 = e.f0
    · rw [if_pos q, if_pos q]
    · rw [if_neg q, if_neg q, if_pos hb.1, if_pos (by rw [hg.1]; exact hb.2.1), if_pos hbb.1, if_pos (by rw [hg.row hb.1 hb.2.1]; exact hbb.2)]
theorem Reach_l1 (h64 : n ≤ 64) (l : List S33) (B : List Int) (R : List (List Int)) (H : Ev (fun k => orreryref21_Reach.l2 k (n : Int) B (List.replicate n (List.replicate n 0)) l (l.length : Int) ((0 : Nat) : Int)) R) :
    ∀ (d i : Nat), i + d = n → Ev (fun k => orreryref21_Reach.l1 k (n : Int) l B (List.replicate i (List.replicate n 0)) (i : Int)) R := by
  intro d
  induction d with
  | zero =>
    intro i hi
    have e : i = n := by omega
    subst e
    refine Ev.step (f := fun k => orreryref21_Reach.l2 k (i : Int) B (List.replicate i (List.replicate i 0)) l (l.length : Int) ((0 : Nat) : Int)) (fun k => ?_) H
    simp only [orreryref21_Reach.l1]
    rw [if_neg (by omega)]
    rfl
  | succ d ih =>
    intro i hi
    refine Ev.step (f := fun k => orreryref21_Reach.l1 k (n : Int) l B (List.replicate (i + 1) (List.replicate n 0)) ((i + 1 : Nat) : Int)) (fun k => ?_) (ih (i + 1) (by omega))
    simp only [orreryref21_Reach.l1]
    rw [if_pos (by omega), if_pos (by omega), if_pos (by omega), if_pos (by rw [List.length_replicate]; omega), w64 (by omega) (by omega), show (i : Int) + 1 = ((i + 1 : Nat) : Int) by omega, Int.toNat_natCast, List.replicate_succ']
theorem Reach_l0 (h64 : n ≤ 64) (l : List S33) {told : List Int} (ht : told.length = n) (hr : ∀ j ∈ told, 0 ≤ j ∧ j < (n : Int)) (R : List (List Int)) : ∀ (d i : Nat) (b : List Int), i + d = n → b.length = n →
    Ev (fun k => orreryref21_Reach.l1 k (n : Int) l (byS (told.drop i) i b) [] 0) R → Ev (fun k => orreryref21_Reach.l0 k (n : Int) l b told (told.length : Int) (i : Int)) R := by
  intro d
  induction d with
  | zero =>
    intro i b hi hb H
    rw [List.drop_eq_nil_of_le (by omega)] at H
    refine Ev.step (f := fun k => orreryref21_Reach.l1 k (n : Int) l b [] 0) (fun k => ?_) H
    simp only [orreryref21_Reach.l0]
    rw [if_neg (by omega)]
  | succ d ih =>
    intro i b hi hb H
    have hmem : rd told (i : Int) ∈ told := List.mem_of_mem_drop (i := i) (by rw [drop_rdI (show i < told.length by omega)]; exact List.mem_cons_self)
    rw [drop_rdI (show i < told.length by omega)] at H
    generalize he : rd told (i : Int) = j at hmem H
    have hj := hr j hmem
    refine Ev.step (f := fun k => orreryref21_Reach.l0 k (n : Int) l (b.set j.toNat (i : Int)) told (told.length : Int) ((i + 1 : Nat) : Int)) (fun k => ?_) (ih (i + 1) _ (by omega) (by rw [List.length_set]; exact hb) H)
    simp only [orreryref21_Reach.l0]
    rw [if_pos (by omega), if_pos (by omega), if_pos (by omega), he, if_pos hj.1, if_pos (by rw [hb]; exact hj.2), w64 (by omega) (by omega), show (i : Int) + 1 = ((i + 1 : Nat) : Int) by omega]
end
/-- The reference's grid tells who reaches whom. -/
theorem Ev_Reach {n : Nat} (h64 : n ≤ 64) {l : List S33} (hl : l.length ≤ 4096) (hE : Edges n n l) {told : List Int} (ht : told.length = n) (hr : ∀ j ∈ told, 0 ≤ j ∧ j < (n : Int)) :
    ∃ R, Rl n R (Pm (needs n l told) n) ∧ Ev (fun k => orreryref21_Reach.f k (n : Int) l told) R := by
  obtain ⟨_, h0⟩ := needs_in hE ht hr
  obtain ⟨R, hR, h3⟩ := Reach_l3 h64 (needs n l told) n 0 _ (by omega) h0
  refine ⟨R, hR, ?_⟩
  have h2 := Reach_l2 h64 hl hE (by_in ht hr) R l.length 0 _ (by omega) (Rl.none n).1 h3
  have h1 := Reach_l1 h64 l _ R h2 n 0 (by omega)
  have h0 := Reach_l0 h64 l ht hr R n 0 (List.replicate n 0) (by omega) (by simp) h1
  have e : ∀ k, orreryref21_Reach.f k (n : Int) l told = orreryref21_Reach.l0 k (n : Int) l (List.replicate n 0) told (told.length : Int) ((0 : Nat) : Int) := fun k => by
    unfold orreryref21_Reach.f
    rw [if_pos (by omega), if_pos (by omega), Int.toNat_natCast]
    rfl
  rw [show (fun k => orreryref21_Reach.f k (n : Int) l told) = fun k => orreryref21_Reach.l0 k (n : Int) l (List.replicate n 0) told (told.length : Int) ((0 : Nat) : Int) from funext e]
  exact h0
end Go.Proofs.Ytlaneafplmbcnaa.PO
