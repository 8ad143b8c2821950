/- OrderParts, in plain Lean. -/
import Derived.Test.YtlaneafplmbcnaaPOx55
import Derived.Test.YtlaneafplmbcnaaBp
import Derived.Test.YtlaneafplmbcnaaRowA
namespace Go.Proofs.Ytlaneafplmbcnaa.PO
open Go.RowKit Go.Proofs.YtlaneafplmbcnaaW.PrintWords Go.Proofs.YtlaneafplmbcnaaW.PrintLast Go.Proofs.YtlaneafplmbcnaaW.PrintMore
set_option linter.unusedVariables false
set_option linter.unusedSimpArgs false
/-- Lists that part the numbers below n; ix tells where each is. -/
structure Part (n m : Nat) (B : Nat → List Int) (ix : Int → Nat) : Prop where
  rg : ∀ p, p < m → ∀ e ∈ B p, 0 ≤ e ∧ e < (n : Int)
  srt : ∀ p, p < m → (B p).Pairwise (fun a b => a < b)
  mem : ∀ p, p < m → ∀ e : Int, 0 ≤ e → e < (n : Int) → (e ∈ B p ↔ ix e = p)
  lt : ∀ e : Int, 0 ≤ e → e < (n : Int) → ix e < m
/-- What is written down when c lists and t numbers of the next one are gone through. -/
def PSt (n : Nat) (B : Nat → List Int) (ix : Int → Nat) (P : List Int) (c t : Nat) : Prop :=
  P.length = n ∧ ∀ e : Int, 0 ≤ e → e < (n : Int) → rd P e = if ix e < c ∨ e ∈ (B c).take t then (ix e : Int) + 1 else 0
section
variable {n m : Nat} {B : Nat → List Int} {ix : Int → Nat} (Z : Part n m B ix)
theorem PSt.start : PSt n B ix (List.replicate n 0) 0 0 := ⟨by simp, fun e e0 e1 => by rw [tj_rep e0 e1, if_neg (by simp)]⟩
include Z
theorem PSt.next {P : List Int} {c : Nat} (hc : c < m) (h : PSt n B ix P c (B c).length) : PSt n B ix P (c + 1) 0 := ⟨h.1, fun e e0 e1 => by
  rw [h.2 e e0 e1, List.take_length, List.take_zero]
  have hm := Z.mem c hc e e0 e1
  by_cases q : ix e < c + 1
  · have z : ix e < c ∨ e ∈ B c := by
      rcases Nat.lt_succ_iff_lt_or_eq.1 q with z | z
      · exact .inl z
      · exact .inr (hm.2 z)
    rw [if_pos z, if_pos (.inl q)]
  · have z : ¬ (ix e < c ∨ e ∈ B c) := by
      rintro (z | z)
      · exact q (by omega)
      · have := hm.1 z; exact q (by omega)
    rw [if_neg z, if_neg]
    rintro (z | z)
    · exact q z
    · cases z⟩
theorem PSt.zero {P : List Int} {c t : Nat} (hc : c < m) (h : PSt n B ix P c t) (ht : t < (B c).length) : rd P (rd (B c) (t : Int)) = 0 := by
  have hr : rd (B c) (t : Int) = (B c)[t] := rd_getE ht
  have hmem : (B c)[t] ∈ B c := List.getElem_mem ht
  have hrg := Z.rg c hc _ hmem
  have hix := (Z.mem c hc _ hrg.1 hrg.2).1 hmem
  rw [hr, h.2 _ hrg.1 hrg.2, if_neg]
  rintro (z | z)
  · omega
  · obtain ⟨k, hk, e⟩ := List.mem_iff_getElem.1 z
    rw [List.length_take] at hk
    rw [List.getElem_take] at e
    have := List.pairwise_iff_getElem.1 (Z.srt c hc) k t (by omega) ht (by omega)
    omega
theorem PSt.put {P : List Int} {c t : Nat} (hc : c < m) (h : PSt n B ix P c t) (ht : t < (B c).length) : PSt n B ix (P.set (rd (B c) (t : Int)).toNat ((c : Int) + 1)) c (t + 1) := by
  have hr : rd (B c) (t : Int) = (B c)[t] := rd_getE ht
  have hmem : (B c)[t] ∈ B c := List.getElem_mem ht
  have hrg := Z.rg c hc _ hmem
  have hix := (Z.mem c hc _ hrg.1 hrg.2).1 hmem
  have htk : (B c).take (t + 1) = (B c).take t ++ [(B c)[t]] := by rw [List.take_succ_eq_append_getElem ht]
  refine ⟨by rw [List.length_set]; exact h.1, fun e e0 e1 => ?_⟩
  rw [hr, tj_rd P (B c)[t] e _ hrg.1 (by rw [h.1]; exact hrg.2) e0, htk]
  by_cases q : (B c)[t] = e
  · rw [if_pos q, if_pos (.inr (List.mem_append.2 (.inr (by rw [q]; exact List.mem_singleton.2 rfl)))), ← q, hix]
  · rw [if_neg q, h.2 e e0 e1]
    have : e ∈ (B c).take t ++ [(B c)[t]] ↔ e ∈ (B c).take t := by
      rw [List.mem_append, List.mem_singleton]
      exact ⟨fun h => h.resolve_right (fun h => q h.symm), .inl⟩
    simp only [this]
theorem PSt.full {P : List Int} (h : PSt n B ix P m 0) {e : Int} (e0 : 0 ≤ e) (e1 : e < (n : Int)) : rd P e = (ix e : Int) + 1 := by
  rw [h.2 e e0 e1, if_pos (.inl (Z.lt e e0 e1))]
theorem Part.up {c t : Nat} (hc : c < m) (ht : t < (B c).length) (h0 : 0 < t) : rd (B c) ((t : Int) - 1) < rd (B c) (t : Int) := by
  have e : (t : Int) - 1 = ((t - 1 : Nat) : Int) := by omega
  rw [e, rd_getE ht, rd_getE (show t - 1 < (B c).length by omega)]
  exact List.pairwise_iff_getElem.1 (Z.srt c hc) (t - 1) t (by omega) ht (by omega)
end
section
variable {n m : Nat} (h64 : n ≤ 64) (l : List S33) (told : List Int) (x : List S30) (hxm : x.length = m) (hm : m ≤ 64) {ix iv : Int → Nat}
  (Z : Part n m (fun p => (rd_T30 x (p : Int)).f0) ix) (Y : Part n m (fun p => (rd_T30 x (p : Int)).f1) iv) (hs : ∀ c : Nat, c < m → (rd_T30 x (c : Int)).f0.length ≤ 64 ∧ (rd_T30 x (c : Int)).f1.length ≤ 64)
include hm Y hs in
theorem PP_l2 (P : List Int) {c : Nat} (hc : c < m) (X : Int) (b0 : List Int)
    (H : ∀ K, PSt n (fun p => (rd_T30 x (p : Int)).f1) iv K (c + 1) 0 → Ev (fun k => orrerylaw21_OrderParts.l0 k (n : Int) l told P K x X (wrap64 ((c : Int) + 1))) true) :
    ∀ (d t : Nat) (K : List Int), t + d = (rd_T30 x (c : Int)).f1.length → PSt n (fun p => (rd_T30 x (p : Int)).f1) iv K c t → Ev (fun k => orrerylaw21_OrderParts.l2 k (n : Int) l told P K (c : Int) x X (c : Int) (rd_T30 x (c : Int)).f1 ((rd_T30 x (c : Int)).f1.length : Int) (t : Int) b0 (rd_T30 x (c : Int)).f1) true := by
  intro d
  induction d with
  | zero =>
    intro t K ht hK
    have e : t = (rd_T30 x (c : Int)).f1.length := by omega
    rw [e] at hK
    refine Ev.step (fun k => ?_) (H K (PSt.next Y hc hK))
    simp only [orrerylaw21_OrderParts.l2]
    rw [if_neg (by omega)]
  | succ d ih =>
    intro t K ht hK
    have hlen := (hs c hc).2
    have q0 : (0 : Int) ≤ (t : Int) := Int.natCast_nonneg t
    have htl : t < (rd_T30 x (c : Int)).f1.length := by omega
    have q1 : (t : Int) < ((rd_T30 x (c : Int)).f1.length : Int) := by omega
    have hw : wrap64 ((t : Int) + 1) = ((t + 1 : Nat) : Int) := by rw [w64 (by omega) (by omega)]; omega
    have hw1 : wrap64 ((c : Int) + 1) = (c : Int) + 1 := w64 (by omega) (by omega)
    have hw2 : wrap64 ((t : Int) - 1) = (t : Int) - 1 := w64 (by omega) (by omega)
    have hmem : rd (rd_T30 x (c : Int)).f1 (t : Int) ∈ (rd_T30 x (c : Int)).f1 := by rw [rd_getE htl]; exact List.getElem_mem _
    have hrg := Y.rg c hc _ hmem
    have hz : rd K (rd (rd_T30 x (c : Int)).f1 (t : Int)) = 0 := PSt.zero Y hc hK htl
    have hup : 0 < t → rd (rd_T30 x (c : Int)).f1 ((t : Int) - 1) < rd (rd_T30 x (c : Int)).f1 (t : Int) := fun h => Part.up Y hc htl h
    have hput : PSt n (fun p => (rd_T30 x (p : Int)).f1) iv (K.set (rd (rd_T30 x (c : Int)).f1 (t : Int)).toNat ((c : Int) + 1)) c (t + 1) := PSt.put Y hc hK htl
    have hKl := hK.1
    refine Ev.step (fun k => ?_) (ih (t + 1) _ (by omega) hput)
    clear ih hput hmem H hK
    simp only [orrerylaw21_OrderParts.l2]
    generalize rd (rd_T30 x (c : Int)).f1 (t : Int) = e at hz hup hrg ⊢
    rw [if_pos q1, if_pos q0, if_pos q1, if_neg (show ¬ e < 0 by omega), if_neg (show ¬ e ≥ (n : Int) by omega), if_pos hrg.1, if_pos (show e < (K.length : Int) by rw [hKl]; exact hrg.2), if_pos hz]
    by_cases z : 0 < t
    · rw [if_pos (show (t : Int) > 0 by omega), hw2, if_pos (show (0 : Int) ≤ (t : Int) - 1 by omega), if_pos (show (t : Int) - 1 < ((rd_T30 x (c : Int)).f1.length : Int) by omega), if_neg (show ¬ rd (rd_T30 x (c : Int)).f1 ((t : Int) - 1) ≥ e by have := hup z; omega), hw1, hw]
    · rw [if_neg (show ¬ (t : Int) > 0 by omega), hw1, hw]
include hm Z hs in
theorem PP_l1 (K : List Int) {c : Nat} (hc : c < m) (X : Int)
    (H : ∀ P, PSt n (fun p => (rd_T30 x (p : Int)).f0) ix P (c + 1) 0 → Ev (fun k => orrerylaw21_OrderParts.l2 k (n : Int) l told P K (c : Int) x X (c : Int) (rd_T30 x (c : Int)).f1 ((rd_T30 x (c : Int)).f1.length : Int) ((0 : Nat) : Int) (rd_T30 x (c : Int)).f0 (rd_T30 x (c : Int)).f1) true) :
    ∀ (d t : Nat) (P : List Int), t + d = (rd_T30 x (c : Int)).f0.length → PSt n (fun p => (rd_T30 x (p : Int)).f0) ix P c t → Ev (fun k => orrerylaw21_OrderParts.l1 k (n : Int) l told P K (c : Int) x X (c : Int) (rd_T30 x (c : Int)).f0 ((rd_T30 x (c : Int)).f0.length : Int) (t : Int) (rd_T30 x (c : Int)).f0 (rd_T30 x (c : Int)).f1) true := by
  intro d
  induction d with
  | zero =>
    intro t P ht hK
    have e : t = (rd_T30 x (c : Int)).f0.length := by omega
    rw [e] at hK
    refine Ev.step (fun k => ?_) (H P (PSt.next Z hc hK))
    simp only [orrerylaw21_OrderParts.l1]
    rw [if_neg (by omega)]
    rfl
  | succ d ih =>
    intro t P ht hK
    have hlen := (hs c hc).1
    have q0 : (0 : Int) ≤ (t : Int) := Int.natCast_nonneg t
    have htl : t < (rd_T30 x (c : Int)).f0.length := by omega
    have q1 : (t : Int) < ((rd_T30 x (c : Int)).f0.length : Int) := by omega
    have hw : wrap64 ((t : Int) + 1) = ((t + 1 : Nat) : Int) := by rw [w64 (by omega) (by omega)]; omega
    have hw1 : wrap64 ((c : Int) + 1) = (c : Int) + 1 := w64 (by omega) (by omega)
    have hw2 : wrap64 ((t : Int) - 1) = (t : Int) - 1 := w64 (by omega) (by omega)
    have hmem : rd (rd_T30 x (c : Int)).f0 (t : Int) ∈ (rd_T30 x (c : Int)).f0 := by rw [rd_getE htl]; exact List.getElem_mem _
    have hrg := Z.rg c hc _ hmem
    have hz : rd P (rd (rd_T30 x (c : Int)).f0 (t : Int)) = 0 := PSt.zero Z hc hK htl
    have hup : 0 < t → rd (rd_T30 x (c : Int)).f0 ((t : Int) - 1) < rd (rd_T30 x (c : Int)).f0 (t : Int) := fun h => Part.up Z hc htl h
    have hput : PSt n (fun p => (rd_T30 x (p : Int)).f0) ix (P.set (rd (rd_T30 x (c : Int)).f0 (t : Int)).toNat ((c : Int) + 1)) c (t + 1) := PSt.put Z hc hK htl
    have hKl := hK.1
    refine Ev.step (fun k => ?_) (ih (t + 1) _ (by omega) hput)
    clear ih hput hmem H hK
    simp only [orrerylaw21_OrderParts.l1]
    generalize rd (rd_T30 x (c : Int)).f0 (t : Int) = e at hz hup hrg ⊢
    rw [if_pos q1, if_pos q0, if_pos q1, if_neg (show ¬ e < 0 by omega), if_neg (show ¬ e ≥ (n : Int) by omega), if_pos hrg.1, if_pos (show e < (P.length : Int) by rw [hKl]; exact hrg.2), if_pos hz]
    by_cases z : 0 < t
    · rw [if_pos (show (t : Int) > 0 by omega), hw2, if_pos (show (0 : Int) ≤ (t : Int) - 1 by omega), if_pos (show (t : Int) - 1 < ((rd_T30 x (c : Int)).f0.length : Int) by omega), if_neg (show ¬ rd (rd_T30 x (c : Int)).f0 ((t : Int) - 1) ≥ e by have := hup z; omega), hw1, hw]
    · rw [if_neg (show ¬ (t : Int) > 0 by omega), hw1, hw]
include hxm hm Z Y hs in
theorem PP_l0 (H : ∀ P K, PSt n (fun p => (rd_T30 x (p : Int)).f0) ix P m 0 → PSt n (fun p => (rd_T30 x (p : Int)).f1) iv K m 0 → Ev (fun k => orrerylaw21_OrderParts.l3 k l P K told (told.length : Int) 0) true)
    (hne : ∀ c : Nat, c < m → (rd_T30 x (c : Int)).f0.length ≠ 0 ∧ (rd_T30 x (c : Int)).f0.length = (rd_T30 x (c : Int)).f1.length) :
    ∀ (d c : Nat) (P K : List Int), c + d = m → PSt n (fun p => (rd_T30 x (p : Int)).f0) ix P c 0 → PSt n (fun p => (rd_T30 x (p : Int)).f1) iv K c 0 → Ev (fun k => orrerylaw21_OrderParts.l0 k (n : Int) l told P K x (x.length : Int) (c : Int)) true := by
  intro d
  induction d with
  | zero =>
    intro c P K hc hP hK
    have e : c = m := by omega
    subst e
    refine Ev.step (fun k => ?_) (H P K hP hK)
    simp only [orrerylaw21_OrderParts.l0]
    rw [if_neg (by omega)]
  | succ d ih =>
    intro c P K hc hP hK
    have q0 : (0 : Int) ≤ (c : Int) := Int.natCast_nonneg c
    have q1 : (c : Int) < (x.length : Int) := by omega
    have hcm : c < m := by omega
    have hw : wrap64 ((c : Int) + 1) = ((c + 1 : Nat) : Int) := by rw [w64 (by omega) (by omega)]; omega
    have hn := hne c hcm
    have h2 : ∀ P', PSt n (fun p => (rd_T30 x (p : Int)).f0) ix P' (c + 1) 0 → Ev (fun k => orrerylaw21_OrderParts.l2 k (n : Int) l told P' K (c : Int) x (x.length : Int) (c : Int) (rd_T30 x (c : Int)).f1 ((rd_T30 x (c : Int)).f1.length : Int) ((0 : Nat) : Int) (rd_T30 x (c : Int)).f0 (rd_T30 x (c : Int)).f1) true := fun P' hP' => by
      refine PP_l2 l told x hm Y hs P' hcm (x.length : Int) (rd_T30 x (c : Int)).f0 (fun K' hK' => ?_) (rd_T30 x (c : Int)).f1.length 0 K (by omega) hK
      rw [hw]
      exact ih (c + 1) P' K' (by omega) hP' hK'
    have h1 := PP_l1 l told x hm Z hs K hcm (x.length : Int) h2 (rd_T30 x (c : Int)).f0.length 0 P (by omega) hP
    have hj : Ev (fun k => orrerylaw21_OrderParts.j1 k (n : Int) l told P K (c : Int) x (x.length : Int) (c : Int) false (rd_T30 x (c : Int)).f0 (rd_T30 x (c : Int)).f1) true := by
      refine Ev.step (fun k => ?_) h1
      simp only [orrerylaw21_OrderParts.j1]
      rw [if_neg Bool.false_ne_true]
      rfl
    refine Ev.step (fun k => ?_) hj
    have z : (((rd_T30 x (c : Int)).f0.length : Int) != ((rd_T30 x (c : Int)).f1.length : Int)) = false := by rw [hn.2]; simp
    simp only [orrerylaw21_OrderParts.l0]
    rw [if_pos q1, if_pos q0, if_pos q1, if_neg (by omega), z]
include Z Y in
theorem PP_l4 (P K : List Int) (hP : PSt n (fun p => (rd_T30 x (p : Int)).f0) ix P m 0) (hK : PSt n (fun p => (rd_T30 x (p : Int)).f1) iv K m 0) (hl : l.length ≤ 4096) (hE : Edges n n l) (ho : ∀ e ∈ l, iv e.f1 ≤ ix e.f0) :
    ∀ (d i : Nat), i + d = l.length → Ev (fun k => orrerylaw21_OrderParts.l4 k P K l (l.length : Int) (i : Int)) true := by
  intro d
  induction d with
  | zero =>
    intro i hi
    refine Ev.step (f := fun _ => some true) (fun k => ?_) (Ev.now _)
    simp only [orrerylaw21_OrderParts.l4]
    rw [if_neg (by omega)]
  | succ d ih =>
    intro i hi
    have q0 : (0 : Int) ≤ (i : Int) := Int.natCast_nonneg i
    have q1 : (i : Int) < (l.length : Int) := by omega
    have hw : wrap64 ((i : Int) + 1) = ((i + 1 : Nat) : Int) := by rw [w64 (by omega) (by omega)]; omega
    have hmem : rd_T33 l (i : Int) ∈ l := List.mem_of_mem_drop (i := i) (by rw [drop_rd (show i < l.length by omega)]; exact List.mem_cons_self)
    have he := hE _ hmem
    have h1 := hP.full Z he.1 he.2.1
    have h2 := hK.full Y he.2.2.1 he.2.2.2.1
    have h3 := ho _ hmem
    have hPl := hP.1
    have hKl := hK.1
    refine Ev.step (fun k => ?_) (ih (i + 1) (by omega))
    clear ih hP hK hmem ho
    simp only [orrerylaw21_OrderParts.l4]
    generalize rd_T33 l (i : Int) = e at he h1 h2 h3 ⊢
    rw [if_pos q1, if_pos q0, if_pos q1, if_pos he.2.2.1, if_pos (show e.f1 < (K.length : Int) by rw [hKl]; exact he.2.2.2.1), if_pos he.1, if_pos (show e.f0 < (P.length : Int) by rw [hPl]; exact he.2.1), h1, h2, if_neg (by omega), hw]
include h64 Z Y in
theorem PP_l3 (P K : List Int) (hP : PSt n (fun p => (rd_T30 x (p : Int)).f0) ix P m 0) (hK : PSt n (fun p => (rd_T30 x (p : Int)).f1) iv K m 0) (ht : told.length = n) (hr : ∀ i : Int, 0 ≤ i → i < (n : Int) → 0 ≤ rd told i ∧ rd told i < (n : Int)) (hv : ∀ i : Int, 0 ≤ i → i < (n : Int) → iv (rd told i) = ix i)
    (H : Ev (fun k => orrerylaw21_OrderParts.l4 k P K l (l.length : Int) ((0 : Nat) : Int)) true) :
    ∀ (d i : Nat), i + d = n → Ev (fun k => orrerylaw21_OrderParts.l3 k l P K told (told.length : Int) (i : Int)) true := by
  intro d
  induction d with
  | zero =>
    intro i hi
    refine Ev.step (fun k => ?_) H
    simp only [orrerylaw21_OrderParts.l3]
    rw [if_neg (by omega)]
    rfl
  | succ d ih =>
    intro i hi
    have q0 : (0 : Int) ≤ (i : Int) := Int.natCast_nonneg i
    have q1 : (i : Int) < (told.length : Int) := by omega
    have hw : wrap64 ((i : Int) + 1) = ((i + 1 : Nat) : Int) := by rw [w64 (by omega) (by omega)]; omega
    have hri := hr i q0 (by omega)
    have h1 := hP.full Z q0 (show (i : Int) < (n : Int) by omega)
    have h2 := hK.full Y hri.1 hri.2
    rw [hv i q0 (by omega)] at h2
    have hPl := hP.1
    have hKl := hK.1
    refine Ev.step (fun k => ?_) (ih (i + 1) (by omega))
    clear ih hP hK hr hv H
    simp only [orrerylaw21_OrderParts.l3]
    rw [if_pos q1, if_pos q0, if_pos q1, if_pos (show (i : Int) < (P.length : Int) by rw [hPl]; omega), h1, h2, if_neg (by omega), if_pos hri.1, if_pos (show rd told (i : Int) < (K.length : Int) by rw [hKl]; exact hri.2), if_pos rfl, hw]
end
theorem mem_f1 {n : Nat} {l : List S33} {told : List Int} (T : Whole n l told) {x : List S30} (B : Blks (needs n l told) n told x) {c : Nat} (hc : c < x.length) {v : Int} (v0 : 0 ≤ v) (v1 : v < (n : Int)) : v ∈ x[c].f1 ↔ rd (byL n told) v ∈ x[c].f0 := by
  have hk := T.told_by v0 v1
  rw [B.f1_mem hc]
  constructor
  · rintro ⟨e, he, he2⟩
    have her := B.rg _ (List.getElem_mem hc) e he
    rw [← he2, T.by_told her.1 her.2]; exact he
  · exact fun h => ⟨_, h, hk.2.2⟩
theorem OrderParts_ev (a : Int) (l : List S33) (told : List Int) (hl : l.length ≤ 9223372036854775807) : Ev (fun k => orrerylaw21_OrderParts.f k a l told) true := by
  unfold orrerylaw21_OrderParts.f
  refine Ev.bind (Ev_Told a l told hl) ?_
  cases h : toldB a l told with
  | false => simp only [Bool.false_eq_true, if_false]; exact Ev.now _
  | true =>
    simp only [if_true]
    have hB := Ev_oBlocks h
    obtain ⟨ha, T⟩ := toldB_whole h
    obtain ⟨n, rfl⟩ := Int.eq_ofNat_of_zero_le ha
    rw [Int.toNat_natCast] at T hB
    refine Ev.bind hB ?_
    have hn := T.hn
    simp only [if_true, Int.toNat_natCast, if_pos (show (0 : Int) ≤ (n : Int) by omega), if_pos (show n ≤ 35184372088832 by omega)]
    have B := blocks_blks T
    have hlen := blocks_len T
    have hs := blocks_short T
    have hg : ∀ {c : Nat} (hc : c < (blocksL n l told).length), rd_T30 (blocksL n l told) (c : Int) = (blocksL n l told)[c] := fun hc => rd_T30_getE hc
    generalize blocksL n l told = x at B hlen hs hg ⊢
    have hat : ∀ e : Int, ∃ i : Nat, 0 ≤ e → e < (n : Int) → ∃ hi : i < x.length, e ∈ x[i].f0 := fun e => by
      by_cases c : 0 ≤ e ∧ e < (n : Int)
      · obtain ⟨i, hi, he⟩ := B.at c.1 c.2
        exact ⟨i, fun _ _ => ⟨hi, he⟩⟩
      · exact ⟨0, fun a b => absurd ⟨a, b⟩ c⟩
    obtain ⟨ix, hix⟩ := Classical.axiomOfChoice hat
    have Z : Part n x.length (fun p => (rd_T30 x (p : Int)).f0) ix := by
      refine ⟨fun p hp e he => ?_, fun p hp => ?_, fun p hp e e0 e1 => ?_, fun e e0 e1 => (hix e e0 e1).1⟩
      · simp only [hg hp] at he
        exact B.rg _ (List.getElem_mem hp) e he
      · simp only [hg hp]
        exact (B.scc _ (List.getElem_mem hp)).1
      · simp only [hg hp]
        obtain ⟨hi, he⟩ := hix e e0 e1
        exact ⟨fun h => B.one hi hp he h, fun h => by subst h; exact he⟩
    have Y : Part n x.length (fun p => (rd_T30 x (p : Int)).f1) (fun v => ix (rd (byL n told) v)) := by
      refine ⟨fun p hp e he => ?_, fun p hp => ?_, fun p hp e e0 e1 => ?_, fun e e0 e1 => ?_⟩
      · simp only [hg hp] at he
        obtain ⟨e', he', rfl⟩ := (B.f1_mem hp).1 he
        have := B.rg _ (List.getElem_mem hp) e' he'
        exact ⟨(T.rg e' this.1 this.2).1, (T.rg e' this.1 this.2).2.1⟩
      · simp only [hg hp]
        rw [B.vars _ (List.getElem_mem hp)]
        refine sortI_lt ?_
        have hs := B.scc _ (List.getElem_mem hp)
        have hr := B.rg _ (List.getElem_mem hp)
        unfold List.Nodup
        rw [List.pairwise_map]
        refine hs.1.imp_of_mem (fun {u v} hu hv huv q => ?_)
        exact T.inj u v (hr u hu).1 huv (hr v hv).2 q
      · simp only [hg hp]
        have hk := T.told_by e0 e1
        rw [mem_f1 T B hp e0 e1]
        obtain ⟨hi, he⟩ := hix _ hk.1 hk.2.1
        exact ⟨fun h => B.one hi hp he h, fun h => by subst h; exact he⟩
      · have hk := T.told_by e0 e1
        exact (hix _ hk.1 hk.2.1).1
    have hs2 : ∀ c : Nat, c < x.length → (rd_T30 x (c : Int)).f0.length ≤ 64 ∧ (rd_T30 x (c : Int)).f1.length ≤ 64 := fun c hc => by
      rw [hg hc]; have := hs _ (List.getElem_mem hc); omega
    have hord : ∀ e ∈ l, ix (rd (byL n told) e.f1) ≤ ix e.f0 := fun e he => by
      have her := T.hE e he
      have hk := T.told_by her.2.2.1 her.2.2.2.1
      by_cases c : rd (byL n told) e.f1 = e.f0
      · rw [c]; exact Nat.le_refl _
      · have hnd : rd (byL n told) e.f1 ∈ rd_L3 (needs n l told) e.f0 := (T.needs_mem her.1).2 ⟨e, he, rfl, rfl, c⟩
        obtain ⟨hi, hei⟩ := hix e.f0 her.1 her.2.1
        obtain ⟨j, hj, hji, hk2⟩ := B.ord _ hi _ hei _ hnd
        obtain ⟨hi', hei'⟩ := hix _ hk.1 hk.2.1
        have := B.one hi' hj hei' hk2
        omega
    refine PP_l0 l told x rfl (by omega) Z Y hs2 (fun P K hP hK => ?_) (fun c hc => ?_) x.length 0 _ _ (by omega) PSt.start PSt.start
    · have h4 := PP_l4 l x Z Y P K hP hK T.hl T.hE hord l.length 0 (by omega)
      exact PP_l3 hn l told x Z Y P K hP hK T.len (fun i i0 i1 => ⟨(T.rg i i0 i1).1, (T.rg i i0 i1).2.1⟩) (fun i i0 i1 => by show ix (rd (byL n told) (rd told i)) = ix i; rw [T.by_told i0 i1]) h4 n 0 (by omega)
    · rw [hg hc]
      have hsc := B.scc _ (List.getElem_mem hc)
      obtain ⟨e, he⟩ := hsc.head
      have hm := List.length_pos_of_mem (head_mem he)
      refine ⟨by omega, ?_⟩
      rw [B.vars _ (List.getElem_mem hc), sortI_len, List.length_map]
theorem OrderParts_pure (a0 : Int) (l1 : List S33) (l2 : List Int) (h0 : I64 a0) (h1 : (∀ e ∈ l1, I64 e.f0 ∧ I64 e.f1 ∧ I64 e.f2) ∧ l1.length ≤ 9223372036854775807) (h2 : (∀ x ∈ l2, I64 x) ∧ l2.length ≤ 9223372036854775807) : ∃ k, orrerylaw21_OrderParts.f k a0 l1 l2 = some true := (OrderParts_ev a0 l1 l2 h1.2).rounds
end Go.Proofs.Ytlaneafplmbcnaa.PO
