/- The reference's blocks, in plain Lean: block by block, as Ord tells. -/
import Derived.Test.YtlaneafplmbcnaaPOx51
import Derived.Test.YtlaneafplmbcnaaPOx52
import Derived.Test.YtlaneafplmbcnaaRw
import Derived.Test.YtlaneafplmbcnaaHc
import Derived.Test.YtlaneafplmbcnaaOb
namespace Go.Proofs.Ytlaneafplmbcnaa.PO
open Go.RowKit Go.Proofs.YtlaneafplmbcnaaW.PrintWords Go.Proofs.YtlaneafplmbcnaaW.PrintLast Go.Proofs.YtlaneafplmbcnaaW.PrintMore
set_option linter.unusedVariables false
set_option linter.unusedSimpArgs false

/-- Noughts and ones. -/
def Bit (n : Nat) (th : List Int) : Prop := th.length = n ∧ ∀ x : Int, 0 ≤ x → x < (n : Int) → rd th x = 0 ∨ rd th x = 1
def isTh (th : List Int) (x : Int) : Prop := rd th x = 1
section
variable {n : Nat} {N R : List (List Int)} {th : List Int}
set_option maxHeartbeats 4000000 in
theorem free_l0 (h64 : n ≤ 64) (hR : Rl n R (Pm N n)) (hb : Bit n th) (i : Nat) (hi : i < n) : ∀ (d c : Nat), c + d = n →
    ∃ b, Ev (fun k => orreryref21_free.l0 k R th (i : Int) (n : Int) (c : Int)) b ∧ (b = true ↔ ∀ x : Int, (c : Int) ≤ x → x < (n : Int) → x ≠ (i : Int) → Pm N n i x → isTh th x ∨ Pm N n x i) := by
  intro d
  induction d with
  | zero =>
    intro c hc
    refine ⟨true, Ev.step (f := fun _ => some true) (fun k => ?_) (Ev.now _), iff_of_true rfl (fun x h1 h2 => by omega)⟩
    simp only [orreryref21_free.l0]
    rw [if_neg (by omega)]
  | succ d ih =>
    intro c hc
    have hl := hR.1.1
    have ri := hR.1.row (show (0 : Int) ≤ (i : Int) by omega) (show (i : Int) < (n : Int) by omega)
    have rc := hR.1.row (show (0 : Int) ≤ (c : Int) by omega) (show (c : Int) < (n : Int) by omega)
    have a1 := hR.2 i c (by omega) (by omega) (by omega) (by omega)
    have a2 := hR.2 c i (by omega) (by omega) (by omega) (by omega)
    have a3 := hb.2 c (by omega) (by omega)
    obtain ⟨b, hE, hiff⟩ := ih (c + 1) (by omega)
    have skip : ((c : Int) ≠ (i : Int) → Pm N n i (c : Int) → isTh th (c : Int) ∨ Pm N n (c : Int) i) → (∀ k, orreryref21_free.l0 (k + 1) R th (i : Int) (n : Int) (c : Int) = orreryref21_free.l0 k R th (i : Int) (n : Int) ((c + 1 : Nat) : Int)) →
        ∃ b, Ev (fun k => orreryref21_free.l0 k R th (i : Int) (n : Int) (c : Int)) b ∧ (b = true ↔ ∀ x : Int, (c : Int) ≤ x → x < (n : Int) → x ≠ (i : Int) → Pm N n i x → isTh th x ∨ Pm N n x i) := fun h1 h2 => by
      refine ⟨b, Ev.step (f := fun k => orreryref21_free.l0 k R th (i : Int) (n : Int) ((c + 1 : Nat) : Int)) h2 hE, hiff.trans ⟨fun h x x0 x1 => ?_, fun h x x0 x1 => h x (by omega) x1⟩⟩
      by_cases e : x = (c : Int)
      · rw [e]; exact h1
      · exact h x (by omega) x1
    have hw : wrap64 ((c : Int) + 1) = ((c + 1 : Nat) : Int) := by rw [w64 (by omega) (by omega)]; omega
    by_cases e1 : rd (rd_L3 R i) c = 1
    · by_cases e2 : rd th c = 0
      · by_cases e3 : rd (rd_L3 R c) i = 0
        · by_cases e4 : (c : Int) = (i : Int)
          · exact skip (fun h => absurd e4 h) (fun k => by
              simp only [orreryref21_free.l0]
              rw [if_pos (by omega), if_pos (by omega), if_pos (by omega), if_pos (by omega), if_pos (by omega), if_pos e1, if_pos (by rw [hb.1]; omega), if_pos e2, if_pos (by omega), if_pos (by omega), if_pos e3, if_pos e4, hw])
          · refine ⟨false, Ev.step (f := fun _ => some false) (fun k => ?_) (Ev.now _), ?_⟩
            · simp only [orreryref21_free.l0]
              rw [if_pos (by omega), if_pos (by omega), if_pos (by omega), if_pos (by omega), if_pos (by omega), if_pos e1, if_pos (by rw [hb.1]; omega), if_pos e2, if_pos (by omega), if_pos (by omega), if_pos e3, if_neg e4]
            · refine iff_of_false (by simp) (fun h => ?_)
              rcases h c (by omega) (by omega) e4 (a1.2.1 e1) with h1 | h1
              · unfold isTh at h1; omega
              · have := a2.2.2 h1; omega
        · exact skip (fun _ _ => .inr (a2.2.1 (by omega))) (fun k => by
            simp only [orreryref21_free.l0]
            rw [if_pos (by omega), if_pos (by omega), if_pos (by omega), if_pos (by omega), if_pos (by omega), if_pos e1, if_pos (by rw [hb.1]; omega), if_pos e2, if_pos (by omega), if_pos (by omega), if_neg e3, hw])
      · exact skip (fun _ _ => .inl (by unfold isTh; omega)) (fun k => by
          simp only [orreryref21_free.l0]
          rw [if_pos (by omega), if_pos (by omega), if_pos (by omega), if_pos (by omega), if_pos (by omega), if_pos e1, if_pos (by rw [hb.1]; omega), if_neg e2, hw])
    · exact skip (fun _ h => absurd (a1.2.2 h) e1) (fun k => by
        simp only [orreryref21_free.l0]
        rw [if_pos (by omega), if_pos (by omega), if_pos (by omega), if_pos (by omega), if_pos (by omega), if_neg e1, hw])
theorem Ev_free (h64 : n ≤ 64) (hN : ∀ j, ∀ k ∈ rd_L3 N j, 0 ≤ k ∧ k < (n : Int)) (hR : Rl n R (Pm N n)) (hb : Bit n th) (i : Nat) (hi : i < n) : ∃ b, Ev (fun k => orreryref21_free.f k R th (i : Int)) b ∧ (b = true ↔ FreeE N (isTh th) (i : Int)) := by
  obtain ⟨b, hE, hiff⟩ := free_l0 h64 hR hb i hi n 0 (by omega)
  refine ⟨b, Ev.congr (fun k => by unfold orreryref21_free.f; rw [hR.1.1]; rfl) hE, hiff.trans ⟨fun h k hk => ?_, fun h x x0 x1 hne hp => ?_⟩⟩
  · by_cases e : k = (i : Int)
    · rw [e]; exact .inr (.refl _)
    · have hr := Rch.range hN hk ⟨by omega, by omega⟩
      exact (h k hr.1 hr.2 e ((Pm.iff hN (fun e' => e e'.symm)).2 hk)).imp id (fun h => Pm.sound _ _ _ h)
  · exact (h x (Pm.sound _ _ _ hp)).imp id (fun h => (Pm.iff hN hne).2 h)
/-- What is marked. -/
def markL (s : List Int) (b : List Int) : List Int := b.foldl (fun s k => s.set k.toNat 1) s
theorem markL_len : ∀ (b s : List Int), (markL s b).length = s.length := by
  intro b
  induction b with
  | nil => intro s; rfl
  | cons k b ih => intro s; show (markL _ b).length = _; rw [ih, List.length_set]
theorem markL_snoc (s b : List Int) (k : Int) : markL s (b ++ [k]) = (markL s b).set k.toNat 1 := by unfold markL; rw [List.foldl_append]; rfl
theorem markL_at : ∀ (b s : List Int) (x : Int), (∀ k ∈ b, 0 ≤ k ∧ k < (s.length : Int)) → 0 ≤ x → rd (markL s b) x = if x ∈ b then 1 else rd s x := by
  intro b
  induction b with
  | nil => intro s x _ _; simp [markL]
  | cons k b ih =>
    intro s x h x0
    have hk := h k List.mem_cons_self
    show rd (markL (s.set k.toNat 1) b) x = _
    rw [ih _ x (fun y hy => by rw [List.length_set]; exact h y (List.mem_cons_of_mem _ hy)) x0, tj_rd s k x 1 hk.1 hk.2 x0]
    by_cases e1 : x ∈ b
    · rw [if_pos e1, if_pos (List.mem_cons_of_mem _ e1)]
    · rw [if_neg e1]
      by_cases e2 : k = x
      · rw [if_pos e2, if_pos (by rw [e2]; exact List.mem_cons_self)]
      · rw [if_neg e2, if_neg (fun h => (List.mem_cons.1 h).elim (fun h => e2 h.symm) e1)]
end
section
variable {n : Nat} {N R : List (List Int)} {told : List Int} {G : List S30 × Int → Prop}
set_option maxHeartbeats 4000000 in
theorem RB_l3 (h64 : n ≤ 64) (th : List Int) (out : List S30) (left : Int) (va b : List Int) (hva : Bit n va) (hol : out.length ≤ 64)
    (H : ∀ V : List Int, V.Pairwise (fun x y => x < y) → (∀ x, x ∈ V ↔ 0 ≤ x ∧ x < (n : Int) ∧ rd va x = 1) → ∃ r, G r ∧ Ev (fun k => orreryref21_Blocks.l0 k (n : Int) told R th (out ++ [⟨b, V⟩]) left) r) :
    ∀ (d c : Nat) (V : List Int), c + d = n → V.Pairwise (fun x y => x < y) → (∀ x, x ∈ V ↔ 0 ≤ x ∧ x < (c : Int) ∧ rd va x = 1) → V.length ≤ c →
    ∃ r, G r ∧ Ev (fun k => orreryref21_Blocks.l3 k (n : Int) told R th out left va (n : Int) (c : Int) b V) r := by
  intro d
  induction d with
  | zero =>
    intro c V hc hV hm hl
    have e : c = n := by omega
    subst e
    obtain ⟨r, hG, hE⟩ := H V hV hm
    refine ⟨r, hG, Ev.step (f := fun k => orreryref21_Blocks.l0 k (c : Int) told R th (out ++ [⟨b, V⟩]) left) (fun k => ?_) hE⟩
    simp only [orreryref21_Blocks.l3]
    rw [if_neg (by omega), if_pos (by omega)]
  | succ d ih =>
    intro c V hc hV hm hl
    have hw : wrap64 ((c : Int) + 1) = ((c + 1 : Nat) : Int) := by rw [w64 (by omega) (by omega)]; omega
    have hvl := hva.1
    by_cases e : rd va c = 1
    · obtain ⟨r, hG, hE⟩ := ih (c + 1) (V ++ [(c : Int)]) (by omega) (List.pairwise_append.2 ⟨hV, List.pairwise_singleton _ _, fun x hx y hy => by rw [List.mem_singleton.1 hy]; exact ((hm x).1 hx).2.1⟩) (fun x => by
        rw [List.mem_append, hm, List.mem_singleton]
        constructor
        · rintro (h | h)
          · exact ⟨h.1, by omega, h.2.2⟩
          · rw [h]; exact ⟨by omega, by omega, e⟩
        · rintro ⟨h0, h1, h2⟩
          by_cases e2 : x = (c : Int)
          · exact .inr e2
          · exact .inl ⟨h0, by omega, h2⟩) (by rw [List.length_append]; simp; omega)
      refine ⟨r, hG, Ev.step (f := fun k => orreryref21_Blocks.l3 k (n : Int) told R th out left va (n : Int) ((c + 1 : Nat) : Int) b (V ++ [(c : Int)])) (fun k => ?_) hE⟩
      simp only [orreryref21_Blocks.l3]
      rw [if_pos (by omega), if_pos (by omega), if_pos (by omega), if_pos e, if_pos (by omega), hw]
    · obtain ⟨r, hG, hE⟩ := ih (c + 1) V (by omega) hV (fun x => (hm x).trans ⟨fun h => ⟨h.1, by omega, h.2.2⟩, fun h => ⟨h.1, by
          by_cases e2 : x = (c : Int)
          · rw [e2] at h; exact absurd h.2.2 e
          · omega, h.2.2⟩⟩) (by omega)
      refine ⟨r, hG, Ev.step (f := fun k => orreryref21_Blocks.l3 k (n : Int) told R th out left va (n : Int) ((c + 1 : Nat) : Int) b V) (fun k => ?_) hE⟩
      simp only [orreryref21_Blocks.l3]
      rw [if_pos (by omega), if_pos (by omega), if_pos (by omega), if_neg e, hw]
theorem w64sub (left : Nat) (b : List Int) (c : Int) (hl : left ≤ 64) (hb : b.length ≤ 64) : wrap64 ((left : Int) - (b.length : Int) - 1) = (left : Int) - ((b ++ [c]).length : Int) := by
  have e : ((b ++ [c]).length : Int) = (b.length : Int) + 1 := by simp
  rw [e, w64 (by omega) (by omega)]
  omega
/-- Of one block with i, as the grid tells. -/
def Sw (N : List (List Int)) (n : Nat) (i x : Int) : Prop := x = i ∨ (Pm N n i x ∧ Pm N n x i)
set_option maxHeartbeats 4000000 in
theorem RB_l2 (h64 : n ≤ 64) (hR : Rl n R (Pm N n)) (htl : told.length = n) (htr : ∀ x : Int, 0 ≤ x → x < (n : Int) → 0 ≤ rd told x ∧ rd told x < (n : Int)) (th : List Int) (hth : th.length = n) (out : List S30) (left : Nat) (hleft : left ≤ 64) (i : Nat) (hi : i < n)
    (H : ∀ b : List Int, b.Pairwise (fun x y => x < y) → (∀ x, x ∈ b ↔ 0 ≤ x ∧ x < (n : Int) ∧ Sw N n i x) → b.length ≤ n → ∃ r, G r ∧ Ev (fun k => orreryref21_Blocks.l3 k (n : Int) told R (markL th b) out ((left : Int) - (b.length : Int)) (markL (List.replicate n 0) (b.map (rd told))) (n : Int) ((0 : Nat) : Int) b []) r) :
    ∀ (d c : Nat) (b : List Int), c + d = n → b.Pairwise (fun x y => x < y) → (∀ x, x ∈ b ↔ 0 ≤ x ∧ x < (c : Int) ∧ Sw N n i x) → b.length ≤ c →
    ∃ r, G r ∧ Ev (fun k => orreryref21_Blocks.l2 k (n : Int) told R (markL th b) out ((left : Int) - (b.length : Int)) (i : Int) (markL (List.replicate n 0) (b.map (rd told))) (c : Int) b) r := by
  intro d
  induction d with
  | zero =>
    intro c b hc hb hm hl
    have e : c = n := by omega
    subst e
    obtain ⟨r, hG, hE⟩ := H b hb hm hl
    refine ⟨r, hG, Ev.step (fun k => ?_) hE⟩
    simp only [orreryref21_Blocks.l2]
    rw [if_neg (by omega), markL_len, List.length_replicate]
    rfl
  | succ d ih =>
    intro c b hc hb hm hl
    have hcn : c < n := by omega
    have hbl : b.length ≤ 64 := by omega
    have hw2 := w64sub left b (c : Int) hleft hbl
    have tr := htr c (Int.natCast_nonneg c) (Int.ofNat_lt.2 hcn)
    have hl' := hR.1.1
    have ri := hR.1.row (show (0 : Int) ≤ (i : Int) by omega) (show (i : Int) < (n : Int) by omega)
    have rc := hR.1.row (show (0 : Int) ≤ (c : Int) by omega) (show (c : Int) < (n : Int) by omega)
    have a1 := hR.2 i c (by omega) (by omega) (by omega) (by omega)
    have a2 := hR.2 c i (by omega) (by omega) (by omega) (by omega)
    have hw : wrap64 ((c : Int) + 1) = ((c + 1 : Nat) : Int) := by rw [w64 (by omega) (by omega)]; omega
    have l1 : (markL th b).length = n := by rw [markL_len, hth]
    have l2 : (markL (List.replicate n 0) (b.map (rd told))).length = n := by rw [markL_len, List.length_replicate]
    have A1 := Aside0.mk a1
    have A2 := Aside0.mk a2
    have HW := Aside0.mk hw
    have HW2 := Aside0.mk hw2
    clear a1 a2 hw hw2
    have add : Sw N n i c → ∃ r, G r ∧ Ev (fun k => orreryref21_Blocks.l2 k (n : Int) told R ((markL th b).set (c : Int).toNat 1) out (wrap64 ((left : Int) - (b.length : Int) - 1)) (i : Int) ((markL (List.replicate n 0) (b.map (rd told))).set (rd told c).toNat 1) ((c + 1 : Nat) : Int) (b ++ [(c : Int)])) r := fun hs => by
      have := ih (c + 1) (b ++ [(c : Int)]) (by omega) (List.pairwise_append.2 ⟨hb, List.pairwise_singleton _ _, fun x hx y hy => by rw [List.mem_singleton.1 hy]; exact ((hm x).1 hx).2.1⟩) (fun x => by
        rw [List.mem_append, hm, List.mem_singleton]
        constructor
        · rintro (h | h)
          · exact ⟨h.1, by omega, h.2.2⟩
          · rw [h]; exact ⟨by omega, by omega, hs⟩
        · rintro ⟨h0, h1, h2⟩
          by_cases e2 : x = (c : Int)
          · exact .inr e2
          · exact .inl ⟨h0, by omega, h2⟩) (by rw [List.length_append]; simp; omega)
      rw [markL_snoc, List.map_append, List.map_cons, List.map_nil, markL_snoc] at this
      rw [HW2.out]
      exact this
    have skip : ¬ Sw N n i c → ∃ r, G r ∧ Ev (fun k => orreryref21_Blocks.l2 k (n : Int) told R (markL th b) out ((left : Int) - (b.length : Int)) (i : Int) (markL (List.replicate n 0) (b.map (rd told))) ((c + 1 : Nat) : Int) b) r := fun hs =>
      ih (c + 1) b (by omega) hb (fun x => (hm x).trans ⟨fun h => ⟨h.1, by omega, h.2.2⟩, fun h => ⟨h.1, by
          by_cases e2 : x = (c : Int)
          · rw [e2] at h; exact absurd h.2.2 hs
          · omega, h.2.2⟩⟩) (by omega)
    by_cases e0 : (c : Int) = (i : Int)
    · obtain ⟨r, hG, hE⟩ := add (.inl e0)
      refine ⟨r, hG, Ev.step (fun k => ?_) hE⟩
      simp only [orreryref21_Blocks.l2]
      rw [if_pos (by omega), if_pos e0, if_pos (by omega), if_pos (by omega), if_pos (by omega), if_pos tr.1, if_pos (by rw [l2]; exact tr.2), if_pos (by rw [l1]; omega), HW.out]
    · by_cases e1 : rd (rd_L3 R i) c = 1
      · by_cases e2 : rd (rd_L3 R c) i = 1
        · obtain ⟨r, hG, hE⟩ := add (.inr ⟨A1.out.2.1 e1, A2.out.2.1 e2⟩)
          refine ⟨r, hG, Ev.step (fun k => ?_) hE⟩
          simp only [orreryref21_Blocks.l2]
          rw [if_pos (by omega), if_neg e0, if_pos (by omega), if_pos (by omega), if_pos (by omega), if_pos (by omega), if_pos e1, if_pos (by omega), if_pos (by omega), if_pos e2, if_pos (by omega), if_pos (by omega), if_pos tr.1, if_pos (by rw [l2]; exact tr.2), if_pos (by rw [l1]; omega), HW.out]
        · obtain ⟨r, hG, hE⟩ := skip (fun h => h.elim e0 (fun h => e2 (A2.out.2.2 h.2)))
          refine ⟨r, hG, Ev.step (fun k => ?_) hE⟩
          simp only [orreryref21_Blocks.l2]
          rw [if_pos (by omega), if_neg e0, if_pos (by omega), if_pos (by omega), if_pos (by omega), if_pos (by omega), if_pos e1, if_pos (by omega), if_pos (by omega), if_neg e2, HW.out]
      · obtain ⟨r, hG, hE⟩ := skip (fun h => h.elim e0 (fun h => e1 (A1.out.2.2 h.1)))
        refine ⟨r, hG, Ev.step (fun k => ?_) hE⟩
        simp only [orreryref21_Blocks.l2]
        rw [if_pos (by omega), if_neg e0, if_pos (by omega), if_pos (by omega), if_pos (by omega), if_pos (by omega), if_neg e1, HW.out]
set_option maxHeartbeats 4000000 in
theorem RB_l1 (h64 : n ≤ 64) (hN : ∀ j, ∀ k ∈ rd_L3 N j, 0 ≤ k ∧ k < (n : Int)) (hR : Rl n R (Pm N n)) {th : List Int} (hb : Bit n th) (out : List S30) (left : Int)
    (H : ∀ i : Nat, i < n → ¬ isTh th (i : Int) → FreeE N (isTh th) (i : Int) → (∀ x : Int, 0 ≤ x → x < (i : Int) → ¬ isTh th x → ¬ FreeE N (isTh th) x) → ∃ r, G r ∧ Ev (fun k => orreryref21_Blocks.l2 k (n : Int) told R th out left (i : Int) (List.replicate n 0) ((0 : Nat) : Int) []) r)
    (hex : ∃ f : Int, 0 ≤ f ∧ f < (n : Int) ∧ ¬ isTh th f ∧ FreeE N (isTh th) f) :
    ∀ (d i : Nat), i + d = n → (∀ x : Int, 0 ≤ x → x < (i : Int) → ¬ isTh th x → ¬ FreeE N (isTh th) x) → ∃ r, G r ∧ Ev (fun k => orreryref21_Blocks.l1 k (n : Int) told R th out left (i : Int)) r := by
  intro d
  induction d with
  | zero =>
    intro i hi hx
    obtain ⟨f, f0, f1, f2, f3⟩ := hex
    exact absurd f3 (hx f f0 (by omega) f2)
  | succ d ih =>
    intro i hi hx
    have hw : wrap64 ((i : Int) + 1) = ((i + 1 : Nat) : Int) := by rw [w64 (by omega) (by omega)]; omega
    have go : (¬ isTh th (i : Int) → ¬ FreeE N (isTh th) (i : Int)) → ∃ r, G r ∧ Ev (fun k => orreryref21_Blocks.j2 k (n : Int) told R th out left (i : Int) true) r := fun hn => by
      obtain ⟨r, hG, hE⟩ := ih (i + 1) (by omega) (fun x x0 x1 h1 => by
        by_cases e : x = (i : Int)
        · rw [e] at h1 ⊢; exact hn h1
        · exact hx x x0 (by omega) h1)
      refine ⟨r, hG, Ev.step (fun k => ?_) hE⟩
      simp only [orreryref21_Blocks.j2]
      rw [if_pos trivial, hw]
    have hl := hb.1
    by_cases e : rd th i = 1
    · obtain ⟨r, hG, hE⟩ := go (fun h => absurd e h)
      refine ⟨r, hG, Ev.step (fun k => ?_) hE⟩
      simp only [orreryref21_Blocks.l1]
      rw [if_pos (by omega), if_pos (by omega), if_pos (by omega), if_pos e]
    · obtain ⟨b, hE1, hiff⟩ := Ev_free h64 hN hR hb i (by omega)
      have hj : ∃ r, G r ∧ Ev (fun k => orreryref21_Blocks.j2 k (n : Int) told R th out left (i : Int) (!b)) r := by
        cases b with
        | false => exact go (fun _ h => by have := hiff.2 h; cases this)
        | true =>
          obtain ⟨r, hG, hE⟩ := H i (by omega) e (hiff.1 rfl) hx
          refine ⟨r, hG, Ev.step (fun k => ?_) hE⟩
          simp only [orreryref21_Blocks.j2]
          rw [if_neg (by decide), if_pos (by omega), if_pos (by omega), Int.toNat_natCast]
          rfl
      obtain ⟨r, hG, hE⟩ := hj
      refine ⟨r, hG, Ev.step (f := fun k => (orreryref21_free.f k R th (i : Int)).bind fun t => orreryref21_Blocks.j2 k (n : Int) told R th out left (i : Int) (!t)) (fun k => ?_) (Ev.bind hE1 hE)⟩
      simp only [orreryref21_Blocks.l1]
      rw [if_pos (by omega), if_pos (by omega), if_pos (by omega), if_neg e]
end
theorem markL_count : ∀ (b s : List Int), b.Nodup → (∀ k ∈ b, 0 ≤ k ∧ k < (s.length : Int) ∧ rd s k = 0) → (markL s b).count 0 + b.length = s.count 0 := by
  intro b
  induction b with
  | nil => intro s _ _; rfl
  | cons k b ih =>
    intro s hn h
    have hk := h k List.mem_cons_self
    have hn' := List.nodup_cons.1 hn
    have h1 := ih (s.set k.toNat 1) hn'.2 (fun x hx => by
      have hx' := h x (List.mem_cons_of_mem _ hx)
      refine ⟨hx'.1, by rw [List.length_set]; exact hx'.2.1, ?_⟩
      rw [tj_rd s k x 1 hk.1 hk.2.1 hx'.1, if_neg (show ¬ k = x from fun e => hn'.1 (by rw [e]; exact hx))]
      exact hx'.2.2)
    have h2 := tj_count_set s k 1 hk.1 hk.2.1 hk.2.2 (by decide)
    show (markL (s.set k.toNat 1) b).count 0 + (b.length + 1) = _
    omega
section
variable {n : Nat} {N R : List (List Int)} {told : List Int}
set_option maxHeartbeats 4000000 in
theorem RB_l0 (h64 : n ≤ 64) (hN : ∀ j, ∀ k ∈ rd_L3 N j, 0 ≤ k ∧ k < (n : Int)) (hR : Rl n R (Pm N n)) (htl : told.length = n) (htr : ∀ x : Int, 0 ≤ x → x < (n : Int) → 0 ≤ rd told x ∧ rd told x < (n : Int)) (hti : ∀ i i' : Int, 0 ≤ i → i < i' → i' < (n : Int) → rd told i ≠ rd told i') :
    ∀ (c : Nat) (th : List Int) (out : List S30), Bit n th → th.count 0 = c → (∀ x y : Int, 0 ≤ x → x < (n : Int) → isTh th x → Rch N x y → isTh th y) → out.length + c ≤ n →
    ∃ r, (∃ rest, Ord N n told (isTh th) rest ∧ r = (out ++ rest, 0)) ∧ Ev (fun k => orreryref21_Blocks.l0 k (n : Int) told R th out (c : Int)) r := by
  intro c
  induction c using Nat.strongRecOn with
  | _ c ih =>
    intro th out hb hc hcl hol
    by_cases h0 : c = 0
    · subst h0
      refine ⟨(out, 0), ⟨[], .done (fun i i0 i1 => ?_), by rw [List.append_nil]⟩, Ev.step (f := fun _ => some (out, 0)) (fun k => ?_) (Ev.now _)⟩
      · rcases hb.2 i i0 i1 with h | h
        · exfalso
          have hm : (0 : Int) ∈ th := by rw [← h]; exact rd_mem th i i0 (by rw [hb.1]; exact i1)
          have := List.count_pos_iff.2 hm
          omega
        · exact h
      · simp only [orreryref21_Blocks.l0]
        rw [if_neg (by omega)]
    · have hz : ∃ x : Int, 0 ≤ x ∧ x < (n : Int) ∧ rd th x = 0 := by
        have hm : (0 : Int) ∈ th := List.count_pos_iff.1 (by omega)
        obtain ⟨j, hj, e⟩ := List.mem_iff_getElem.1 hm
        refine ⟨(j : Int), by omega, by rw [← hb.1]; omega, ?_⟩
        simp [rd, List.getD_eq_getElem?_getD, List.getElem?_eq_getElem hj, e]
      obtain ⟨x, x0, x1, x2⟩ := hz
      have hex := some_free hN (th := isTh th) x0 x1 (by unfold isTh; omega)
      have hcn : th.count 0 ≤ n := by rw [← hb.1]; exact List.count_le_length
      obtain ⟨r, hG, hE⟩ := RB_l1 (G := fun r => ∃ rest, Ord N n told (isTh th) rest ∧ r = (out ++ rest, 0)) (told := told) h64 hN hR hb out (c : Int) (fun i hi hni hfi hle => by
        have key := RB_l2 (G := fun r => ∃ rest, Ord N n told (isTh th) rest ∧ r = (out ++ rest, 0)) h64 hR htl htr th hb.1 out c (by omega) i hi (fun b hbs hbm hbl => by
          have hsw : ∀ y, y ∈ b ↔ Rch N (i : Int) y ∧ Rch N y (i : Int) := fun y => by
            rw [hbm]
            constructor
            · rintro ⟨_, _, h | h⟩
              · rw [h]; exact ⟨.refl _, .refl _⟩
              · exact ⟨Pm.sound _ _ _ h.1, Pm.sound _ _ _ h.2⟩
            · rintro ⟨h1, h2⟩
              have hr := Rch.range hN h1 ⟨by omega, by omega⟩
              refine ⟨hr.1, hr.2, ?_⟩
              by_cases e : y = (i : Int)
              · exact .inl e
              · exact .inr ⟨(Pm.iff hN (fun h => e h.symm)).2 h1, (Pm.iff hN e).2 h2⟩
          have hib : (i : Int) ∈ b := (hsw _).2 ⟨.refl _, .refl _⟩
          have hbr : ∀ y ∈ b, 0 ≤ y ∧ y < (n : Int) := fun y hy => by have := (hbm y).1 hy; exact ⟨this.1, this.2.1⟩
          have hnt : ∀ y ∈ b, ¬ isTh th y := fun y hy h => hni (hcl y i (hbr y hy).1 (hbr y hy).2 h ((hsw y).1 hy).2)
          have hbz : ∀ y ∈ b, rd th y = 0 := fun y hy => (hb.2 y (hbr y hy).1 (hbr y hy).2).resolve_right (hnt y hy)
          have hfr : ∀ y ∈ b, FreeE N (isTh th) y := fun y hy k hk => (hfi k (((hsw y).1 hy).1.trans hk)).imp id (fun h => h.trans ((hsw y).1 hy).1)
          have hmin : ∀ y ∈ b, (i : Int) ≤ y := fun y hy => by
            by_cases h : (i : Int) ≤ y
            · exact h
            · exact absurd (hfr y hy) (hle y (hbr y hy).1 (by omega) (hnt y hy))
          have hhd : b.head? = some (i : Int) := by
            cases hbc : b with
            | nil => rw [hbc] at hib; cases hib
            | cons z b' =>
              have h1 : z ≤ (i : Int) := head_le hbs (by rw [hbc]; rfl) _ hib
              have h2 := hmin z (by rw [hbc]; exact List.mem_cons_self)
              rw [show z = (i : Int) by omega]; rfl
          have hnx : IsNext N n (isTh th) b (i : Int) := ⟨⟨hbs, i, hib, hsw⟩, hhd, by omega, by omega, hni, hfi, fun j j0 j1 h1 h2 => by
            by_cases h : (i : Int) ≤ j
            · exact h
            · exact absurd h2 (hle j j0 (by omega) h1)⟩
          have hnd : b.Nodup := hbs.imp (fun h e => by omega)
          have hcount := markL_count b th hnd (fun k hk => ⟨(hbr k hk).1, by rw [hb.1]; exact (hbr k hk).2, hbz k hk⟩)
          have hb' : Bit n (markL th b) := ⟨by rw [markL_len]; exact hb.1, fun y y0 y1 => by
            rw [markL_at b th y (fun k hk => by rw [hb.1]; exact hbr k hk) y0]
            split
            · exact .inr rfl
            · exact hb.2 y y0 y1⟩
          have hth' : ∀ y : Int, 0 ≤ y → y < (n : Int) → (isTh (markL th b) y ↔ isTh th y ∨ y ∈ b) := fun y y0 y1 => by
            unfold isTh
            rw [markL_at b th y (fun k hk => by rw [hb.1]; exact hbr k hk) y0]
            by_cases e : y ∈ b
            · rw [if_pos e]; exact iff_of_true rfl (.inr e)
            · rw [if_neg e]; exact ⟨.inl, fun h => h.elim id (fun h => absurd h e)⟩
          have hbpos : 0 < b.length := List.length_pos_of_mem hib
          have hmr : ∀ k ∈ b.map (rd told), 0 ≤ k ∧ k < (n : Int) := fun k hk => by
            obtain ⟨y, hy, rfl⟩ := List.mem_map.1 hk
            exact htr y (hbr y hy).1 (hbr y hy).2
          have hva : Bit n (markL (List.replicate n 0) (b.map (rd told))) := ⟨by rw [markL_len, List.length_replicate], fun y y0 y1 => by
            rw [markL_at _ _ y (fun k hk => by rw [List.length_replicate]; exact hmr k hk) y0, tj_rep y0 y1]
            split
            · exact .inr rfl
            · exact .inl rfl⟩
          refine RB_l3 (G := fun r => ∃ rest, Ord N n told (isTh th) rest ∧ r = (out ++ rest, 0)) h64 (markL th b) out ((c : Int) - (b.length : Int)) _ b hva (by omega) (fun V hV hVm => ?_) n 0 [] (by omega) List.Pairwise.nil (fun x => by simp; intro h0 h1; omega) (Nat.le_refl _)
          have hVe : V = sortI (b.map (rd told)) := by
            refine rising_eq V _ hV (sortI_lt ?_) (fun y => ?_)
            · refine List.pairwise_map.2 (hbs.imp_of_mem (fun {p q} hp hq hpq => hti p q (hbr p hp).1 hpq (hbr q hq).2))
            · rw [mem_sortI, hVm]
              constructor
              · rintro ⟨y0, y1, h⟩
                rw [markL_at _ _ y (fun k hk => by rw [List.length_replicate]; exact hmr k hk) y0, tj_rep y0 y1] at h
                by_cases e : y ∈ b.map (rd told)
                · exact e
                · rw [if_neg e] at h; cases h
              · intro h
                have hr := hmr y h
                refine ⟨hr.1, hr.2, ?_⟩
                rw [markL_at _ _ y (fun k hk => by rw [List.length_replicate]; exact hmr k hk) hr.1, if_pos h]
          obtain ⟨r, ⟨rest, hO, hr⟩, hE⟩ := ih (c - b.length) (by omega) (markL th b) (out ++ [⟨b, V⟩]) hb' (by omega) (fun p q p0 p1 hp hpq => by
            have hq := Rch.range hN hpq ⟨p0, p1⟩
            rw [hth' q hq.1 hq.2]
            rcases (hth' p p0 p1).1 hp with h | h
            · exact .inl (hcl p q p0 p1 h hpq)
            · rcases hfi q (((hsw p).1 h).1.trans hpq) with h2 | h2
              · exact .inl h2
              · exact .inr ((hsw q).2 ⟨((hsw p).1 h).1.trans hpq, h2⟩)) (by rw [List.length_append]; simp; omega)
          refine ⟨r, ⟨⟨b, V⟩ :: rest, ?_, by rw [hr, List.append_assoc]; rfl⟩, ?_⟩
          · rw [hVe]
            exact .step hnx hth' hO
          · rw [show ((c - b.length : Nat) : Int) = (c : Int) - (b.length : Int) by omega] at hE
            exact hE) n 0 [] (by omega) List.Pairwise.nil (fun x => by simp; intro h0 h1; omega) (Nat.le_refl _)
        have e : (c : Int) - (([] : List Int).length : Int) = (c : Int) := by simp
        rw [e] at key
        exact key) hex n 0 (by omega) (fun x x0 x1 => by omega)
      refine ⟨r, hG, Ev.step (fun k => ?_) hE⟩
      simp only [orreryref21_Blocks.l0]
      rw [if_pos (by omega)]
      rfl
end
end Go.Proofs.Ytlaneafplmbcnaa.PO
