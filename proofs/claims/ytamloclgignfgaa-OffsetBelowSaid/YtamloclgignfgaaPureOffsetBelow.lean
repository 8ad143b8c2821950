/- OffsetBelow in plain Lean. -/
import Derived.Test.YtamloclgignfgaaPAx17
import Derived.Test.YtamloclgignfgaaRowA
import Derived.Test.YtamloclgignfgaaOb
import Derived.Test.YtamloclgignfgaaOv
namespace Go.Proofs.Ytamloclgignfgaa.PA
open Go.RowKit Go.Proofs.YtamloclgignfgaaW.PrintWords Go.Proofs.YtamloclgignfgaaW.PrintLast Go.Proofs.YtamloclgignfgaaW.PrintMore
set_option linter.unusedVariables false
set_option linter.unusedSimpArgs false

theorem tmod5 (y : Int) : 0 ≤ Int.tmod (wrap64 (Int.tmod y 5 + 5)) 5 ∧ Int.tmod (wrap64 (Int.tmod y 5 + 5)) 5 ≤ 4 := by
  have h1 : Int.tmod y 5 < 5 := Int.tmod_lt_of_pos y (by omega)
  have h2 : Int.tmod (-y) 5 < 5 := Int.tmod_lt_of_pos (-y) (by omega)
  rw [Int.neg_tmod] at h2
  rw [w64 (by omega) (by omega)]
  have h3 : Int.tmod (Int.tmod y 5 + 5) 5 < 5 := Int.tmod_lt_of_pos _ (by omega)
  have h4 : 0 ≤ Int.tmod (Int.tmod y 5 + 5) 5 := Int.tmod_nonneg _ (by omega)
  omega
theorem rd_app_lt {l : List Int} {x i : Int} (i0 : 0 ≤ i) (i1 : i < (l.length : Int)) : rd (l ++ [x]) i = rd l i := by
  unfold rd; rw [List.getD_eq_getElem?_getD, List.getD_eq_getElem?_getD, List.getElem?_append_left (by omega)]
theorem rd_app_eq {l : List Int} {x i : Int} (h : i = (l.length : Int)) : rd (l ++ [x]) i = x := by
  unfold rd; rw [List.getD_eq_getElem?_getD, List.getElem?_append_right (by omega), show i.toNat - l.length = 0 by omega]; rfl
def More4 (n : Nat) (m : List Int) : Prop := m.length = n ∧ ∀ i : Int, 0 ≤ i → i < (n : Int) → 0 ≤ rd m i ∧ rd m i ≤ 4
theorem Below_l0 (n : Nat) (hn : n ≤ 64) (told x3 c d : List Int) (er : Int) (t : List (List Int)) (z : List Int) (R : Bool) (h : ∀ more, More4 n more → Ev (fun k => orrerylaw20_OffsetBelow.l1 k told c d er t more z told (told.length : Int) 0) R) :
    ∀ (r i : Nat) (more : List Int), i + r = n → More4 i more → Ev (fun k => orrerylaw20_OffsetBelow.l0 k (n : Int) told x3 c d er t more z (i : Int)) R := by
  intro r
  induction r with
  | zero =>
    intro i more hi hm
    have hin : i = n := by omega
    subst hin
    refine Ev.step (fun k => ?_) (h more hm)
    simp only [orrerylaw20_OffsetBelow.l0]
    rw [if_neg (by omega)]
  | succ r ih =>
    intro i more hi hm
    have ap : ∀ x, 0 ≤ x ∧ x ≤ 4 → More4 (i + 1) (more ++ [x]) := fun x hx => ⟨by simp [hm.1], fun k k0 k1 => by
      by_cases e : k = (i : Int)
      · rw [rd_app_eq (by rw [hm.1]; exact e)]; exact hx
      · rw [rd_app_lt k0 (by rw [hm.1]; omega)]; exact hm.2 k k0 (by omega)⟩
    by_cases c1 : (i : Int) < (x3.length : Int)
    · refine Ev.step (fun k => ?_) (ih (i + 1) _ (by omega) (ap _ (tmod5 (rd x3 (i : Int)))))
      simp only [orrerylaw20_OffsetBelow.l0]
      rw [if_pos (by omega), if_pos c1, if_pos (by omega), if_pos (by rw [hm.1]; omega), w64 (n := (i : Int) + 1) (by omega) (by omega), show (i : Int) + 1 = ((i + 1 : Nat) : Int) by omega]
    · refine Ev.step (fun k => ?_) (ih (i + 1) _ (by omega) (ap 0 (by omega)))
      simp only [orrerylaw20_OffsetBelow.l0]
      rw [if_pos (by omega), if_neg c1, if_pos (by rw [hm.1]; omega), w64 (n := (i : Int) + 1) (by omega) (by omega), show (i : Int) + 1 = ((i + 1 : Nat) : Int) by omega]
theorem Below_l1 {n : Nat} {l : List S40} {told : List Int} (T : Whole n l told) (c d : List Int) (er : Int) (more : List Int) (hm : More4 n more) (R : Bool)
    (h : ∀ up, up.length = n → (∀ i : Int, 0 ≤ i → i < (n : Int) → 0 ≤ rd up i ∧ rd up i ≤ 104) → Ev (fun k => (orreryref20_Valid.f k (tabL n n l) told more up).bind fun t278 => (if t278 = true then (if er = 0 then (orrerylaw20_OffsetBelow.l2 k c d more up (c.length : Int) 0) else (some false)) else (some true))) R) :
    ∀ (r i : Nat) (up : List Int), i + r = n → up.length = n → (∀ i : Int, 0 ≤ i → i < (n : Int) → 0 ≤ rd up i ∧ rd up i ≤ 104) → Ev (fun k => orrerylaw20_OffsetBelow.l1 k told c d er (tabL n n l) more up told (n : Int) (i : Int)) R := by
  have hG := tabL_grid l T.hE
  have hn := T.hn
  have hlen := T.len
  intro r
  induction r with
  | zero =>
    intro i up hi hu hb
    refine Ev.step (fun k => ?_) (h up hu hb)
    simp only [orrerylaw20_OffsetBelow.l1]
    rw [if_neg (by omega)]
  | succ r ih =>
    intro i up hi hu hb
    obtain ⟨r0, r1, r2⟩ := T.rg (i : Int) (by omega) (by omega)
    have hrow := hG.row (i := (i : Int)) (by omega) (by omega)
    have hta := tab_at T.hE (show (0 : Int) ≤ (i : Int) by omega) (show (i : Int) < (n : Int) by omega) r0 r1
    have hw := wt_le T.hE (i : Int) (rd told (i : Int))
    have hmi := hm.2 (i : Int) (by omega) (by omega)
    refine Ev.step (fun k => ?_) (ih (i + 1) (up.set (rd told (i : Int)).toNat (rd more (i : Int) + wt l (i : Int) (rd told (i : Int)))) (by omega) (by simp [hu]) (fun j j0 j1 => by
      rw [rd_set up _ j _ r0 (by omega) j0]
      split
      · omega
      · exact hb j j0 j1))
    simp only [orrerylaw20_OffsetBelow.l1]
    rw [if_pos (by omega), if_pos (by omega), if_pos (by omega), if_pos (by rw [hm.1]; omega), if_pos (by rw [hG.1]; omega), if_pos r0, if_pos (by rw [hrow]; omega), if_pos (by omega), hta, w64 (n := rd more (i : Int) + wt l (i : Int) (rd told (i : Int))) (by omega) (by omega), w64 (by omega) (by omega), show (i : Int) + 1 = ((i + 1 : Nat) : Int) by omega]
theorem Below_l2 (n : Nat) (hn : n ≤ 64) (c d more up : List Int) (hc : c.length = n) (hd : d.length = n) (hm : more.length = n) (hu : up.length = n) (h1 : ∀ i : Int, 0 ≤ i → i < (n : Int) → rd c i ≤ rd more i ∧ rd d i ≤ rd up i) :
    ∀ (r i : Nat), i + r = n → Ev (fun k => orrerylaw20_OffsetBelow.l2 k c d more up (n : Int) (i : Int)) true := by
  intro r
  induction r with
  | zero =>
    intro i hi
    refine Ev.step (f := fun _ => some true) (fun k => ?_) (Ev.now _)
    simp only [orrerylaw20_OffsetBelow.l2]
    rw [if_neg (by omega)]
  | succ r ih =>
    intro i hi
    have h2 := h1 (i : Int) (by omega) (by omega)
    refine Ev.step (fun k => ?_) (ih (i + 1) (by omega))
    simp only [orrerylaw20_OffsetBelow.l2]
    rw [if_pos (by omega), if_pos (by omega), if_pos (by omega), if_pos (by omega), if_neg (by omega), if_pos (by omega), if_pos (by omega), if_neg (by omega), w64 (by omega) (by omega), show (i : Int) + 1 = ((i + 1 : Nat) : Int) by omega]
theorem OffsetBelow_pure (a0 : Int) (l1 : List S40) (l2 l3 : List Int) (h0 : I64 a0) (h1 : (∀ e ∈ l1, I64 e.f0 ∧ I64 e.f1 ∧ I64 e.f2) ∧ l1.length ≤ 9223372036854775807) (h2 : (∀ x ∈ l2, I64 x) ∧ l2.length ≤ 9223372036854775807) (h3 : (∀ x ∈ l3, I64 x) ∧ l3.length ≤ 9223372036854775807) :
    ∃ k, orrerylaw20_OffsetBelow.f k a0 l1 l2 l3 = some true := by
  refine Ev.rounds (g := fun k => orrerylaw20_OffsetBelow.f k a0 l1 l2 l3) ?_
  unfold orrerylaw20_OffsetBelow.f
  have hT := Ev_Told a0 l1 l2 h1.2
  by_cases hb : toldB a0 l1 l2 = true
  · obtain ⟨o, ho, _, hO⟩ := Ev_LeastOff hb
    rw [hb] at hT
    refine Ev.bind hT ?_
    simp only [if_true]
    refine Ev.bind hO (Ev.bind (Ev_Table (toldB_right hb)) ?_)
    obtain ⟨ha, T⟩ := toldB_whole hb
    have hn := T.hn
    have hlen := T.len
    have rest : ∀ (c d : List Int) (er : Int), (∀ more up, More4 a0.toNat more → up.length = a0.toNat → (∀ i : Int, 0 ≤ i → i < (a0.toNat : Int) → RowV (wt l1) a0.toNat l2 more up i) → Ev (fun k => if er = 0 then orrerylaw20_OffsetBelow.l2 k c d more up (c.length : Int) 0 else some false) true) →
        Ev (fun k => orrerylaw20_OffsetBelow.j0 k a0 l2 l3 c d er (tabL a0.toNat a0.toNat l1) false) true := fun c d er h => by
      have h4 := Below_l0 a0.toNat hn l2 l3 c d er (tabL a0.toNat a0.toNat l1) (List.replicate a0.toNat 0) true (fun more hm => by
        rw [hlen]
        refine Below_l1 T c d er more hm true (fun up hu hb => ?_) a0.toNat 0 (List.replicate a0.toNat 0) (by omega) (by simp) (fun i a b => by rw [rd_rep a b]; omega)
        obtain ⟨b, hb1, hb2⟩ := Ev_Valid T (c := more) (d := up) ⟨hm.1, fun i a b => by have := hm.2 i a b; omega⟩ ⟨hu, fun i a b' => by have := hb i a b'; omega⟩
        refine Ev.bind hb1 ?_
        cases b with
        | false => simp only [Bool.false_eq_true, if_false]; exact Ev.now _
        | true => simp only [if_true]; exact h more up hm hu (hb2.1 rfl)) a0.toNat 0 [] (by omega) ⟨rfl, fun i a b => by omega⟩
      rw [Int.toNat_of_nonneg ha] at h4
      refine Ev.step (fun k => ?_) h4
      simp only [orrerylaw20_OffsetBelow.j0]
      rw [if_neg (by simp), if_pos ha, if_pos (by omega)]; rfl
    rcases o with _ | ⟨c, d⟩
    · simp only [outO, show ¬ ((2 : Int) = 0) by omega, if_false]
      refine rest _ _ _ (fun more up hm hu hV => ?_)
      exfalso
      obtain ⟨i, a, b, w⟩ := ho _ _ (RowV.fit T hV)
      have := hm.2 i a b
      omega
    · simp only [outO, if_true]
      obtain ⟨hc, hd, hV⟩ := ho.small T
      obtain ⟨b, hb1, hb2⟩ := Ev_Valid T hc hd
      rw [hb2.2 hV] at hb1
      refine Ev.bind hb1 ?_
      refine rest _ _ _ (fun more up hm hu hV' => ?_)
      have hf := RowV.fit T hV'
      simp only [if_true]
      rw [hc.1]
      have hcm := ho.2.2.2.2 _ _ hf
      refine Below_l2 a0.toNat hn c d more up hc.1 hd.1 hm.1 hu (fun i a b => ⟨hcm i a b, ?_⟩) a0.toNat 0 (by omega)
      exact hf.d_le ho.2.2.1 hcm i a b (hV' i a b).2.1
  · have hbf : toldB a0 l1 l2 = false := by simpa using hb
    rw [hbf] at hT
    refine Ev.bind hT ?_
    simp
    exact Ev.now _
end Go.Proofs.Ytamloclgignfgaa.PA
