/- Texts of this claim, one behind the other (Nr Lo RowN). -/
import Derived.Test.YtoonahobmlnflaaVo7
import Derived.Test.YtoonahobmlnflaaVo16
import Derived.Test.YtoonahobmlnflaaRows
import Derived.ProofKit
import Derived.OpenShut
import Derived.ShutString
import Derived.ChangeOld
import Derived.SizedLaws
import Derived.ChangeSlices
import Derived.Deep.Slices
import Derived.ChangeSame
namespace Go.Proofs.Ytoonahobmlnflaa.PC
open Go.RowKit Go.Shelf Go.Proofs.YtoonahobmlnflaaW.PrintWords Go.Proofs.YtoonahobmlnflaaW.PrintLast Go.Proofs.YtoonahobmlnflaaW.PrintMore
set_option linter.unusedVariables false
set_option linter.unusedSimpArgs false
theorem rargs_ge (k : Nat) (x : Int) : orreryref14_Args.f (k + 9) x = some (argN x) := by
  unfold orreryref14_Args.f argN
  simp only [orreryref14_Args.j0, orreryref14_Args.j1, beq_iff_eq, decide_eq_true_eq, Bool.false_eq_true, if_false, if_true]
  repeat' split
  all_goals first | rfl | (exfalso; omega) | (congr 1; omega)
def bI (b : Bool) : Int := if b then 1 else 0
theorem rd_bI (s : List Bool) (j : Int) : rd (s.map bI) j = bI (rdOf false s j) := by
  unfold rd rdOf
  simp only [List.getD_eq_getElem?_getD, List.getElem?_map]
  cases s[j.toNat]? <;> rfl
theorem set_bI (s : List Bool) (j : Int) : (s.map bI).set j.toNat 1 = (setB s j).map bI := by
  unfold setB
  rw [List.map_set]
  rfl
theorem dn_rev (n : Nat) : dn n 0 = (List.range n).reverse := by
  unfold dn
  apply List.ext_getElem
  · simp
  · intro i h1 h2
    simp at h1 h2 ⊢
    try omega
theorem needed_l1 (nodes : List S37) (hok : OpsOK nodes) (hn : nodes.length ≤ 4000) : ∀ (m : Nat), m ≤ nodes.length → ∀ s : List Bool, s.length = nodes.length →
    orreryref14_Needed.l1 (2 * m + 20) nodes (s.map bI) ((m : Int) - 1) = some (((List.range m).reverse.foldl (needS nodes) s).map bI) := by
  intro m
  induction m with
  | zero => intro _ s hs; simp [orreryref14_Needed.l1]
  | succ m ih =>
    intro hm s hs
    have hw : wrap64 (((m + 1 : Nat) : Int) - 1 - 1) = (m : Int) - 1 := by unfold wrap64; omega
    have e : (((m + 1 : Nat) : Int) - 1) = (m : Int) := by omega
    have hops := hok (m : Int) (by omega) (by omega)
    rw [show 2 * (m + 1) + 20 = (2 * m + 20 + 1) + 1 by omega]
    rw [e] at hw ⊢
    rw [orreryref14_Needed.l1, if_pos (by omega), if_pos (by omega), if_pos (by omega), show 2 * m + 20 + 1 = (2 * m + 12) + 9 by omega, rargs_ge, Option.bind_some, List.length_map, if_pos (by omega), rd_bI]
    rw [show 2 * m + 12 + 9 = 2 * m + 20 + 1 by omega]
    rw [List.range_succ, List.reverse_append, List.reverse_singleton, List.singleton_append, List.foldl_cons]
    have hneed : needS nodes s m = if rdOf false s (m : Int) = true ∧ 0 < argN (rT nodes (m : Int)).f0 then (if 1 < argN (rT nodes (m : Int)).f0 then setB (setB s (rT nodes (m : Int)).f1) (rT nodes (m : Int)).f2 else setB s (rT nodes (m : Int)).f1) else s := rfl
    generalize argN (rT nodes (m : Int)).f0 = kN at hops hneed
    cases hb : rdOf false s (m : Int) with
    | false =>
      rw [if_neg (by simp [bI]), orreryref14_Needed.j2]
      simp only [Bool.false_eq_true, if_false]
      rw [if_pos (by omega), List.length_map, if_pos (by omega), rd_bI, hb, if_neg (by simp [bI]), hw, ih (by omega) s hs, hneed, hb]
      simp
    | true =>
      rw [if_pos (by simp [bI]), orreryref14_Needed.j2]
      by_cases k0 : 0 < kN
      · obtain ⟨a0, a1⟩ := hops.1 k0
        have hs1 : rdOf false (setB s (rT nodes (m : Int)).f1) (m : Int) = true := by
          unfold rdOf setB at *
          rw [List.getD_eq_getElem?_getD] at *
          by_cases hj : (rT nodes (m : Int)).f1.toNat = (m : Int).toNat
          · rw [hj, List.getElem?_set_self (by simp; omega)]; rfl
          · rw [List.getElem?_set_ne hj]; exact hb
        rw [if_pos (by simpa using k0), if_pos (by omega), if_pos (by omega), if_pos a0, List.length_map, if_pos (by omega), set_bI, Option.bind_some, if_pos (by omega), rd_bI, hs1, if_pos (by simp [bI])]
        by_cases k1 : 1 < kN
        · obtain ⟨b0, b1⟩ := hops.2 k1
          rw [if_pos k1, if_pos b0, if_pos (by omega), set_bI, hw, ih (by omega) _ (by rw [setB_len, setB_len, hs]), hneed, hb, if_pos ⟨rfl, k0⟩, if_pos k1]
        · rw [if_neg k1, hw, ih (by omega) _ (by rw [setB_len, hs]), hneed, hb, if_pos ⟨rfl, k0⟩, if_neg k1]
      · rw [if_neg (by simpa using k0), if_pos (by omega), List.length_map, if_pos (by omega), rd_bI, hb, if_pos (by simp [bI]), if_neg (by omega), hw, ih (by omega) s hs, hneed, hb, if_neg (by omega)]
theorem needed_l0 (nodes : List S37) (roots : List Int) (hok : OpsOK nodes) (hn : nodes.length ≤ 4000) (hr : ∀ r ∈ roots, 0 ≤ r ∧ r < (nodes.length : Int)) (hl : roots.length ≤ 9223372036854775807) : ∀ (m j : Nat), j + m = roots.length → ∀ s : List Bool, s.length = nodes.length →
    orreryref14_Needed.l0 (m + 1 + (2 * nodes.length + 20)) nodes (s.map bI) roots (roots.length : Int) (j : Int) = some ((dn nodes.length 0).foldl (needS nodes) ((roots.drop j).foldl setB s) |>.map bI) := by
  intro m
  induction m with
  | zero =>
    intro j hj s hs
    rw [show 0 + 1 + (2 * nodes.length + 20) = (2 * nodes.length + 20) + 1 by omega, orreryref14_Needed.l0, if_neg (by omega), show wrap64 ((nodes.length : Int) - 1) = (nodes.length : Int) - 1 by unfold wrap64; omega, needed_l1 nodes hok hn _ (Nat.le_refl _) s hs, List.drop_eq_nil_of_le (by omega), dn_rev]
    rfl
  | succ m ih =>
    intro j hj s hs
    have hlt : j < roots.length := by omega
    have er : rd roots (j : Int) = roots[j] := by simp [rd, List.getD_eq_getElem?_getD, List.getElem?_eq_getElem hlt]
    have hm := hr _ (List.getElem_mem hlt)
    rw [show m + 1 + 1 + (2 * nodes.length + 20) = (m + 1 + (2 * nodes.length + 20)) + 1 by omega, orreryref14_Needed.l0, if_pos (by omega), if_pos (by omega), if_pos (by omega), er, if_pos hm.1, List.length_map, if_pos (by omega), set_bI, show wrap64 ((j : Int) + 1) = ((j + 1 : Nat) : Int) by unfold wrap64; omega, ih (j + 1) (by omega) _ (by rw [setB_len, hs])]
    rw [List.drop_eq_getElem_cons hlt, List.foldl_cons]
theorem needR (nodes : List S37) (roots : List Int) (hok : OpsOK nodes) (hn : nodes.length ≤ 4000) (hr : ∀ r ∈ roots, 0 ≤ r ∧ r < (nodes.length : Int)) (hl : roots.length ≤ 9223372036854775807) : ∃ k, orreryref14_Needed.f k nodes roots = some ((needB nodes roots).map bI) := by
  refine ⟨roots.length + 1 + (2 * nodes.length + 20), ?_⟩
  unfold orreryref14_Needed.f
  rw [if_pos (by omega), if_pos (by simp; omega)]
  have h := needed_l0 nodes roots hok hn hr hl roots.length 0 (by omega) (List.replicate nodes.length false) (by simp)
  rw [List.map_replicate] at h
  rw [Int.toNat_natCast]
  rw [show (0 : Int) = ((0 : Nat) : Int) from rfl]
  refine h.trans ?_
  rw [List.drop_zero]
  rfl
theorem needed9 (nodes : List S37) (roots : List Int) (A : Option Addr) (c : Nat) (A1 : Option Addr) (c1 : Nat) (w : World) (hC : Kd.C k37 w A nodes.length nodes) (hc : nodes.length ≤ c) (hR : Kd.C (Kd.int .i64) w A1 roots.length roots) (hc1 : roots.length ≤ c1)
    (hroots : ∀ r ∈ roots, 0 ≤ r ∧ r < (nodes.length : Int)) (hok : OpsOK nodes) (hlen : nodes.length ≤ 4000) :
    Calls Try.prog 9 #[.slice A nodes.length c, .slice A1 roots.length c1] w fun e w' => ∃ v, e = .returned v ∧ Kd.R (Kd.int .i64) 3 w' w.heap.size (fun _ => True) v ((needB nodes roots).map bI) ∧ Below w.heap.size w w' := by
  obtain ⟨k, hk⟩ := needR nodes roots hok hlen hroots (Kd.C_max hR)
  exact orreryref14_Needed.calls k A c nodes A1 c1 roots _ w hC hc hR hc1 hk
end Go.Proofs.Ytoonahobmlnflaa.PC
namespace Go.Proofs.Ytoonahobmlnflaa.PC
open Go.RowKit Go.Shelf Go.Proofs.YtoonahobmlnflaaW.PrintWords Go.Proofs.YtoonahobmlnflaaW.PrintLast Go.Proofs.YtoonahobmlnflaaW.PrintMore
set_option linter.unusedVariables false
set_option linter.unusedSimpArgs false
def li10.T6 : Bool × List (List Nat × List Nat) := (true, [([], []), ([], []), ([0, 1], [0, 1]), ([2], [2]), ([], []), ([], []), ([4, 5], [4, 5]), ([6], [6]), ([3, 7], [3, 7])])
def li10.B6 : List Nat := [0, 0, 3, 7, 0, 0, 48, 112, 255]
theorem li10.tab6 : rtab .any (opsOf Try.f10 6) = li10.T6 := by kernel_rfl
theorem li10.bits6 : waitsOk li10.T6.2 li10.B6 = true := by kernel_rfl
def lo3.T15 : Bool × List (List Nat × List Nat) := (true, [([], []), ([], []), ([0, 1], [0, 1]), ([2], [2]), ([], []), ([], []), ([4, 5], [4, 5]), ([6], [6]), ([3, 7], [3, 7])])
def lo3.B15 : List Nat := [0, 0, 3, 7, 0, 0, 48, 112, 255]
theorem lo3.tab15 : rtab .any (opsOf Try.f3 15) = lo3.T15 := by kernel_rfl
theorem lo3.bits15 : waitsOk lo3.T15.2 lo3.B15 = true := by kernel_rfl
def lo3r21.T21 : Bool × List (List Nat × List Nat) := (true, [([], []), ([], []), ([0, 1], [0, 1]), ([2], [2]), ([], []), ([], []), ([], []), ([6], [6]), ([5, 7], [5, 7]), ([4, 8], [4, 8]), ([9], [9]), ([3, 10], [3, 10])])
def lo3r21.B21 : List Nat := [0, 0, 3, 7, 0, 0, 0, 64, 224, 496, 1008, 2047]
theorem lo3r21.tab21 : rtab .any (opsOf Try.f3 21) = lo3r21.T21 := by kernel_rfl
theorem lo3r21.bits21 : waitsOk lo3r21.T21.2 lo3r21.B21 = true := by kernel_rfl
theorem eqN_refl (x : S37) : eqN x x = true := eqN_iff.2 rfl
set_option maxHeartbeats 4000000 in
set_option maxRecDepth 100000 in
theorem like10 (l : List S37) (A : Option Addr) (c : Nat) (A2 : Option Addr) (c2 : Nat) (w : World) (hC : Kd.C k37 w A l.length l) (hc : l.length ≤ c) (hC2 : Kd.C k37 w A2 l.length l) (hc2 : l.length ≤ c2) (hl : l.length ≤ 4000) :
    Calls Try.prog 10 #[.slice A l.length c, .slice A2 l.length c2] w fun e w' => e = .returned (.bool true) ∧ Below w.heap.size w w' := by
  have HC := aq hC
  have HC2 := aq hC2
  have HB := aq (Below.refl w.heap.size w)
  clear hC hC2
  go_enter Try.func10, Try.ntmps10
  go_wp2
  go_loopw [13] (fun i wr => ∃ (j : Int), 0 ≤ j ∧ j ≤ (l.length : Int) ∧ i = .int .i64 j ∧ Aside0 (Below w.heap.size w wr)) (fun i _ => l.length - (intOf i).toNat)
  case atStart => exact ⟨0, Int.le_refl _, by omega, rfl, HB⟩
  case round =>
    obtain ⟨j, j0, j1, rfl, H⟩ := hrel
    clear HB
    by_cases hlt : j < (l.length : Int)
    · have HB2 := aq (below_drew1 H.out)
      obtain ⟨ad, eA, y0⟩ := node_cells HC.out HB2.out j j0 hlt
      obtain ⟨ad2, eA2, y1⟩ := node_cells HC2.out HB2.out j j0 hlt
      subst eA
      subst eA2
      generalize rT l j = x at y0 y1
      have HW := aq (show wrap64 (j + 1) = j + 1 by unfold wrap64; omega)
      have HLT := aq hlt
      have HJ := aq j0
      replace j0 := eq_true j0
      replace hlt := eq_true hlt
      clear H
      go_wp2
      refine start_ (n := 9) (S := fun w' => (∀ (jj : Nat) v, (nodeL x)[jj]? = some v → w'.cell? ((ad.add (j.toNat * 22)).add jj) = some v) ∧ (∀ (jj : Nat) v, (nodeL x)[jj]? = some v → w'.cell? ((ad2.add (j.toNat * 22)).add jj) = some v)) (ds := []) (msk 9 0) (by kernel_rfl) rfl rfl ⟨y0, y1⟩ (fun hHeld => ?_); refine with_tabW li10.tab6 li10.bits6 (fun HT_ HW_ => ?_)
      generalize wr.drew = w5 at HB2 hHeld ⊢
      refine pu_ 0 16 (msk 9 1) HT_.out ?_ ?_ ?_ ?_ ?_
      rotate_left
      · intro w'; go_simp; with_reducible rfl
      rotate_left
      · simp only [Act.put, sq, iw, jw]; rfl
      refine pu_ 1 17 (msk 9 3) HT_.out ?_ ?_ ?_ ?_ ?_
      rotate_left
      · intro w'; go_simp; with_reducible rfl
      rotate_left
      · simp only [Act.put, sq, iw, jw]; rfl
      refine pu_ 2 18 (msk 9 7) HT_.out ?_ ?_ ?_ ?_ ?_
      rotate_left
      · intro w'; go_simp; with_reducible rfl
      rotate_left
      · simp only [Act.put, sq, iw, jw]; rfl
      refine tk_ 3 19 (msk 9 15) HT_.out HW_.out hHeld ?_ ?_ ?_ ?_ ?_
      rotate_left
      · rintro w' ⟨s0, s1⟩; rw [exec_load37p (x := x) (hc := s0)]; all_goals rfl
      rotate_left
      · simp only [Act.put, sq, iw, jw]; rfl
      refine pu_ 4 20 (msk 9 31) HT_.out ?_ ?_ ?_ ?_ ?_
      rotate_left
      · intro w'; go_simp; with_reducible rfl
      rotate_left
      · simp only [Act.put, sq, iw, jw]; rfl
      refine pu_ 5 21 (msk 9 63) HT_.out ?_ ?_ ?_ ?_ ?_
      rotate_left
      · intro w'; go_simp; with_reducible rfl
      rotate_left
      · simp only [Act.put, sq, iw, jw]; rfl
      refine pu_ 6 22 (msk 9 127) HT_.out ?_ ?_ ?_ ?_ ?_
      rotate_left
      · intro w'; go_simp; with_reducible rfl
      rotate_left
      · simp only [Act.put, sq, iw, jw]; rfl
      refine tk_ 7 23 (msk 9 255) HT_.out HW_.out hHeld ?_ ?_ ?_ ?_ ?_
      rotate_left
      · rintro w' ⟨s0, s1⟩; rw [exec_load37p (x := x) (hc := s1)]; all_goals rfl
      rotate_left
      · simp only [Act.put, sq, iw, jw]; rfl
      refine pu_ 8 24 (msk 9 511) HT_.out ?_ ?_ ?_ ?_ ?_
      rotate_left
      · intro w'; rw [exec_neq37 (x := x) (y := x) (b := false) (hb := by rw [eqN_refl]; rfl)]; all_goals rfl
      rotate_left
      · simp only [Act.put, sq, iw, jw]; rfl
      refine done_ (done_of HT_.out (by kernel_rfl)) ?_
      go_wp2
      have hj := HJ.out
      have hl := HLT.out
      rw [HW.out]
      exact ⟨⟨j + 1, by omega, by omega, rfl, HB2⟩, by simp only [intOf]; omega⟩
    · obtain rfl : j = (l.length : Int) := by omega
      clear j0 j1 hlt
      go_wp2
      go_ret
      exact ⟨rfl, H.out⟩
theorem ints_l0 (l : List Int) (hl : l.length ≤ 4294967296) : ∀ (m j : Nat), j + m = l.length → orreryref17_Ints.l0 (m + 1) l l (l.length : Int) (j : Int) = some true := by
  intro m
  induction m with
  | zero => intro j hj; rw [orreryref17_Ints.l0, if_neg (by omega)]
  | succ m ih =>
    intro j hj
    rw [orreryref17_Ints.l0, if_pos (by omega), if_pos (by omega), if_pos (by omega), if_pos (by omega), if_pos rfl, show wrap64 ((j : Int) + 1) = ((j + 1 : Nat) : Int) by unfold wrap64; omega, ih (j + 1) (by omega)]
theorem ints11 (l : List Int) (A : Option Addr) (c : Nat) (A2 : Option Addr) (c2 : Nat) (w : World) (hC : Kd.C (Kd.int .i64) w A l.length l) (hc : l.length ≤ c) (hC2 : Kd.C (Kd.int .i64) w A2 l.length l) (hc2 : l.length ≤ c2) (hl : l.length ≤ 4294967296) :
    Calls Try.prog 11 #[.slice A l.length c, .slice A2 l.length c2] w fun e w' => e = .returned (.bool true) ∧ Below w.heap.size w w' :=
  (orreryref17_Ints.calls (l.length + 1) A c l A2 c2 l true w hC hc hC2 hc2 (by unfold orreryref17_Ints.f; rw [if_pos rfl]; exact ints_l0 l hl l.length 0 (by omega))).mono fun e w' h => ⟨h.1, drawn_below h.2⟩
theorem build_map {R : Rats} (hR : RatsOK R) {nodes : List S37} {roots : List Int} (hg : rightB nodes roots = true) (hI : ∀ x ∈ nodes, NodeI x) : ∃ f : Int → Int, (buildG R nodes roots).2 = roots.map f := by
  obtain ⟨L, T, r, tv, h⟩ := build_is hR hg hI
  refine ⟨fun q => pI (needB L r) (rd tv q), ?_⟩
  rw [h.build]
  exact (congrArg (List.map (pI (needB L r))) h.at_).trans List.map_map
theorem right_two {nodes : List S37} {roots : List Int} (h : rightB nodes roots = true) : rightB nodes (roots ++ roots) = true := by
  obtain ⟨h1, h2⟩ := right_split.1 h
  exact right_split.2 ⟨fun r hr => by rcases List.mem_append.1 hr with h | h <;> exact h1 r h, h2⟩
theorem nodup_ne {g : List S37} (h : g.Nodup) {i j : Int} (j0 : 0 ≤ j) (hji : j < i) (hi : i < (g.length : Int)) : eqN (rT g i) (rT g j) = false := by
  obtain ⟨m, rfl⟩ := Int.eq_ofNat_of_zero_le j0
  obtain ⟨k, rfl⟩ := Int.eq_ofNat_of_zero_le (show 0 ≤ i by omega)
  rw [rdT_nat (by omega), rdT_nat (by omega)]
  cases he : eqN g[k] g[m] with
  | false => rfl
  | true => exact absurd (eqN_iff.1 he).symm ((List.pairwise_iff_getElem.1 h) m k (by omega) (by omega) (by omega))
theorem rd_two {l : List Int} {i : Int} (h0 : 0 ≤ i) (h1 : i < (l.length : Int)) : rd (l ++ l) (i + (l.length : Int)) = rd (l ++ l) i := by
  unfold rd
  rw [List.getD_eq_getElem?_getD, List.getD_eq_getElem?_getD, show (i + (l.length : Int)).toNat = l.length + i.toNat by omega, List.getElem?_append_right (by omega), Nat.add_sub_cancel_left, List.getElem?_append_left (by omega)]
set_option maxHeartbeats 16000000 in
set_option maxRecDepth 100000 in
theorem law3 (nodes : List S37) (roots : List Int) (A : Option Addr) (c : Nat) (A1 : Option Addr) (c1 : Nat) (w : World) (hC : Kd.C k37 w A nodes.length nodes) (hc : nodes.length ≤ c) (hI : ∀ x ∈ nodes, NodeI x) (hR : Kd.C (Kd.int .i64) w A1 roots.length roots) (hc1 : roots.length ≤ c1) :
    Calls Try.prog 3 #[.slice A nodes.length c, .slice A1 roots.length c1] w fun e w' => e = .returned (.bool true) ∧ Below w.heap.size w w' := by
  have hm := Kd.C_max hC
  have hm1 := Kd.C_max hR
  have HB := aq (Below.refl w.heap.size w)
  have HK := aq (right7 nodes roots A c A1 c1 w hC hc hI hR hc1)
  by_cases hbig : rightB nodes roots = false ∨ 200 < nodes.length ∨ 50 < roots.length
  · clear hC hI hR
    rcases (show rightB nodes roots = false ∨ (rightB nodes roots = true ∧ (200 : Int) < (nodes.length : Int)) ∨ (rightB nodes roots = true ∧ ¬ (200 : Int) < (nodes.length : Int) ∧ (50 : Int) < (roots.length : Int)) by
      rcases hbig with h | h | h
      · exact .inl h
      · cases hg : rightB nodes roots with
        | false => exact .inl rfl
        | true => exact .inr (.inl ⟨rfl, by omega⟩)
      · cases hg : rightB nodes roots with
        | false => exact .inl rfl
        | true => by_cases h2 : (200 : Int) < (nodes.length : Int)
                  · exact .inr (.inl ⟨rfl, h2⟩)
                  · exact .inr (.inr ⟨rfl, h2, by omega⟩)) with hg | ⟨hg, h2⟩ | ⟨hg, h2, h3⟩
    all_goals
      rw [hg] at HK
      clear hbig hg
      go_enter Try.func3, Try.ntmps3
      go_wp2_with (first | (go_at_call 7; refine HK.out.mono ?_; rintro e w2 ⟨rfl, hd⟩; have B := aq hd; clear hd HK HB))
      go_ret
      exact ⟨rfl, B.out⟩
  · have hg : rightB nodes roots = true := by
      cases h : rightB nodes roots with
      | true => rfl
      | false => exact absurd (.inl h) hbig
    have hl2 : nodes.length ≤ 200 := Nat.le_of_not_lt fun h => hbig (.inr (.inl h))
    have hl5 : roots.length ≤ 50 := Nat.le_of_not_lt fun h => hbig (.inr (.inr h))
    rw [hg] at HK
    have hg2 := right_two hg
    obtain ⟨hN, hNl⟩ := build_neat ratP_ok hg2 hI
    obtain ⟨f, hf⟩ := build_map ratP_ok hg2 hI
    have hfix := neat_build hN
    have hrl : (buildG ratP nodes (roots ++ roots)).2.length = roots.length + roots.length := by rw [hf, List.length_map, List.length_append]
    have htwo : ∀ i : Int, 0 ≤ i → i < (roots.length : Int) → rd (buildG ratP nodes (roots ++ roots)).2 (i + (roots.length : Int)) = rd (buildG ratP nodes (roots ++ roots)).2 i := fun i i0 i1 => by
      rw [hf, List.map_append]
      have := rd_two (l := roots.map f) i0 (by rw [List.length_map]; exact i1)
      rw [List.length_map] at this
      exact this
    have HC := aq hC
    have HI := aq hI
    have HR := aq hR
    have HBU := aq (show ∀ (W : World), Below w.heap.size w W → ∀ (A2 : Option Addr) (c2 n2 : Nat), (roots ++ roots).length = n2 → Kd.C (Kd.int .i64) W A2 n2 (roots ++ roots) → n2 ≤ c2 → Calls Try.prog 8 #[.slice A nodes.length c, .slice A2 n2 c2] W (fun e w' => ∃ vo vr, e = .returned (.tuple #[vo, vr, .int .i64 0]) ∧ Kd.R k37 37 w' W.heap.size (fun _ => True) vo (buildG ratP nodes (roots ++ roots)).1 ∧ Kd.R (Kd.int .i64) 3 w' W.heap.size (fun _ => True) vr (buildG ratP nodes (roots ++ roots)).2 ∧ Below W.heap.size W w') from fun W h A2 c2 n2 hn hR2 hc2 => by subst hn; exact build8 nodes (roots ++ roots) A c A2 c2 W (Kd.C_below hC h) hc hI hR2 hc2 (by rw [List.length_append]; omega) hg2)
    generalize buildG ratP nodes (roots ++ roots) = br at hN hNl hf hfix hrl htwo HBU
    obtain ⟨g, r⟩ := br
    simp only at hN hNl hf hfix hrl htwo HBU
    have hg4 : g.length ≤ 200 := by omega
    have HR7 := aq (fun (W : World) (A2 : Option Addr) (c2 : Nat) (A3 : Option Addr) (c3 : Nat) (h1 : Kd.C k37 W A2 g.length g) (h2 : g.length ≤ c2) (h3 : Kd.C (Kd.int .i64) W A3 r.length r) (h4 : r.length ≤ c3) => right7 g r A2 c2 A3 c3 W h1 h2 hN.nodeI h3 h4)
    simp only [hN.right] at HR7
    have hgr := (right_split.1 hN.right)
    have HN9 := aq (fun (W : World) (A2 : Option Addr) (c2 : Nat) (A3 : Option Addr) (c3 : Nat) (h1 : Kd.C k37 W A2 g.length g) (h2 : g.length ≤ c2) (h3 : Kd.C (Kd.int .i64) W A3 r.length r) (h4 : r.length ≤ c3) => needed9 g r A2 c2 A3 c3 W h1 h2 h3 h4 hgr.1 (ahead_ops (graph_ahead hgr.2)) (by omega))
    have HB8 := aq (fun (W : World) (A2 : Option Addr) (c2 : Nat) (A3 : Option Addr) (c3 : Nat) (h1 : Kd.C k37 W A2 g.length g) (h2 : g.length ≤ c2) (h3 : Kd.C (Kd.int .i64) W A3 r.length r) (h4 : r.length ≤ c3) => build8 g r A2 c2 A3 c3 W h1 h2 hN.nodeI h3 h4 (by omega) hN.right)
    simp only [hfix] at HB8
    have HUSE := aq hN.used
    have HNO := aq hN.nodup
    have HTWO := aq htwo
    have HRL := aq hrl
    have HG4 := aq hg4
    have HL5 := aq hl5
    have h20 : ¬ (200 : Int) < (nodes.length : Int) := by omega
    have h50 : ¬ (50 : Int) < (roots.length : Int) := by omega
    clear hbig hg hl2 hl5 hg2 hN hNl hf hfix hrl htwo hC hI hR hg4 hgr
    go_enter Try.func3, Try.ntmps3
    go_upto_region 3 with (first | (go_at_call 7; refine HK.out.mono ?_; rintro e w2 ⟨rfl, hd⟩; have B := aq hd; clear hd HK HB))
    clear h20 h50
    go_upto_region 4 with (first | ((with_reducible refine gD (N := 31) rfl ?_); go_loud (refine Kd.R_lit (Kd.int .i64) (w0 := w) w.heap.size 3 rfl (N := 31) rfl (xs := []) (inner := []) (ok := fun _ => True) (okp := fun _ => False) (by first | (go_simp; done) | (go_simp; rfl)) (Reps.none _ _) (fun _ hk => hk.elim) trivial B.out B.out.size (by simp) ?_); intro v3 w3 ho hb hg_ hn_; have R0 := aq ho; have B3 := aq hb; clear ho hb hg_ hn_ B; have B := B3; clear B3) | ((with_reducible refine gate_builtin (b := .append) (xs := #[.tmp 31, .tmp 32]) rfl ?_); at_builtin; go_loud (refine Kd.R_append_row (Value.int .i64) (0 : Int) (w0 := w) w.heap.size rfl (.tmp 31) (.tmp 32) 23 3 (.int .i64 0) 8 rfl Try.underlying23 info3 rfl (by omega) _ [] roots A1 roots.length c1 (fun _ => True) rfl rfl (fun _ _ => trivial) R0.out (Kd.C_below HR.out B.out) B.out B.out.size (by have := HL5.out; simp only [List.length_nil]; omega) ?_); intro v4 w4 ho hb hg_ hn_; rw [List.nil_append] at ho; have R1 := aq ho; have B3 := aq hb; clear ho hb hg_ hn_ B R0; have B := B3; clear B3) | ((with_reducible refine gate_builtin (b := .append) (xs := #[.tmp 33, .tmp 34]) rfl ?_); at_builtin; go_loud (refine Kd.R_append_row (Value.int .i64) (0 : Int) (w0 := w) w.heap.size rfl (.tmp 33) (.tmp 34) 23 3 (.int .i64 0) 8 rfl Try.underlying23 info3 rfl (by omega) _ (roots) roots A1 roots.length c1 (fun _ => True) rfl rfl (fun _ _ => trivial) R1.out (Kd.C_below HR.out B.out) B.out B.out.size (by have := HL5.out; omega) ?_); intro v4 w4 ho hb hg_ hn_; have R2x := aq ho; have B3 := aq hb; clear ho hb hg_ hn_ B R1; have B := B3; clear B3; obtain ⟨A2, c2, e2, l2, r2⟩ := R_read R2x.out; subst e2; have R2 := aq r2; have L2 := aq l2; clear r2 l2) | (go_at_call 8; refine (HBU.out _ B.out A2 c2 (roots.length + roots.length) List.length_append (by rw [← List.length_append]; exact R2.out) (by rw [← List.length_append]; exact L2.out)).mono ?_; rintro e w6 ⟨vo, vr, rfl, ho, hr, hd⟩; clear R2x; obtain ⟨A5, c5, e5, l5, r5⟩ := R_read ho; subst e5; obtain ⟨A6, c6, e6, l6, r6⟩ := R_read hr; subst e6; have RG := aq r5; have LG := aq l5; have RR := aq r6; have LR := aq l6; have B6 := aq (bt_ B.out hd); clear ho hr hd r5 l5 r6 l6 B R2 L2 HBU; have B := B6; clear B6))
    have hq0 : (r.length : Int) = 2 * (roots.length : Int) := by have := HRL.out; omega
    have hq := eq_true hq0
    have hqb : ((r.length : Int) != 2 * (roots.length : Int)) = false := by rw [bne_eq_false_iff_eq]; exact hq0
    have hqc : ((r.length : Int) == 2 * (roots.length : Int)) = true := beq_iff_eq.2 hq0
    have HQ0 := aq hq0
    clear hq0
    go_upto_region 6 with (first | (go_at_call 7; refine (HR7.out _ _ _ _ _ RG.out LG.out RR.out LR.out).mono ?_; rintro e w7 ⟨rfl, hd⟩; have B7 := aq (bt_ B.out hd); have RG7 := aq (Kd.C_below RG.out hd); have RR7 := aq (Kd.C_below RR.out hd); clear hd B RG RR HR7; have B := B7; have RG := RG7; have RR := RR7; clear B7 RG7 RR7))
    clear hq hqb hqc
    go_wp2_with (first | (go_at_call 9; refine (HN9.out _ _ _ _ _ RG.out LG.out RR.out LR.out).mono ?_; rintro e w8 ⟨vu, rfl, hu, hd⟩; obtain ⟨A8, c8, e8, l8, r8⟩ := R_read hu; subst e8; have RU := aq r8; have B7 := aq (bt_ B.out hd); have RG7 := aq (Kd.C_below RG.out hd); have RR7 := aq (Kd.C_below RR.out hd); clear hd hu r8 l8 B RG RR HN9; have B := B7; have RG := RG7; have RR := RR7; clear B7 RG7 RR7))
    have C0 := aq (show ∀ W, Below w8.heap.size w8 W → Kd.C k37 W A5 g.length g ∧ Kd.C (Kd.int .i64) W A6 r.length r ∧ Kd.C (Kd.int .i64) W A8 ((needB g r).map bI).length ((needB g r).map bI) from fun W h => ⟨Kd.C_below RG.out h, Kd.C_below RR.out h, Kd.C_below RU.out h⟩)
    have HULN := aq (show ((needB g r).map bI).length = g.length by rw [List.length_map]; unfold needB; rw [fold_needS_len, fold_setB_len, List.length_replicate])
    have HB0 := aq (Below.refl w8.heap.size w8)
    clear RG RR RU HI HC
    go_loopw [61] (fun s61 wr => ∃ (i : Int), 0 ≤ i ∧ i ≤ (g.length : Int) ∧ s61 = .int .i64 i ∧ Aside0 (Below w8.heap.size w8 wr)) (fun s61 _ => g.length - (intOf s61).toNat)
    case atStart => exact ⟨0, Int.le_refl _, by omega, rfl, HB0⟩
    case round =>
      obtain ⟨i, i0, i1, rfl, H⟩ := hrel
      clear HB0
      by_cases hlt : i < (g.length : Int)
      · obtain ⟨adu, eU, hxu⟩ := Kd.at_int (C0.out _ H.out).2.2 i i0 (by rw [HULN.out]; exact hlt)
        subst eU
        have hone : rd ((needB g r).map bI) i = 1 := by
          rw [rd_bI]
          have := HUSE.out i.toNat (by omega)
          rw [show ((i.toNat : Nat) : Int) = i by omega] at this
          rw [this]
          rfl
        rw [hone] at hxu
        have HI0 := aq i0
        have HLT := aq hlt
        have HW := aq (show wrap64 (i + 1) = i + 1 by unfold wrap64; have := HG4.out; omega)
        have hu1 := eq_true (show i < ((needB g r).length : Int) by have := HULN.out; rw [List.length_map] at this; omega)
        replace i0 := eq_true i0
        replace hlt := eq_true hlt
        clear hone
        go_wp2
        clear hxu hu1
        go_loopw [10] (fun s10 wr2 => ∃ (j : Int), 0 ≤ j ∧ j ≤ i ∧ s10 = .int .i64 j ∧ Aside0 (Below w8.heap.size w8 wr2)) (fun s10 _ => i.toNat - (intOf s10).toNat)
        case atStart => exact ⟨0, Int.le_refl _, HI0.out, rfl, H⟩
        case round =>
          obtain ⟨j, j0, j1, rfl, H2⟩ := hrel
          by_cases hji : j < i
          · have HB2 := aq (below_drew1 H2.out)
            have hig := HLT.out
            have hi0 := HI0.out
            obtain ⟨ad, eA, y0⟩ := node_at (C0.out _ (Below.refl _ _)).1 HB2.out (Nat.le_refl _) i hi0 hig
            obtain ⟨ad2, eA2, y1⟩ := node_at (C0.out _ (Below.refl _ _)).1 HB2.out (Nat.le_refl _) j j0 (by omega)
            subst eA
            obtain rfl : ad = ad2 := Option.some.inj eA2
            clear eA2
            have hne : eqN (rT g i) (rT g j) = false := nodup_ne HNO.out j0 hji hig
            have HNE := aq hne
            clear hne
            generalize rT g i = x at y0 HNE
            generalize rT g j = y at y1 HNE
            have HJI := aq hji
            have HJ0 := aq j0
            have HWJ := aq (show wrap64 (j + 1) = j + 1 by unfold wrap64; have := HG4.out; omega)
            have hjg := eq_true (show j < (g.length : Int) by omega)
            replace j0 := eq_true j0
            replace hji := eq_true hji
            clear H2 hig hi0 j1
            go_wp2
            refine start_ (n := 9) (S := fun w' => (∀ (jj : Nat) v, (nodeL x)[jj]? = some v → w'.cell? ((ad.add (i.toNat * 22)).add jj) = some v) ∧ (∀ (jj : Nat) v, (nodeL y)[jj]? = some v → w'.cell? ((ad.add (j.toNat * 22)).add jj) = some v)) (ds := []) (msk 9 0) (by kernel_rfl) rfl rfl ⟨y0, y1⟩ (fun hHeld => ?_); refine with_tabW lo3.tab15 lo3.bits15 (fun HT_ HW_ => ?_)
            generalize wr.drew = w7 at HB2 hHeld ⊢
            refine pu_ 0 74 (msk 9 1) HT_.out ?_ ?_ ?_ ?_ ?_
            rotate_left
            · intro w'; go_simp; with_reducible rfl
            rotate_left
            · simp only [Act.put, sq, iw, jw]; rfl
            refine pu_ 1 75 (msk 9 3) HT_.out ?_ ?_ ?_ ?_ ?_
            rotate_left
            · intro w'; go_simp; with_reducible rfl
            rotate_left
            · simp only [Act.put, sq, iw, jw]; rfl
            refine pu_ 2 76 (msk 9 7) HT_.out ?_ ?_ ?_ ?_ ?_
            rotate_left
            · intro w'; go_simp; with_reducible rfl
            rotate_left
            · simp only [Act.put, sq, iw, jw]; rfl
            refine tk_ 3 77 (msk 9 15) HT_.out HW_.out hHeld ?_ ?_ ?_ ?_ ?_
            rotate_left
            · rintro w' ⟨s0, s1⟩; rw [exec_load37p (x := x) (hc := s0)]; all_goals rfl
            rotate_left
            · simp only [Act.put, sq, iw, jw]; rfl
            refine pu_ 4 78 (msk 9 31) HT_.out ?_ ?_ ?_ ?_ ?_
            rotate_left
            · intro w'; go_simp; with_reducible rfl
            rotate_left
            · simp only [Act.put, sq, iw, jw]; rfl
            refine pu_ 5 79 (msk 9 63) HT_.out ?_ ?_ ?_ ?_ ?_
            rotate_left
            · intro w'; go_simp; with_reducible rfl
            rotate_left
            · simp only [Act.put, sq, iw, jw]; rfl
            refine pu_ 6 80 (msk 9 127) HT_.out ?_ ?_ ?_ ?_ ?_
            rotate_left
            · intro w'; go_simp; with_reducible rfl
            rotate_left
            · simp only [Act.put, sq, iw, jw]; rfl
            refine tk_ 7 81 (msk 9 255) HT_.out HW_.out hHeld ?_ ?_ ?_ ?_ ?_
            rotate_left
            · rintro w' ⟨s0, s1⟩; rw [exec_load37p (x := y) (hc := s1)]; all_goals rfl
            rotate_left
            · simp only [Act.put, sq, iw, jw]; rfl
            refine pu_ 8 82 (msk 9 511) HT_.out ?_ ?_ ?_ ?_ ?_
            rotate_left
            · intro w'; rw [exec_eql37 (x := x) (y := y) (b := false) (hb := HNE.out)]; all_goals rfl
            rotate_left
            · simp only [Act.put, sq, iw, jw]; rfl
            refine done_ (done_of HT_.out (by kernel_rfl)) ?_
            go_wp2
            have a1 := HJI.out
            have a2 := HJ0.out
            rw [HWJ.out]
            exact ⟨⟨j + 1, by omega, by omega, rfl, HB2⟩, by simp only [intOf]; omega⟩
          · obtain rfl : j = i := by omega
            clear j0 j1
            go_wp2
            have a1 := HI0.out
            have a2 := HLT.out
            rw [HW.out]
            exact ⟨⟨j + 1, by omega, by omega, rfl, H2⟩, by simp only [intOf]; omega⟩
      · obtain rfl : i = (g.length : Int) := by omega
        clear i0 i1 hlt
        go_wp2
        go_loopw [86] (fun s86 wr => ∃ (i : Int), 0 ≤ i ∧ i ≤ (roots.length : Int) ∧ s86 = .int .i64 i ∧ Aside0 (Below w8.heap.size w8 wr)) (fun s86 _ => roots.length - (intOf s86).toNat)
        case atStart => exact ⟨0, Int.le_refl _, by omega, rfl, H⟩
        case round =>
          obtain ⟨i, i0, i1, rfl, H3⟩ := hrel
          clear H
          by_cases hlt : i < (roots.length : Int)
          · have HB2 := aq (below_drew1 H3.out)
            have hrl := HRL.out
            obtain ⟨ad, eA, y0⟩ := Kd.at_int (C0.out _ HB2.out).2.1 i i0 (by omega)
            obtain ⟨ad2, eA2, y1⟩ := Kd.at_int (C0.out _ HB2.out).2.1 (i + (roots.length : Int)) (by omega) (by omega)
            subst eA
            obtain rfl : ad = ad2 := Option.some.inj eA2
            clear eA2
            rw [HTWO.out i i0 hlt] at y1
            generalize rd r i = q at y0 y1
            have hl5 := HL5.out
            have HI0 := aq i0
            have HLT := aq hlt
            have HW := aq (show wrap64 (i + 1) = i + 1 by unfold wrap64; omega)
            have b1 := eq_true (show i < (r.length : Int) by omega)
            have b2 := eq_true (show i + (roots.length : Int) < (r.length : Int) by omega)
            have b3 := eq_true (show 0 ≤ i + (roots.length : Int) by omega)
            have b4 : IntKind.i64.wrap (i + (roots.length : Int)) = i + (roots.length : Int) := by rw [IntKind.wrap_i64]; omega
            have b5 : wrap64 (i + (roots.length : Int)) = i + (roots.length : Int) := by unfold wrap64; omega
            replace i0 := eq_true i0
            replace hlt := eq_true hlt
            clear H3 hl5 hrl i1
            go_wp2
            refine start_ (n := 12) (S := fun w' => w'.cell? (ad.add i.toNat) = some (.int .i64 q) ∧ w'.cell? (ad.add (i + (roots.length : Int)).toNat) = some (.int .i64 q)) (ds := []) (msk 12 0) (by kernel_rfl) rfl rfl ⟨y0, y1⟩ (fun hHeld => ?_); refine with_tabW lo3r21.tab21 lo3r21.bits21 (fun HT_ HW_ => ?_)
            generalize wr.drew = w7 at HB2 hHeld ⊢
            refine pu_ 0 89 (msk 12 1) HT_.out ?_ ?_ ?_ ?_ ?_
            rotate_left
            · intro w'; go_simp; with_reducible rfl
            rotate_left
            · simp only [Act.put, sq, iw, jw]; rfl
            refine pu_ 1 90 (msk 12 3) HT_.out ?_ ?_ ?_ ?_ ?_
            rotate_left
            · intro w'; go_simp; with_reducible rfl
            rotate_left
            · simp only [Act.put, sq, iw, jw]; rfl
            refine pu_ 2 91 (msk 12 7) HT_.out ?_ ?_ ?_ ?_ ?_
            rotate_left
            · intro w'; go_simp; with_reducible rfl
            rotate_left
            · simp only [Act.put, sq, iw, jw]; rfl
            refine tk_ 3 92 (msk 12 15) HT_.out HW_.out hHeld ?_ ?_ ?_ ?_ ?_
            rotate_left
            · rintro w' ⟨s0, s1⟩; go_simp; with_reducible rfl
            rotate_left
            · simp only [Act.put, sq, iw, jw]; rfl
            refine pu_ 4 93 (msk 12 31) HT_.out ?_ ?_ ?_ ?_ ?_
            rotate_left
            · intro w'; go_simp; with_reducible rfl
            rotate_left
            · simp only [Act.put, sq, iw, jw]; rfl
            refine pu_ 5 94 (msk 12 63) HT_.out ?_ ?_ ?_ ?_ ?_
            rotate_left
            · intro w'; go_simp; with_reducible rfl
            rotate_left
            · simp only [Act.put, sq, iw, jw]; rfl
            refine pu_ 6 95 (msk 12 127) HT_.out ?_ ?_ ?_ ?_ ?_
            rotate_left
            · intro w'; go_simp; with_reducible rfl
            rotate_left
            · simp only [Act.put, sq, iw, jw]; rfl
            refine pu_ 7 96 (msk 12 255) HT_.out ?_ ?_ ?_ ?_ ?_
            rotate_left
            · intro w'; go_simp; with_reducible rfl
            rotate_left
            · simp only [Act.put, sq, iw, jw]; rfl
            refine pu_ 8 97 (msk 12 511) HT_.out ?_ ?_ ?_ ?_ ?_
            rotate_left
            · intro w'; go_simp; with_reducible rfl
            rotate_left
            · simp only [Act.put, sq, iw, jw]; rfl
            refine pu_ 9 98 (msk 12 1023) HT_.out ?_ ?_ ?_ ?_ ?_
            rotate_left
            · intro w'; go_simp; with_reducible rfl
            rotate_left
            · simp only [Act.put, sq, iw, jw]; rfl
            refine tk_ 10 99 (msk 12 2047) HT_.out HW_.out hHeld ?_ ?_ ?_ ?_ ?_
            rotate_left
            · rintro w' ⟨s0, s1⟩; go_simp; with_reducible rfl
            rotate_left
            · simp only [Act.put, sq, iw, jw]; rfl
            refine pu_ 11 100 (msk 12 4095) HT_.out ?_ ?_ ?_ ?_ ?_
            rotate_left
            · intro w'; go_simp; with_reducible rfl
            rotate_left
            · simp only [Act.put, sq, iw, jw]; rfl
            refine done_ (done_of HT_.out (by kernel_rfl)) ?_
            go_wp2
            have a1 := HI0.out
            have a2 := HLT.out
            rw [HW.out]
            exact ⟨⟨i + 1, by omega, by omega, rfl, HB2⟩, by simp only [intOf]; omega⟩
          · obtain rfl : i = (roots.length : Int) := by omega
            clear i0 i1 hlt
            have hcg := (C0.out _ H3.out).1
            have hcr := (C0.out _ H3.out).2.1
            have HCG := aq hcg
            have HCR := aq hcr
            have B9 := aq (bt_ B.out H3.out)
            clear hcg hcr H3 B
            have B := B9
            clear B9
            go_wp2_with (first | (go_at_call 8; refine (HB8.out _ _ _ _ _ HCG.out LG.out HCR.out LR.out).mono ?_; rintro e w9 ⟨vo, vr, rfl, ho, hr, hd⟩; obtain ⟨A9, c9, e9, l9, r9⟩ := R_read ho; subst e9; obtain ⟨A10, c10, e10, l10, r10⟩ := R_read hr; subst e10; have RG2 := aq r9; have LG2 := aq l9; have RR2 := aq r10; have LR2 := aq l10; have B6 := aq (bt_ B.out hd); have HCG2 := aq (Kd.C_below HCG.out hd); have HCR2 := aq (Kd.C_below HCR.out hd); clear ho hr hd r9 l9 r10 l10 B HCG HCR HB8; have B := B6; have HCG := HCG2; have HCR := HCR2; clear B6 HCG2 HCR2) | (go_at_call 10; refine (like10 g _ _ _ _ _ HCG.out LG.out RG2.out LG2.out (by have := HG4.out; omega)).mono ?_; rintro e w10 ⟨rfl, hd⟩; have B6 := aq (bt_ B.out hd); have HCR2 := aq (Kd.C_below HCR.out hd); have RR3 := aq (Kd.C_below RR2.out hd); clear hd B HCG HCR RR2; have B := B6; have HCR := HCR2; have RR2 := RR3; clear B6 HCR2 RR3) | (go_at_call 11; refine (ints11 r _ _ _ _ _ HCR.out LR.out RR2.out LR2.out (by have := HRL.out; have := HL5.out; omega)).mono ?_; rintro e w11 ⟨rfl, hd⟩; have B6 := aq (bt_ B.out hd); clear hd B; have B := B6; clear B6))
            go_ret
            exact ⟨rfl, B.out⟩
end Go.Proofs.Ytoonahobmlnflaa.PC
namespace Go.Proofs.Ytoonahobmlnflaa.PC
open Go.ChangeShapes Go.WideShapes Go.ChangeAt Go.RowKit Go.Deep
open Go.Proofs.YtoonahobmlnflaaW.PrintWords Go.Proofs.YtoonahobmlnflaaW.PrintLast Go.Proofs.YtoonahobmlnflaaW.PrintMore
set_option linter.unusedVariables false
theorem ownK : ownKnob Try.prog.godebug = none := by kernel_rfl
theorem laidOutK : laidOutB Try.prog = true := by kernel_rfl
theorem I64_of_wf {n : Int} (h : (Lit.int .i64 n).wf = true) : I64 n := by
  unfold Lit.wf at h
  rw [Bool.and_eq_true] at h
  exact ⟨of_decide_eq_true h.1, of_decide_eq_true h.2⟩
section
variable {H : Type} {enc : TypeId × Value → H} {W : World} {base : Nat} {spare : Nat → Bool} {held : Bool}
theorem C_none {α : Type} (d : Kd α) (W : World) : Kd.C d W none 0 [] := ⟨rfl, by omega, fun h => absurd h (by omega)⟩
theorem cut {α : Type} (cs : List α) (a b : Nat) : cs.drop a = (cs.drop a).take b ++ cs.drop (a + b) := by
  rw [← List.drop_drop, List.take_append_drop]
theorem open_ints_C {a : Option Addr} {len cap : Nat} {d : DataW H} {ps : List MemPlace} (h : DataW.Trod enc Try.prog W base spare held 23 (.slice a len cap) d ps) :
    ∃ l : List Int, l.length = len ∧ len ≤ cap ∧ Kd.C (Kd.int .i64) W a len l ∧ (∀ x ∈ l, I64 x) := by
  obtain ⟨fuel, hf⟩ := h
  rcases open_ints Try.underlying23 Try.underlying3 (by kernel_rfl) hf with ⟨hcs, _⟩ | ⟨x, l, c, zs, hcs, _, hl, hm, hz, _, hcell, hwz⟩
  · simp [Value.cells] at hcs
    obtain ⟨rfl, rfl, rfl⟩ := hcs
    exact ⟨[], rfl, Nat.le_refl _, C_none _ _, fun x hx => by cases hx⟩
  · simp [Value.cells] at hcs
    obtain ⟨rfl, rfl, rfl⟩ := hcs
    have hlz : len ≤ zs.length := by
      rw [hz]
      split
      · exact hl
      · exact Nat.le_refl _
    have hm' : len ≤ 9223372036854775807 := by unfold maxLen at hm; omega
    refine ⟨zs.take len, by rw [List.length_take]; omega, hl, ⟨by rw [List.length_take]; omega, hm', fun _ => ⟨x, rfl, fun j p hj => ?_⟩⟩, fun y hy => I64_of_wf (hwz y (List.mem_of_mem_take hy))⟩
    refine ⟨[.int .i64 p], rfl, rfl, fun i u hu => ?_⟩
    have hi : i = 0 := by
      have := (List.getElem?_eq_some_iff.1 hu).1
      simpa using this
    subst hi
    have hjl : j < len := by
      have := (List.getElem?_eq_some_iff.1 hj).1
      rw [List.length_take] at this; omega
    have hju : u = .int .i64 p := by simpa using hu.symm
    subst hju
    show W.cell? (x.add (j * 1 + 0)) = _
    rw [Nat.mul_one, Nat.add_zero, hcell j (by omega)]
    rw [List.getElem?_take_of_lt hjl] at hj
    rw [List.getD_eq_getElem?_getD, hj]; rfl
theorem piece_int {t : TypeId} {n : Nat} {cs : List Value} {r : DataW H × List MemPlace} (ht : Try.prog.underlying t = some (.int .i64)) (h : DataW.trod enc Try.prog W base spare held n t cs = some r) : ∃ z : Int, I64 z ∧ cs = [.int .i64 z] := by
  obtain ⟨z, hz, _, hw⟩ := DataW.trod_int ht h
  exact ⟨z, I64_of_wf hw, hz⟩
theorem field_of {n : Nat} {fs : Array Field} {cs : List Value} {xs : List (DataW H × List MemPlace)} (hf : ∀ (i : Nat) (f : Field), fs[i]? = some f → DataW.trod enc Try.prog W base spare held n f.type ((cs.drop f.offset).take (Try.prog.cellsOf f.type)) = xs[i]?)
    (i t o z : Nat) (hi : (fs[i]?).map (fun f => (f.type, f.offset)) = some (t, o)) (hz : Try.prog.cellsOf t = z) (hl : i < xs.length) : DataW.trod enc Try.prog W base spare held n t ((cs.drop o).take z) = some (xs[i]'hl) := by
  obtain ⟨f, hf1, hf2⟩ := Option.map_eq_some_iff.1 hi
  simp only [Prod.mk.injEq] at hf2
  obtain ⟨rfl, rfl⟩ := hf2
  subst hz
  rw [hf i f hf1, List.getElem?_eq_getElem hl]
theorem trod_rat {n : Nat} {cs : List Value} {r : DataW H × List MemPlace} (h : DataW.trod enc Try.prog W base spare held n 30 cs = some r) : ∃ a b : Int, I64 a ∧ I64 b ∧ cs = [.int .i64 a, .int .i64 b] := by
  obtain ⟨ys, m, _, _, hl, hys, hf⟩ := DataW.trod_struct Try.underlying30 h
  have h0 := field_of hf 0 2 0 1 rfl (by kernel_rfl) (by rw [hys]; decide)
  have h1 := field_of hf 1 2 1 1 rfl (by kernel_rfl) (by rw [hys]; decide)
  obtain ⟨a, ia, ea⟩ := piece_int Try.underlying2 h0
  obtain ⟨b, ib, eb⟩ := piece_int Try.underlying2 h1
  refine ⟨a, b, ia, ib, ?_⟩
  have hl' : cs.length = 2 := hl.trans (by kernel_rfl)
  have e := cut cs 0 1
  rw [ea, cut cs (0 + 1) 1, eb, show List.drop (0 + 1 + 1) cs = [] from List.drop_eq_nil_of_le (by omega)] at e
  exact e
theorem trod_key {n : Nat} {cs : List Value} {r : DataW H × List MemPlace} (h : DataW.trod enc Try.prog W base spare held n 32 cs = some r) : ∃ a b : Int, I64 a ∧ I64 b ∧ cs = [.int .i64 a, .int .i64 b] := by
  obtain ⟨ys, m, _, _, hl, hys, hf⟩ := DataW.trod_struct Try.underlying32 h
  have h0 := field_of hf 0 3 0 1 rfl (by kernel_rfl) (by rw [hys]; decide)
  have h1 := field_of hf 1 3 1 1 rfl (by kernel_rfl) (by rw [hys]; decide)
  obtain ⟨a, ia, ea⟩ := piece_int Try.underlying3 h0
  obtain ⟨b, ib, eb⟩ := piece_int Try.underlying3 h1
  refine ⟨a, b, ia, ib, ?_⟩
  have hl' : cs.length = 2 := hl.trans (by kernel_rfl)
  have e := cut cs 0 1
  rw [ea, cut cs (0 + 1) 1, eb, show List.drop (0 + 1 + 1) cs = [] from List.drop_eq_nil_of_le (by omega)] at e
  exact e
theorem trod_dim {n : Nat} {cs : List Value} {r : DataW H × List MemPlace} (h : DataW.trod enc Try.prog W base spare held n 35 cs = some r) : ∃ e0 e1 e2 e3 e4 e5 e6 e7 e8 e9 e10 e11 e12 e13 : Int,
    (I64 e0 ∧ I64 e1 ∧ I64 e2 ∧ I64 e3 ∧ I64 e4 ∧ I64 e5 ∧ I64 e6 ∧ I64 e7 ∧ I64 e8 ∧ I64 e9 ∧ I64 e10 ∧ I64 e11 ∧ I64 e12 ∧ I64 e13) ∧
    cs = [.int .i64 e0, .int .i64 e1, .int .i64 e2, .int .i64 e3, .int .i64 e4, .int .i64 e5, .int .i64 e6, .int .i64 e7, .int .i64 e8, .int .i64 e9, .int .i64 e10, .int .i64 e11, .int .i64 e12, .int .i64 e13] := by
  obtain ⟨ys, m, _, _, hl, hys, hf⟩ := DataW.trod_struct Try.underlying35 h
  have hl' : cs.length = 14 := hl.trans (by kernel_rfl)
  have h0 := field_of hf 0 33 0 14 rfl (by kernel_rfl) (by rw [hys]; decide)
  rw [List.drop_zero, List.take_of_length_le (by omega)] at h0
  obtain ⟨zs, m', _, _, _, hzs, hz⟩ := DataW.trod_array Try.underlying33 h0
  rw [show Try.prog.cellsOf 30 = 2 by kernel_rfl] at hz
  have key : ∀ i, i < 7 → ∃ a b : Int, I64 a ∧ I64 b ∧ (cs.drop (i * 2)).take 2 = [.int .i64 a, .int .i64 b] := fun i hi => by
    have h1 := hz i hi
    rw [List.getElem?_eq_getElem (by rw [hzs]; exact hi)] at h1
    exact trod_rat h1
  obtain ⟨a0, b0, i0, j0, p0⟩ := key 0 (by omega)
  obtain ⟨a1, b1, i1, j1, p1⟩ := key 1 (by omega)
  obtain ⟨a2, b2, i2, j2, p2⟩ := key 2 (by omega)
  obtain ⟨a3, b3, i3, j3, p3⟩ := key 3 (by omega)
  obtain ⟨a4, b4, i4, j4, p4⟩ := key 4 (by omega)
  obtain ⟨a5, b5, i5, j5, p5⟩ := key 5 (by omega)
  obtain ⟨a6, b6, i6, j6, p6⟩ := key 6 (by omega)
  refine ⟨a0, b0, a1, b1, a2, b2, a3, b3, a4, b4, a5, b5, a6, b6, ⟨i0, j0, i1, j1, i2, j2, i3, j3, i4, j4, i5, j5, i6, j6⟩, ?_⟩
  have e := cut cs (0 * 2) 2
  rw [p0, show 0 * 2 + 2 = 1 * 2 by rfl, cut cs (1 * 2) 2, p1, show 1 * 2 + 2 = 2 * 2 by rfl, cut cs (2 * 2) 2, p2, show 2 * 2 + 2 = 3 * 2 by rfl, cut cs (3 * 2) 2, p3, show 3 * 2 + 2 = 4 * 2 by rfl, cut cs (4 * 2) 2, p4, show 4 * 2 + 2 = 5 * 2 by rfl, cut cs (5 * 2) 2, p5, show 5 * 2 + 2 = 6 * 2 by rfl, cut cs (6 * 2) 2, p6, show List.drop (6 * 2 + 2) cs = [] from List.drop_eq_nil_of_le (by omega)] at e
  exact e
theorem trod_node {n : Nat} {cs : List Value} {r : DataW H × List MemPlace} (h : DataW.trod enc Try.prog W base spare held n 37 cs = some r) : ∃ x : S37, cs = nodeL x ∧ NodeI x ∧ (I64 x.f0 ∧ I64 x.f1 ∧ I64 x.f2 ∧ I64 x.f3 ∧ I64 x.f5.f0 ∧ I64 x.f5.f1) := by
  obtain ⟨ys, m, _, _, hl, hys, hf⟩ := DataW.trod_struct Try.underlying37 h
  have hl' : cs.length = 22 := hl.trans (by kernel_rfl)
  have h0 := field_of hf 0 3 0 1 rfl (by kernel_rfl) (by rw [hys]; decide)
  have h1 := field_of hf 1 3 1 1 rfl (by kernel_rfl) (by rw [hys]; decide)
  have h2 := field_of hf 2 3 2 1 rfl (by kernel_rfl) (by rw [hys]; decide)
  have h3 := field_of hf 3 3 3 1 rfl (by kernel_rfl) (by rw [hys]; decide)
  have h4 := field_of hf 4 30 4 2 rfl (by kernel_rfl) (by rw [hys]; decide)
  have h5 := field_of hf 5 32 6 2 rfl (by kernel_rfl) (by rw [hys]; decide)
  have h6 := field_of hf 6 35 8 14 rfl (by kernel_rfl) (by rw [hys]; decide)
  obtain ⟨k, i0, p0⟩ := piece_int Try.underlying3 h0
  obtain ⟨a, i1, p1⟩ := piece_int Try.underlying3 h1
  obtain ⟨b, i2, p2⟩ := piece_int Try.underlying3 h2
  obtain ⟨c, i3, p3⟩ := piece_int Try.underlying3 h3
  obtain ⟨q0, q1, i4, j4, p4⟩ := trod_rat h4
  obtain ⟨v0, v1, i5, j5, p5⟩ := trod_key h5
  obtain ⟨e0, e1, e2, e3, e4, e5, e6, e7, e8, e9, e10, e11, e12, e13, ⟨w0, w1, w2, w3, w4, w5, w6, w7, w8, w9, w10, w11, w12, w13⟩, p6⟩ := trod_dim h6
  refine ⟨⟨k, a, b, c, ⟨q0, q1⟩, ⟨v0, v1⟩, ⟨⟨⟨e0, e1⟩, ⟨e2, e3⟩, ⟨e4, e5⟩, ⟨e6, e7⟩, ⟨e8, e9⟩, ⟨e10, e11⟩, ⟨e12, e13⟩⟩⟩⟩, ?_, ⟨i4, j4, w0, w1, w2, w3, w4, w5, w6, w7, w8, w9, w10, w11, w12, w13⟩, ⟨i0, i1, i2, i3, i5, j5⟩⟩
  have e := cut cs 0 1
  change _ = List.take 1 (List.drop 0 cs) ++ _ at e
  rw [p0, cut cs (0 + 1) 1] at e
  rw [p1, cut cs (0 + 1 + 1) 1] at e
  rw [p2, cut cs (0 + 1 + 1 + 1) 1] at e
  rw [p3, cut cs (0 + 1 + 1 + 1 + 1) 2] at e
  rw [p4, cut cs (0 + 1 + 1 + 1 + 1 + 2) 2] at e
  rw [p5, cut cs (0 + 1 + 1 + 1 + 1 + 2 + 2) 14] at e
  rw [p6, show List.drop (0 + 1 + 1 + 1 + 1 + 2 + 2 + 14) cs = [] from List.drop_eq_nil_of_le (by omega)] at e
  exact e
theorem open_nodes_C {a : Option Addr} {len cap : Nat} {d : DataW H} {ps : List MemPlace} (h : DataW.Trod enc Try.prog W base spare held 22 (.slice a len cap) d ps) :
    ∃ l : List S37, l.length = len ∧ len ≤ cap ∧ Kd.C k37 W a len l ∧ (∀ x ∈ l, NodeI x) ∧ (∀ x ∈ l, I64 x.f0 ∧ I64 x.f1 ∧ I64 x.f2 ∧ I64 x.f3 ∧ I64 x.f5.f0 ∧ I64 x.f5.f1) := by
  obtain ⟨fuel, hf⟩ := h
  have hC : Try.prog.cellsOf 37 = 22 := by kernel_rfl
  rcases open_slice Try.underlying22 hf with ⟨hcs, _⟩ | ⟨x, l, c, m, n, D, Pl, hcs, _, hl, hm, hmm, _, hel⟩
  · simp [Value.cells] at hcs
    obtain ⟨rfl, rfl, rfl⟩ := hcs
    exact ⟨[], rfl, Nat.le_refl _, C_none _ _, (fun x hx => by cases hx), fun x hx => by cases hx⟩
  · simp [Value.cells] at hcs
    obtain ⟨rfl, rfl, rfl⟩ := hcs
    have hlm : len ≤ m := by
      rw [hmm]
      split
      · exact hl
      · exact Nat.le_refl _
    have key : ∀ i, i < len → ∃ e : S37, (NodeI e ∧ (I64 e.f0 ∧ I64 e.f1 ∧ I64 e.f2 ∧ I64 e.f3 ∧ I64 e.f5.f0 ∧ I64 e.f5.f1)) ∧ ∀ j, j < 22 → W.cell? (x.add (i * 22 + j)) = (nodeL e)[j]? := by
      intro i hi
      obtain ⟨cs', hc, ht⟩ := hel i (by omega)
      rw [hC] at hc
      obtain ⟨_, hlen, hcell⟩ := World.cells?_some hc
      obtain ⟨e, he, h1, h2⟩ := trod_node ht
      refine ⟨e, ⟨h1, h2⟩, fun j hj => ?_⟩
      rw [← Go.Deep.add_add, hcell j hj, he]
    haveI : Inhabited S37 := ⟨z37⟩
    obtain ⟨f, hfk⟩ := choose_lt key
    have hm' : len ≤ 9223372036854775807 := by unfold maxLen at hm; omega
    refine ⟨(List.range len).map f, by simp, hl, ⟨by simp, hm', fun _ => ⟨x, rfl, fun j p hj => ?_⟩⟩, fun e he => ?_, fun e he => ?_⟩
    · obtain ⟨hjl, hp⟩ := List.getElem?_eq_some_iff.1 hj
      have hjl' : j < len := by simpa using hjl
      have hp' : f j = p := by simpa using hp
      subst hp'
      obtain ⟨_, c0⟩ := hfk j hjl'
      refine ⟨nodeL (f j), rfl, k37_mk W (f j), fun i u hu => ?_⟩
      show W.cell? (x.add (j * 22 + i)) = _
      have hi : i < 22 := by simpa using (List.getElem?_eq_some_iff.1 hu).1
      rw [c0 i hi]
      exact hu
    · obtain ⟨j, hj, rfl⟩ := List.mem_map.1 he
      exact (hfk j (List.mem_range.1 hj)).1.1
    · obtain ⟨j, hj, rfl⟩ := List.mem_map.1 he
      exact (hfk j (List.mem_range.1 hj)).1.2
end
end Go.Proofs.Ytoonahobmlnflaa.PC
