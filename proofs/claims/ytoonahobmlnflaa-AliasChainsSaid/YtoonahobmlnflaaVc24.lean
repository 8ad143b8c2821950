/- Texts of this claim, one behind the other. -/
import Derived.Test.YtoonahobmlnflaaVc23
set_option linter.unusedVariables false
set_option linter.unusedSimpArgs false
set_option maxRecDepth 100000
set_option maxHeartbeats 16000000
namespace Go.Proofs.Ytoonahobmlnflaa.PC
open Go.RowKit Go.Shelf A B C
section
variable (sg : List Int) (tu : List Bool)
def sgK (i : Nat) : Int := if rd sg (i : Int) < 0 then 3 else 4
def sgS (i : Nat) : Int := if rd sg (i : Int) < 0 then -1 else 1
def sig : Nat → Int
  | 0 => 1
  | i + 1 => sig i * sgS sg i
def tuB (i : Nat) : Bool := zJ false tu (i : Int)
def chX (i : Nat) : S37 := wF (sgK sg i) (if tuB tu i = true then 3 * (i : Int) + 1 else 3 * (i : Int)) (if tuB tu i = true then 3 * (i : Int) else 3 * (i : Int) + 1) 0
def chN : Nat → List S37
  | 0 => []
  | i + 1 => ((chN i ++ [xU ⟨(i : Int), 0⟩]) ++ [xU ⟨(i : Int) + 1, 0⟩]) ++ [chX sg tu i]
def chE (n : Nat) : List Int := (List.range n).map fun (j : Nat) => 3 * (j : Int) + 2
def chS (n : Nat) : List Int := (List.range (n + 1)).map (sig sg)
def vV : S59 := ⟨⟨#[118]⟩, z35⟩
def chF (n : Nat) : rG := ⟨List.replicate (n + 1) vV, chN sg tu n, chE n, []⟩
end
section
variable {sg : List Int} {tu : List Bool}
theorem sY (i : Nat) : (sgK sg i = 3 ∧ sgS sg i = -1) ∨ (sgK sg i = 4 ∧ sgS sg i = 1) := by
  unfold sgK sgS
  by_cases h : rd sg (i : Int) < 0
  · rw [if_pos h, if_pos h]; exact .inl ⟨rfl, rfl⟩
  · rw [if_neg h, if_neg h]; exact .inr ⟨rfl, rfl⟩
theorem oL : ∀ i, sig sg i = 1 ∨ sig sg i = -1
  | 0 => .inl rfl
  | i + 1 => by
    show sig sg i * sgS sg i = 1 ∨ sig sg i * sgS sg i = -1
    rcases oL i with h | h <;> rcases sY (sg := sg) i with ⟨_, h2⟩ | ⟨_, h2⟩ <;> rw [h, h2] <;> decide
theorem oC : ∀ n, (chN sg tu n).length = 3 * n
  | 0 => rfl
  | n + 1 => by
    unfold chN
    rw [List.length_append, List.length_append, List.length_append, oC n]
    simp only [List.length_singleton]; omega
theorem chN_at : ∀ n i : Nat, i < n → rT (chN sg tu n) (3 * (i : Int)) = xU ⟨(i : Int), 0⟩ ∧ rT (chN sg tu n) (3 * (i : Int) + 1) = xU ⟨(i : Int) + 1, 0⟩ ∧ rT (chN sg tu n) (3 * (i : Int) + 2) = chX sg tu i
  | 0, i, h => by omega
  | n + 1, i, h => by
    have hl := oC (sg := sg) (tu := tu) n
    unfold chN
    by_cases e : i = n
    · subst e
      have l1 : ((chN sg tu i ++ [xU ⟨(i : Int), 0⟩]).length : Int) = 3 * (i : Int) + 1 := by rw [List.length_append, hl]; simp
      have l2 : (((chN sg tu i ++ [xU ⟨(i : Int), 0⟩]) ++ [xU ⟨(i : Int) + 1, 0⟩]).length : Int) = 3 * (i : Int) + 2 := by rw [List.length_append, List.length_append, hl]; simp; omega
      refine ⟨?_, ?_, ?_⟩
      · rw [tI (by omega) (by omega), tI (by omega) (by omega)]
        have := qU (L := chN sg tu i) (x := xU ⟨(i : Int), 0⟩)
        rw [hl] at this
        rw [show 3 * (i : Int) = ((3 * i : Nat) : Int) by omega]; exact this
      · rw [tI (by omega) (by omega), ← l1, qU]
      · rw [← l2, qU]
    · obtain ⟨a, b, c⟩ := chN_at n i (by omega)
      have l1 : ((chN sg tu n ++ [xU ⟨(n : Int), 0⟩]).length : Int) = 3 * (n : Int) + 1 := by rw [List.length_append, hl]; simp
      have l2 : (((chN sg tu n ++ [xU ⟨(n : Int), 0⟩]) ++ [xU ⟨(n : Int) + 1, 0⟩]).length : Int) = 3 * (n : Int) + 2 := by rw [List.length_append, List.length_append, hl]; simp; omega
      have k : ∀ c : Int, 0 ≤ c → c < 3 * (n : Int) → rT (((chN sg tu n ++ [xU ⟨(n : Int), 0⟩]) ++ [xU ⟨(n : Int) + 1, 0⟩]) ++ [chX sg tu n]) c = rT (chN sg tu n) c := fun c c0 c1 => by
        rw [tI c0 (by omega), tI c0 (by omega), tI c0 (by omega)]
      rw [k _ (by omega) (by omega), k _ (by omega) (by omega), k _ (by omega) (by omega)]
      exact ⟨a, b, c⟩
theorem chX_ops (i : Nat) : (chX sg tu i).f0 = sgK sg i ∧ ((chX sg tu i).f1 = 3 * (i : Int) ∧ (chX sg tu i).f2 = 3 * (i : Int) + 1 ∨ (chX sg tu i).f1 = 3 * (i : Int) + 1 ∧ (chX sg tu i).f2 = 3 * (i : Int)) := by
  have hk : zI (sgK sg i) = 2 := by rcases sY (sg := sg) i with ⟨e, _⟩ | ⟨e, _⟩ <;> rw [e] <;> decide
  refine ⟨rfl, ?_⟩
  have e1 : (chX sg tu i).f1 = if tuB tu i = true then 3 * (i : Int) + 1 else 3 * (i : Int) := rfl
  have e2 : (chX sg tu i).f2 = if tuB tu i = true then 3 * (i : Int) else 3 * (i : Int) + 1 := if_pos hk
  rw [e1, e2]
  by_cases h : tuB tu i = true
  · rw [if_pos h, if_pos h]; exact .inr ⟨rfl, rfl⟩
  · rw [if_neg h, if_neg h]; exact .inl ⟨rfl, rfl⟩
theorem chX_okN (i : Nat) : okN (3 * (i : Int) + 2) (chX sg tu i) = true := by
  obtain ⟨h0, h12⟩ := chX_ops (sg := sg) (tu := tu) i
  unfold okN
  rcases sY (sg := sg) i with ⟨e, _⟩ | ⟨e, _⟩ <;> rw [h0, e] <;> simp [show zI 3 = 2 by decide, show zI 4 = 2 by decide] <;> rcases h12 with ⟨a, b⟩ | ⟨a, b⟩ <;> rw [a, b] <;> omega
theorem chN_mem : ∀ (n : Nat) (x : S37), x ∈ chN sg tu n → (∃ j : Int, 0 ≤ j ∧ j ≤ (n : Int) ∧ x = xU ⟨j, 0⟩) ∨ ∃ i : Nat, x = chX sg tu i
  | 0, x, h => by cases h
  | n + 1, x, h => by
    unfold chN at h
    simp only [List.mem_append, List.mem_singleton] at h
    rcases h with ((h | h) | h) | h
    · rcases chN_mem n x h with ⟨j, a, b, c⟩ | h
      · exact .inl ⟨j, a, by omega, c⟩
      · exact .inr h
    · exact .inl ⟨_, by omega, by omega, h⟩
    · exact .inl ⟨_, by omega, by omega, h⟩
    · exact .inr ⟨n, h⟩
theorem chN_I (n : Nat) : ∀ x ∈ chN sg tu n, wM x := fun x hx => by
  rcases chN_mem n x hx with ⟨j, _, _, rfl⟩ | ⟨i, rfl⟩
  · exact NodeI_V2 _
  · obtain ⟨z, o⟩ := I64_z
    exact ⟨z, z, z, z, z, z, z, z, z, z, z, z, z, z, z, z⟩
theorem chE_mem {n : Nat} {e : Int} (h : e ∈ chE n) : ∃ j : Nat, j < n ∧ e = 3 * (j : Int) + 2 := by
  obtain ⟨j, hj, rfl⟩ := List.mem_map.1 h
  exact ⟨j, List.mem_range.1 hj, rfl⟩
theorem chF_ok (n : Nat) (hn : n ≤ 30) : FlatOK (chF sg tu n) := by
  have hl := oC (sg := sg) (tu := tu) n
  refine ⟨wK.2 ⟨fun e he => ?_, graphB_mk (by show (chN sg tu n).length ≤ 4000; omega) fun i hi => ?_⟩, chN_I n, fun x hx h2 => ?_, (fun s hs => by cases hs), (by show (chN sg tu n).length ≤ 1900; omega), ?_, ?_, Nat.zero_le _⟩
  · obtain ⟨j, hj, rfl⟩ := chE_mem he
    show 0 ≤ _ ∧ _ < ((chN sg tu n).length : Int)
    omega
  · have hi' : i < (chN sg tu n).length := hi
    show okN (i : Int) (rT (chN sg tu n) (i : Int)) = true
    obtain ⟨a, b, c⟩ := chN_at (sg := sg) (tu := tu) n (i / 3) (by omega)
    have h3 : i = 3 * (i / 3) ∨ i = 3 * (i / 3) + 1 ∨ i = 3 * (i / 3) + 2 := by omega
    generalize i / 3 = j at a b c h3
    rcases h3 with h | h | h
    · rw [show (i : Int) = 3 * (j : Int) by omega, a]; exact okN_V2 (by omega) (by omega)
    · rw [show (i : Int) = 3 * (j : Int) + 1 by omega, b]; exact okN_V2 (by omega) (by omega)
    · rw [show (i : Int) = 3 * (j : Int) + 2 by omega, c]; exact chX_okN j
  · show x.f5.f0 < ((List.replicate (n + 1) vV).length : Int)
    rw [List.length_replicate]
    rcases chN_mem n x hx with ⟨j, j0, j1, rfl⟩ | ⟨i, rfl⟩
    · show j < ((n + 1 : Nat) : Int); omega
    · rw [(chX_ops i).1] at h2
      rcases sY (sg := sg) i with ⟨e, _⟩ | ⟨e, _⟩ <;> omega
  · show (chE n).length ≤ _
    unfold chE; rw [List.length_map, List.length_range]; omega
  · show (List.replicate (n + 1) vV).length ≤ 100
    rw [List.length_replicate]; omega
theorem ch_say (n : Nat) (hn : n ≤ 30) : ∃ q : Int → Int, (uC yN (chF sg tu n)).eqs = (chE n).map q ∧ ∀ i : Nat, i < n → ∃ x y, (x = (i : Int) ∧ y = (i : Int) + 1 ∨ x = (i : Int) + 1 ∧ y = (i : Int)) ∧ wH (uC yN (chF sg tu n)).nodes (q (3 * (i : Int) + 2)) = ⟨x, y, sgS sg i, true⟩ := by
  have ho := chF_ok (sg := sg) (tu := tu) n hn
  obtain ⟨q, h1, h2⟩ := build_say qG ho.right ho.nodeI
  refine ⟨q, h1, fun i hi => ?_⟩
  obtain ⟨a, b, c⟩ := chN_at (sg := sg) (tu := tu) n i hi
  obtain ⟨k0, kk⟩ := chX_ops (sg := sg) (tu := tu) i
  have hc : (3 * (i : Int) + 2) ∈ chE n := List.mem_map.2 ⟨i, List.mem_range.2 hi, rfl⟩
  have hq := h2 _ hc
  change TwoV (chN sg tu n) (rT (chN sg tu n) (3 * (i : Int) + 2)) → (rT (chN sg tu n) (rT (chN sg tu n) (3 * (i : Int) + 2)).f1).f5.f1 = 0 → (rT (chN sg tu n) (rT (chN sg tu n) (3 * (i : Int) + 2)).f2).f5.f1 = 0 → wH _ _ = Say.mk (rT (chN sg tu n) (rT (chN sg tu n) (3 * (i : Int) + 2)).f1).f5.f0 (rT (chN sg tu n) (rT (chN sg tu n) (3 * (i : Int) + 2)).f2).f5.f0 (if (rT (chN sg tu n) (3 * (i : Int) + 2)).f0 = 3 then -1 else 1) true at hq
  rw [c, k0] at hq
  have hs : (if sgK sg i = 3 then (-1 : Int) else 1) = sgS sg i := by
    rcases sY (sg := sg) i with ⟨e, e2⟩ | ⟨e, e2⟩ <;> rw [e, e2] <;> decide
  rw [hs] at hq
  have hk3 : sgK sg i = 3 ∨ sgK sg i = 4 := by rcases sY (sg := sg) i with ⟨e, _⟩ | ⟨e, _⟩ <;> omega
  rcases kk with ⟨e1, e2⟩ | ⟨e1, e2⟩
  · rw [e1, e2, a, b] at hq
    refine ⟨_, _, .inl ⟨rfl, rfl⟩, hq ⟨by rw [k0]; exact hk3, by rw [e1, a]; rfl, by rw [e2, b]; rfl, ?_⟩ rfl rfl⟩
    rw [e1, e2, a, b]
    intro h
    have : (i : Int) = (i : Int) + 1 := congrArg S32.f0 h
    omega
  · rw [e1, e2, a, b] at hq
    refine ⟨_, _, .inr ⟨rfl, rfl⟩, hq ⟨by rw [k0]; exact hk3, by rw [e1, b]; rfl, by rw [e2, a]; rfl, ?_⟩ rfl rfl⟩
    rw [e1, e2, a, b]
    intro h
    have : (i : Int) + 1 = (i : Int) := congrArg S32.f0 h
    omega
def cA (sg : List Int) (n k : Nat) : List S32 := (List.range (n + 1)).map fun (i : Nat) => if i ≤ k then ⟨0, sig sg i⟩ else ⟨(i : Int), 1⟩
theorem cA_len (n k : Nat) : (cA sg n k).length = n + 1 := by unfold cA; rw [List.length_map, List.length_range]
theorem cA_at {n k : Nat} (i : Nat) (h : i ≤ n) : rdA (cA sg n k) (i : Int) = if i ≤ k then ⟨0, sig sg i⟩ else ⟨(i : Int), 1⟩ := by
  unfold rdA zJ cA
  rw [List.getD_eq_getElem?_getD, List.getElem?_map, Int.toNat_natCast, List.getElem?_range (by omega)]
  rfl
theorem cA_end {n k : Nat} (i : Nat) (h : i ≤ n) (hk : k < i ∨ i = 0) : sK (cA sg n k) (i : Int) := by
  refine ⟨by omega, by rw [cA_len]; omega, ?_⟩
  rw [cA_at i h]
  rcases hk with e | e
  · rw [if_neg (by omega)]; exact ⟨rfl, rfl⟩
  · subst e; rw [if_pos (Nat.zero_le _)]; exact ⟨rfl, rfl⟩
theorem cA_of {n k : Nat} (i : Nat) (h : i ≤ n) (hk : i ≤ k) : ofA (cA sg n k) (i : Int) = ⟨0, sig sg i⟩ := by
  by_cases e : i = 0
  · subst e; exact ofA_self (cA_end 0 (Nat.zero_le _) (.inr rfl))
  · have h0 := cA_at (sg := sg) (n := n) (k := k) i h
    rw [if_pos hk] at h0
    have hz := cA_at (sg := sg) (n := n) (k := k) 0 (Nat.zero_le _)
    rw [if_pos (Nat.zero_le _)] at hz
    have hs : ¬ sig sg i = 0 := by rcases oL (sg := sg) i with e | e <;> omega
    unfold ofA
    obtain ⟨m, rfl⟩ : ∃ m, i = m + 1 := ⟨i - 1, by omega⟩
    rw [uV, h0, if_neg hs, if_neg (by show ¬ (0 : Int) = _; omega), Int.toNat_natCast, uV]
    show (if (rdA (cA sg n k) 0).f1 = 0 then _ else if (rdA (cA sg n k) 0).f0 = 0 then (⟨0, 1 * sig sg (m + 1)⟩ : S32) else _) = _
    rw [show rdA (cA sg n k) 0 = ⟨0, sig sg 0⟩ from hz, if_neg (by show ¬ (1 : Int) = 0; decide), if_pos rfl, Int.one_mul]
theorem cA_set {n k : Nat} (h : k < n) : (cA sg n k).set (k + 1) ⟨0, sig sg (k + 1)⟩ = cA sg n (k + 1) := by
  refine List.ext_getElem? fun j => ?_
  unfold cA
  by_cases e : j = k + 1
  · subst e
    rw [List.getElem?_set_self (by rw [List.length_map, List.length_range]; omega), List.getElem?_map, List.getElem?_range (by omega)]
    simp
  · rw [List.getElem?_set_ne (fun h => e h.symm), List.getElem?_map, List.getElem?_map]
    by_cases hj : j < n + 1
    · rw [List.getElem?_range hj]
      simp only [Option.map_some, Option.some.injEq]
      by_cases c : j ≤ k
      · rw [if_pos c, if_pos (by omega)]
      · rw [if_neg c, if_neg (by omega)]
    · rw [List.getElem?_eq_none (by rw [List.length_range]; omega)]; rfl
theorem cA_zero (n : Nat) : cA sg n 0 = idA (n + 1) := by
  unfold cA idA
  refine List.map_congr_left fun i _ => ?_
  by_cases e : i = 0
  · subst e; rfl
  · rw [if_neg (by omega)]
theorem cA_join {n k : Nat} (h : k < n) {x y : Int} (hx : x = (k : Int) ∧ y = (k : Int) + 1 ∨ x = (k : Int) + 1 ∧ y = (k : Int)) : tN (cA sg n k) x y (sgS sg k) = (cA sg n (k + 1), true) := by
  have o1 : ofA (cA sg n k) (k : Int) = ⟨0, sig sg k⟩ := cA_of k (by omega) (Nat.le_refl _)
  have o2 : ofA (cA sg n k) ((k : Int) + 1) = ⟨(k : Int) + 1, 1⟩ := ofA_self (cA_end (k + 1) (by omega) (.inl (by omega)))
  have hg : ¬ sig sg k = 0 := by rcases oL (sg := sg) k with e | e <;> omega
  have hs : ¬ sgS sg k = 0 := by rcases sY (sg := sg) k with ⟨_, e⟩ | ⟨_, e⟩ <;> omega
  have hgs : ¬ sig sg k * sgS sg k = 0 := by
    rcases oL (sg := sg) (k + 1) with e | e <;> (change sig sg k * sgS sg k = _ at e; omega)
  have hset := cA_set (sg := sg) h
  change (cA sg n k).set (k + 1) ⟨0, sig sg k * sgS sg k⟩ = _ at hset
  unfold tN xB
  rw [if_neg hs]
  rcases hx with ⟨rfl, rfl⟩ | ⟨rfl, rfl⟩
  · rw [o1, o2, Int.one_mul]
    rw [if_neg (fun h => hg h.1), if_neg hg, if_neg hs, if_neg (fun h => by have : (0 : Int) = (k : Int) + 1 := h.1; omega), if_neg (by show ¬ (0 : Int) = (k : Int) + 1; omega), if_pos (by show (0 : Int) < (k : Int) + 1; omega)]
    rw [show ((k : Int) + 1).toNat = k + 1 by omega, hset]
  · rw [o1, o2]
    rw [if_neg (fun h => by have : (1 : Int) = 0 := h.1; omega), if_neg (by show ¬ (1 : Int) = 0; decide), if_neg hgs, if_neg (fun h => by have : (k : Int) + 1 = 0 := h.1; omega), if_neg (by show ¬ (k : Int) + 1 = 0; omega), if_neg (by show ¬ (k : Int) + 1 < 0; omega)]
    show ((cA sg n k).set ((k : Int) + 1).toNat (⟨0, 1 * (sig sg k * sgS sg k)⟩ : S32), true) = _
    rw [show ((k : Int) + 1).toNat = k + 1 by omega, Int.one_mul, hset]
theorem ch_pass (n : Nat) (hn : n ≤ 30) : vQ (uC yN (chF sg tu n)).nodes (uC yN (chF sg tu n)).eqs (uC yN (chF sg tu n)).l = ([], cA sg n n) := by
  obtain ⟨q, h1, h2⟩ := ch_say (sg := sg) (tu := tu) n hn
  have hl : (uC yN (chF sg tu n)).l = cA sg n 0 := by
    rw [cA_zero]
    show idA (List.replicate (n + 1) vV).length = _
    rw [List.length_replicate]
  rw [h1, hl]
  have key : ∀ k, k ≤ n → ((chE k).map q).foldl (pC (uC yN (chF sg tu n)).nodes) ([], cA sg n 0) = ([], cA sg n k) := by
    intro k
    induction k with
    | zero => intro _; rfl
    | succ k ih =>
      intro hk
      unfold chE at ih ⊢
      rw [List.range_succ, List.map_append, List.map_append, List.foldl_append, ih (by omega)]
      obtain ⟨x, y, hxy, hs⟩ := h2 k (by omega)
      show pC (uC yN (chF sg tu n)).nodes ([], cA sg n k) (q (3 * (k : Int) + 2)) = _
      unfold pC
      rw [hs, cA_join (by omega) hxy, if_pos ⟨rfl, rfl⟩]
  exact key n (Nat.le_refl _)
theorem runs_nil {R : xH} {s t : RS} (h : sC R s t) (he : s.eqs = []) : t.l = s.l ∧ t.eqs = [] := by
  have hp : vQ s.nodes s.eqs s.l = ([], s.l) := by rw [he]; rfl
  have hd : doneR s = true := by unfold doneR; rw [hp, he]; rfl
  cases h with
  | done _ =>
    rw [stepR_eq]
    refine ⟨by show (vQ s.nodes s.eqs s.l).2 = _; rw [hp], ?_⟩
    show (xA R (rawG s) (rawR s)).2 = []
    refine List.eq_nil_of_length_eq_zero ?_
    rw [qL, oU, hp]; rfl
  | more hm _ => rw [hd] at hm; cases hm
theorem runs_pass {R : xH} {s t : RS} {l : List S32} (h : sC R s t) (hp : vQ s.nodes s.eqs s.l = ([], l)) : t.l = l ∧ t.eqs = [] := by
  have he : (pP R s).eqs = [] := by
    show (xA R (rawG s) (rawR s)).2 = []
    refine List.eq_nil_of_length_eq_zero ?_
    rw [qL, oU, hp]; rfl
  have hl : (pP R s).l = l := by show (vQ s.nodes s.eqs s.l).2 = _; rw [hp]
  cases h with
  | done _ => exact ⟨hl, he⟩
  | more _ k =>
    obtain ⟨a, b⟩ := runs_nil k he
    exact ⟨a.trans hl, b⟩
theorem ch_fin (n : Nat) (vars : List S59) (hv : vars.length = n + 1) : ∀ k, k ≤ n → (vC vars (cA sg n n) (k + 1)).1.length = 1 ∧ rd (vC vars (cA sg n n) (k + 1)).2 0 = 0 := by
  have step0 : (vC vars (cA sg n n) 1).1.length = 1 ∧ rd (vC vars (cA sg n n) 1).2 0 = 0 := by
    unfold vC
    rw [if_pos (by have := cA_of (sg := sg) (n := n) (k := n) 0 (by omega) (by omega); exact ⟨by rw [show ((0 : Nat) : Int) = 0 from rfl] at this ⊢; rw [this], by rw [show ((0 : Nat) : Int) = 0 from rfl] at this ⊢; rw [this]; rfl⟩)]
    refine ⟨rfl, ?_⟩
    exact sG (by show 0 < (List.replicate vars.length (0 : Int)).length; rw [List.length_replicate]; omega) _
  intro k
  induction k with
  | zero => intro _; exact step0
  | succ k ih =>
    intro hk
    have h := ih (by omega)
    have ho := cA_of (sg := sg) (n := n) (k := n) (k + 1) hk hk
    rw [finV_succ, if_neg (fun h => by rw [ho] at h; have : (0 : Int) = ((k + 1 : Nat) : Int) := h.1; omega)]
    exact h
theorem chain_is (n : Nat) (hn : n ≤ 30) {t : RS} (h : sC yN (uC yN (chF sg tu n)) t) : (xS (chF sg tu n) t).1.vars.length = 1 ∧ (xS (chF sg tu n) t).1.eqs = [] ∧ (xS (chF sg tu n) t).2.length = n + 1 ∧ ∀ i : Nat, i ≤ n → rdA (xS (chF sg tu n) t).2 (i : Int) = ⟨0, sig sg i⟩ := by
  obtain ⟨hl, he⟩ := runs_pass h (ch_pass n hn)
  have hvl : (chF sg tu n).vars.length = n + 1 := by show (List.replicate (n + 1) vV).length = _; rw [List.length_replicate]
  obtain ⟨f1, f2⟩ := ch_fin (sg := sg) n (chF sg tu n).vars hvl n (Nat.le_refl _)
  have hf : xS (chF sg tu n) t = (⟨(vC (chF sg tu n).vars (cA sg n n) (n + 1)).1, t.nodes.map (renV (vC (chF sg tu n).vars (cA sg n n) (n + 1)).2), [], (chF sg tu n).yM.foldl (uD (qQ (cA sg n n) (vC (chF sg tu n).vars (cA sg n n) (n + 1)).2 (n + 1))) []⟩, qQ (cA sg n n) (vC (chF sg tu n).vars (cA sg n n) (n + 1)).2 (n + 1)) := by
    unfold xS
    rw [hl, he, hvl]
  rw [hf]
  refine ⟨f1, rfl, ?_, fun i hi => ?_⟩
  · show (qQ _ _ (n + 1)).length = _
    unfold qQ; rw [List.length_map, List.length_range]
  · show rdA (qQ _ _ (n + 1)) (i : Int) = _
    rw [noteA_at (by omega) (by omega), cA_of i hi hi]
    have hs : ¬ sig sg i = 0 := by rcases oL (sg := sg) i with e | e <;> omega
    unfold noteA
    rw [if_pos hs, f2]
end
def clo (gF : Nat) : Value := .func (.func 17) #[] #[.pointer (some ⟨gF, 0, none⟩)]
structure CF (gF gP : Nat) (xs : List S59) (L : List S37) (E S : List Int) (vs : Value) (w V : World) : Prop where
  bx : ∃ vv vn ve, V.heap[gF]? = some (.cells #[vv, vn, ve, .slice none 0 0] 47 (0, 0)) ∧ Kd.R k59 59 V w.heap.size (fun _ => True) vv xs ∧ Kd.R k37 37 V w.heap.size (fun _ => True) vn L ∧ Kd.R (Kd.int .i64) 3 V w.heap.size (fun _ => True) ve E ∧ (ve.ownBlock = none ∨ ve.ownBlock ≠ vs.ownBlock)
  bp : V.heap[gP]? = some (.cells #[clo gF] 56 (0, 0))
  sn : Kd.R (Kd.int .i64) 3 V w.heap.size (fun _ => True) vs S
  B : Below w.heap.size w V
  ge : w.heap.size ≤ gF
  nP : gP ≠ gF
section
variable {gF gP base : Nat} {xs xs' : List S59} {L L' : List S37} {E E' S S' : List Int} {vs : Value} {w V V' V1 : World}
theorem R_int_other {e : Nat} {ok : Nat → Prop} {u : Value} {ys : List Int} {row : Option Nat} (h : Kd.R (Kd.int .i64) e V base ok u ys) (hg : V.grownBy V1 row) (hne : u.ownBlock = none ∨ u.ownBlock ≠ row) : Kd.R (Kd.int .i64) e V1 base ok u ys := ⟨h.1, wS.other h.2 hg hne⟩
theorem CF.step (h : CF gF gP xs L E S vs w V) (hd : Below V.heap.size V V') : CF gF gP xs L E S vs w V' := by
  obtain ⟨vv, vn, ve, h0, h1, h2, h3, h4⟩ := h.bx
  exact ⟨⟨vv, vn, ve, bb_ h0 hd, Kd.zL h1 hd, Kd.zL h2 hd, Kd.zL h3 hd, h4⟩, bb_ h.bp hd, Kd.zL h.sn hd, bt_ h.B hd, h.ge, h.nP⟩
theorem CF.growN {vv vn ve v1 : Value} (h : CF gF gP xs L E S vs w V) (h0 : V.heap[gF]? = some (.cells #[vv, vn, ve, .slice none 0 0] 47 (0, 0))) (h1 : Kd.R k59 59 V w.heap.size (fun _ => True) vv xs) (h2 : Kd.R k37 37 V w.heap.size (fun _ => True) vn L) (h3 : Kd.R (Kd.int .i64) 3 V w.heap.size (fun _ => True) ve E) (h4 : ve.ownBlock = none ∨ ve.ownBlock ≠ vs.ownBlock)
    (ho : Kd.R k37 37 V1 w.heap.size (fun _ => True) v1 L') (hb : Below w.heap.size w V1) (hg : V.grownBy V1 vn.ownBlock) : CF gF gP xs L' E S vs w (V1.setCell ⟨gF, 1, none⟩ v1) := by
  have hk := zK h0 hg (Kd.uX h2 h0 (by decide))
  exact ⟨⟨vv, v1, ve, yP hk 1 v1, Kd.vW (Kd.wC h1 h2 (by decide) hg) hk (by decide) 1 v1, Kd.vW ho hk (by decide) 1 v1, Kd.vW (Kd.wC h3 h2 (by decide) hg) hk (by decide) 1 v1, h4⟩, (zR V1 ⟨gF, 1, none⟩ v1).blk (zK h.bp hg (Kd.uX h2 h.bp (by decide))) h.nP, Kd.vW (Kd.wC h.sn h2 (by decide) hg) hk (by decide) 1 v1, bs_ hb h.ge, h.ge, h.nP⟩
theorem CF.growV {vv vn ve v1 : Value} (h : CF gF gP xs L E S vs w V) (h0 : V.heap[gF]? = some (.cells #[vv, vn, ve, .slice none 0 0] 47 (0, 0))) (h1 : Kd.R k59 59 V w.heap.size (fun _ => True) vv xs) (h2 : Kd.R k37 37 V w.heap.size (fun _ => True) vn L) (h3 : Kd.R (Kd.int .i64) 3 V w.heap.size (fun _ => True) ve E) (h4 : ve.ownBlock = none ∨ ve.ownBlock ≠ vs.ownBlock)
    (ho : Kd.R k59 59 V1 w.heap.size (fun _ => True) v1 xs') (hb : Below w.heap.size w V1) (hg : V.grownBy V1 vv.ownBlock) : CF gF gP xs' L E S vs w (V1.setCell ⟨gF, 0, none⟩ v1) := by
  have hk := zK h0 hg (Kd.uX h1 h0 (by decide))
  exact ⟨⟨v1, vn, ve, yP hk 0 v1, Kd.vW ho hk (by decide) 0 v1, Kd.vW (Kd.wC h2 h1 (by decide) hg) hk (by decide) 0 v1, Kd.vW (Kd.wC h3 h1 (by decide) hg) hk (by decide) 0 v1, h4⟩, (zR V1 ⟨gF, 0, none⟩ v1).blk (zK h.bp hg (Kd.uX h1 h.bp (by decide))) h.nP, Kd.vW (Kd.wC h.sn h1 (by decide) hg) hk (by decide) 0 v1, bs_ hb h.ge, h.ge, h.nP⟩
theorem row_lt {e : Nat} {ok : Nat → Prop} {u : Value} {ys : List Int} (h : Kd.R (Kd.int .i64) e V base ok u ys) {k : Nat} (hk : u.ownBlock = some k) : k < V.heap.size := by
  obtain ⟨inner, ho⟩ := Kd.R_own h
  exact own_lt ho k hk
theorem apart_new {v v1 u : Value} {e : Nat} {ok : Nat → Prop} {ys : List Int} (h : v.ownBlock = none ∨ v.ownBlock ≠ u.ownBlock) (hu : Kd.R (Kd.int .i64) e V base ok u ys) (hat : v1.ownBlock = v.ownBlock ∨ ∃ b, v1.ownBlock = some b ∧ V.heap.size ≤ b) : v1.ownBlock = none ∨ v1.ownBlock ≠ u.ownBlock := by
  rcases hat with e | ⟨b, e, hb⟩
  · rw [e]; exact h
  · refine .inr fun hc => ?_
    have := row_lt hu (hc.symm.trans e)
    omega
theorem CF.growE {vv vn ve v1 : Value} (h : CF gF gP xs L E S vs w V) (h0 : V.heap[gF]? = some (.cells #[vv, vn, ve, .slice none 0 0] 47 (0, 0))) (h1 : Kd.R k59 59 V w.heap.size (fun _ => True) vv xs) (h2 : Kd.R k37 37 V w.heap.size (fun _ => True) vn L) (h3 : Kd.R (Kd.int .i64) 3 V w.heap.size (fun _ => True) ve E) (h4 : ve.ownBlock = none ∨ ve.ownBlock ≠ vs.ownBlock)
    (ho : Kd.R (Kd.int .i64) 3 V1 w.heap.size (fun _ => True) v1 E') (hb : Below w.heap.size w V1) (hg : V.grownBy V1 ve.ownBlock) (hat : v1.ownBlock = ve.ownBlock ∨ ∃ b, v1.ownBlock = some b ∧ V.heap.size ≤ b) : CF gF gP xs L E' S vs w (V1.setCell ⟨gF, 2, none⟩ v1) := by
  have hk := zK h0 hg (Kd.uX h3 h0 (by decide))
  have hs : vs.ownBlock = none ∨ vs.ownBlock ≠ ve.ownBlock := by
    rcases h4 with e | e
    · rw [e]
      cases hv : vs.ownBlock with
      | none => exact .inl rfl
      | some k => exact .inr (by simp)
    · exact .inr fun hc => e hc.symm
  exact ⟨⟨vv, vn, v1, yP hk 2 v1, Kd.vW (Kd.wC h1 h3 (by decide) hg) hk (by decide) 2 v1, Kd.vW (Kd.wC h2 h3 (by decide) hg) hk (by decide) 2 v1, Kd.vW ho hk (by decide) 2 v1, apart_new h4 h.sn hat⟩, (zR V1 ⟨gF, 2, none⟩ v1).blk (zK h.bp hg (Kd.uX h3 h.bp (by decide))) h.nP, Kd.vW (R_int_other h.sn hg hs) hk (by decide) 2 v1, bs_ hb h.ge, h.ge, h.nP⟩
theorem CF.growS {v1 : Value} (h : CF gF gP xs L E S vs w V) (ho : Kd.R (Kd.int .i64) 3 V1 w.heap.size (fun _ => True) v1 S') (hb : Below w.heap.size w V1) (hg : V.grownBy V1 vs.ownBlock) (hat : v1.ownBlock = vs.ownBlock ∨ ∃ b, v1.ownBlock = some b ∧ V.heap.size ≤ b) : CF gF gP xs L E S' v1 w V1 := by
  obtain ⟨vv, vn, ve, h0, h1, h2, h3, h4⟩ := h.bx
  refine ⟨⟨vv, vn, ve, zK h0 hg (Kd.uX h.sn h0 (by decide)), Kd.wC h1 h.sn (by decide) hg, Kd.wC h2 h.sn (by decide) hg, R_int_other h3 hg h4, ?_⟩, zK h.bp hg (Kd.uX h.sn h.bp (by decide)), ho, hb, h.ge, h.nP⟩
  rcases hat with e | ⟨b, e, hb⟩
  · rw [e]; exact h4
  · refine .inr fun hc => ?_
    have := row_lt h3 (hc.trans e)
    omega
end
theorem en17 (args : Array Value) (w : World) : (callFunc 17 args).run Try.prog w = .ok (.enter 17 args) w := enters_of Try.func17 (by kernel_rfl) rfl args w
theorem put17 {gF gP : Nat} {xs : List S59} {L : List S37} {E S : List Int} {vs : Value} {w V : World} (x : S37) (h : CF gF gP xs L E S vs w V) (hl : L.length ≤ 1000) :
    Calls Try.prog 17 #[.agg (zC x), .pointer (some ⟨gF, 0, none⟩)] V fun e w' => e = .returned (.int .i64 (L.length : Int)) ∧ CF gF gP xs (L ++ [x]) E S vs w w' ∧ ∀ u, V.cell? ⟨gF, 2, none⟩ = some u → w'.cell? ⟨gF, 2, none⟩ = some u := by
  have hu47 := Try.underlying47
  have bA := zY (Below.refl V.heap.size V) (.cells (zC x) 37)
  have T := aq (h.step bA)
  obtain ⟨vv, vn, ve, hvV, gr1, gr0, gr2, hd⟩ := h.bx
  have HU := aq (fun u (hu : V.cell? ⟨gF, 2, none⟩ = some u) => Option.some.inj (hu.symm.trans ((bq hvV 2).trans (show _ = some ve from rfl))))
  have hv0 := bb_ hvV bA
  have hr1 := Kd.zL gr1 bA
  have hr0 := Kd.zL gr0 bA
  have hr2 := Kd.zL gr2 bA
  clear hvV gr1 gr0 gr2 bA
  have HX := aq (heap_alloc_last V (.cells (zC x) 37))
  have HLN := aq hl
  clear h hl
  obtain ⟨A5, c5, e5⟩ := Kd.yT hr0
  subst e5
  have HV0 := aq hv0
  have HR0 := aq hr0
  have HR1 := aq hr1
  have HR2 := aq hr2
  have HD := aq hd
  have y0 := (bq hv0 1).trans (show _ = some (.slice A5 L.length c5) from rfl)
  clear hv0 hr0 hr1 hr2 hd
  go_enter Try.func17, Try.ntmps17
  go_upto_region 2 with (first | ((with_reducible refine gD (N := 6) rfl ?_); (with_reducible refine yY 37 ?_); refine uT (g := V.heap.size) (x := x) rfl HX.out ?_) | ((with_reducible refine gD (N := 7) rfl ?_); refine Kd.xW rfl (vT (x := x) rfl) ?_) | ((with_reducible refine zA (b := .append) (xs := #[.tmp 5, .tmp 7]) rfl ?_); at_builtin; refine Kd.xY k37 (w0 := w) w.heap.size rfl (.tmp 5) (.tmp 7) 22 37 _ 176 rfl Try.underlying22 pF rfl (by decide) (by omega) _ L x (wY x) (fun _ => True) (fun _ => False) rfl rfl ?aP (fun _ hk => hk.elim) ?aF ?aO ?aB ?aS ?aL ?_; (case aP => exact rB _ _ _ x); (case aB => exact T.out.B); (case aF => exact fun k hk => trivial); (case aO => exact HR0.out); (case aS => exact T.out.B.size); (case aL => have := HLN.out; omega); intro v1 w9 ho hb hg hat; have hx9 := zK HV0.out hg (Kd.uX HR0.out HV0.out (by decide)); have HX9 := aq hx9; have T2 := aq (T.out.growN HV0.out HR1.out HR0.out HR2.out HD.out ho hb hg); obtain ⟨A6, c6, e6⟩ := Kd.yT ho; subst e6; clear y0 ho hb hg hat T; have T := T2; clear T2; have y0 := (bq hx9 1).trans (show _ = some (.slice A5 L.length c5) from rfl); have yf := bf_ hx9 1; clear hx9))
  have HW := aq (show wrap64 (L.length : Int) = (L.length : Int) by unfold wrap64; have := HLN.out; omega)
  go_wp2
  rw [HW.out]
  have T2 := T.out
  rw [show (L ++ [x]).length = L.length + 1 by simp] at T2
  refine bodyPost_ret (results_tmp rfl _ _ _) rfl ⟨rfl, T2, fun u hu => ?_⟩
  rw [HU.out u hu]
  exact (bq (yP HX9.out 1 _) 2).trans rfl
theorem v18 {gF gP : Nat} {xs : List S59} {L : List S37} {E S : List Int} {vs : Value} {w V : World} (i : Int) (h : CF gF gP xs L E S vs w V) (hl : L.length ≤ 1000) :
    Calls Try.prog 18 #[.int .i64 i, .pointer (some ⟨gP, 0, none⟩)] V fun e w' => e = .returned (.int .i64 (L.length : Int)) ∧ CF gF gP xs (L ++ [xU ⟨i, 0⟩]) E S vs w w' := by
  have eg := en17
  have HP := aq (put17 (xU ⟨i, 0⟩) h hl)
  have y0 := (bq h.bp 0).trans (show _ = some (clo gF) from rfl)
  unfold clo at y0
  clear h hl
  go_enter Try.func18, Try.ntmps18
  go_wp2_with (go_at_call 17; refine HP.out.mono ?_; rintro e w7 ⟨rfl, hd, _⟩)
  refine bodyPost_ret (results_tmp rfl _ _ _) rfl ⟨rfl, hd⟩
end Go.Proofs.Ytoonahobmlnflaa.PC
