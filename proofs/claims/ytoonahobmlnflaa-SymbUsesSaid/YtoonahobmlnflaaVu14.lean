/- Texts of this claim, one behind the other (Ru RowN Lu). -/
import Derived.Test.YtoonahobmlnflaaVu13
import Derived.Test.YtoonahobmlnflaaVu9
import Derived.Test.YtoonahobmlnflaaVu6
import Derived.Test.YtoonahobmlnflaaRows
import Derived.Test.YtoonahobmlnflaaVu11
import Derived.WalkKit
import Derived.ProofKit
import Derived.OpenShut
import Derived.ShutString
import Derived.ChangeOld
import Derived.Below
import Derived.SizedLaws
import Derived.ChangeSlices
import Derived.Deep.Slices
import Derived.ChangeSame
namespace Go.Proofs.Ytoonahobmlnflaa.PC
open Go.RowKit Go.Shelf Go.Proofs.YtoonahobmlnflaaW.PrintWords Go.Proofs.YtoonahobmlnflaaW.PrintLast Go.Proofs.YtoonahobmlnflaaW.PrintMore
set_option linter.unusedVariables false
set_option linter.unusedSimpArgs false
open Go.Lib
def ru13.T11 : Bool × List (List Nat × List Nat) := (true, [([], []), ([0], [0]), ([1], [1]), ([2], [2]), ([3], [3]), ([3], [3]), ([5, 3], [3, 5]), ([6, 3], [3, 6]), ([4, 7, 3], [3, 4, 7]), ([8, 3], [3, 8]), ([3], [3]), ([9, 10, 3, 3], [3, 9, 10]), ([11, 3], [3, 11]), ([3, 12], [3, 12])])
def ru13.B11 : List Nat := [0, 1, 3, 7, 15, 15, 47, 111, 255, 511, 15, 2047, 4095, 8191]
theorem ru13.tab11 : rtab .any (opsOf Try.f13 11) = ru13.T11 := by kernel_rfl
theorem ru13.bits11 : waitsOk ru13.T11.2 ru13.B11 = true := by kernel_rfl
/-- What the reference's Right tells. -/
def rightB (nodes : List S37) (roots : List Int) : Bool := !roots.any (outN nodes.length) && graphB nodes
theorem rightB_chk (nodes : List S37) (roots : List Int) : chkE nodes roots = if rightB nodes roots then 0 else 170 := by
  unfold chkE rightB
  rw [Bool.and_comm]
set_option maxHeartbeats 4000000 in
set_option maxRecDepth 100000 in
theorem right7 (nodes : List S37) (roots : List Int) (A : Option Addr) (c : Nat) (A1 : Option Addr) (c1 : Nat) (w : World) (hC : Kd.C k37 w A nodes.length nodes) (hc : nodes.length ≤ c) (hI : ∀ x ∈ nodes, NodeI x) (hR : Kd.C (Kd.int .i64) w A1 roots.length roots) (hc1 : roots.length ≤ c1) :
    Calls Try.prog 7 #[.slice A nodes.length c, .slice A1 roots.length c1] w fun e w' => e = .returned (.bool (rightB nodes roots)) ∧ Below w.heap.size w w' := by
  have hm := Kd.C_max hC
  have hm1 := Kd.C_max hR
  have HGR := Aside0.mk (graph19 nodes A c w hC hc hI)
  have HR := Aside0.mk hR
  have HUN := Aside0.mk (show rightB nodes roots = (!roots.any (outN nodes.length) && graphB nodes) from rfl)
  generalize rightB nodes roots = rb at HUN ⊢
  clear hC hI hR
  go_enter Try.func7, Try.ntmps7
  go_wp2
  go_loopw [9] (fun i wr => ∃ j : Int, 0 ≤ j ∧ j ≤ (roots.length : Int) ∧ i = .int .i64 j ∧ wr = w ∧ Aside0 ((roots.take j.toNat).any (outN nodes.length) = false)) (fun i _ => roots.length - (intOf i).toNat)
  case atStart => exact ⟨0, Int.le_refl _, by omega, rfl, rfl, ⟨rfl⟩⟩
  case round =>
    obtain ⟨j, j0, j1, rfl, rfl, HT⟩ := hrel
    by_cases hlt : j < (roots.length : Int)
    · obtain ⟨ad, ead, hx⟩ := Kd.at_int HR.out j j0 hlt
      cases ead
      have er : roots.take (j.toNat + 1) = roots.take j.toNat ++ [rd roots j] := by
        have hl : j.toNat < roots.length := by omega
        rw [List.take_succ_eq_append_getElem hl]
        simp [rd, List.getD_eq_getElem?_getD, List.getElem?_eq_getElem hl]
      have hmem : rd roots j ∈ roots := by
        have hl : j.toNat < roots.length := by omega
        rw [show rd roots j = roots[j.toNat] by simp [rd, List.getD_eq_getElem?_getD, List.getElem?_eq_getElem hl]]
        exact List.getElem_mem _
      have HMEM := Aside0.mk hmem
      have HER := Aside0.mk er
      have HLT := Aside0.mk hlt
      have HJ := Aside0.mk j0
      have hw : wrap64 (j + 1) = j + 1 := by unfold wrap64; omega
      have HW := Aside0.mk hw
      clear er hw hmem
      generalize rd roots j = q at hx HER HMEM
      replace j0 := eq_true j0
      replace hlt := eq_true hlt
      cases ho : outN nodes.length q with
      | true =>
        have HF := Aside0.mk (show rb = false by rw [HUN.out, show roots.any (outN nodes.length) = true from List.any_eq_true.2 ⟨q, HMEM.out, ho⟩]; rfl)
        unfold outN at ho
        by_cases q0 : q < 0
        · go_wp2
          go_ret
          exact ⟨by rw [HF.out]; rfl, Below.refl _ _⟩
        · have q1 : (nodes.length : Int) ≤ q := by simp at ho; omega
          go_wp2
          go_ret
          exact ⟨by rw [HF.out]; rfl, Below.refl _ _⟩
      | false =>
        have HO := Aside0.mk ho
        unfold outN at ho
        have q0 : ¬ q < 0 := by simp at ho; omega
        have q1 : ¬ (nodes.length : Int) ≤ q := by simp at ho; omega
        clear ho
        go_wp2
        have hj := HJ.out
        have hl := HLT.out
        rw [HW.out]
        refine ⟨⟨j + 1, by omega, by omega, rfl, trivial, ⟨?_⟩⟩, by simp only [intOf]; omega⟩
        rw [show (j + 1).toNat = j.toNat + 1 by omega, HER.out, List.any_append, HT.out]
        simp [HO.out]
    · obtain rfl : j = (roots.length : Int) := by omega
      have HA := Aside0.mk (show rb = graphB nodes by have := HT.out; rw [Int.toNat_natCast, List.take_length] at this; rw [HUN.out, this]; rfl)
      clear hlt j0 j1
      go_wp2_with (go_at_call 19; refine HGR.out.mono ?_; rintro e w2 ⟨rfl, hd⟩; have HB2 := Aside0.mk hd; clear hd)
      go_ret
      exact ⟨by rw [HA.out]; rfl, HB2.out⟩
theorem less31 (a b c d : Int) (w : World) : Calls Try.prog 31 #[.agg #[.int .i64 a, .int .i64 b], .agg #[.int .i64 c, .int .i64 d]] w fun e w' => e = .returned (.bool (keyLt (a, b) (c, d))) ∧ Below w.heap.size w w' :=
  orreryref17_less.calls a b c d (keyLt (a, b) (c, d)) w (by
    unfold orreryref17_less.f keyLt
    by_cases h1 : a < c
    · simp [h1]
    · by_cases h2 : a = c
      · simp [h1, h2]
      · simp [h1, h2])
/-- A row of numbers stays, where a block of keys is written. -/
theorem Kd.R_other3 {W W' : World} {base g : Nat} {ok : Nat → Prop} {v : Value} {xs : List Int} {cs : Array Value} (h : Kd.R (Kd.int .i64) 3 W base ok v xs) (hb : W.heap[g]? = some (.cells cs 32 (0, 0))) (ho : OneB g W W') : Kd.R (Kd.int .i64) 3 W' base ok v xs :=
  Kd.R_mono (Kd.R_step (Kd.R_types h hb (by decide)) (fun k hk _ => ho.other k hk.2)) (fun _ hk => hk.1)
theorem get_list {l : List (Int × Int)} {i : Nat} (h : i < l.length) : l[i]? = some l.toArray[i]! := by
  rw [List.getElem?_eq_getElem h]
  simp [Array.getElem!_eq_getD, Array.getD, h]
/-- A slice's length. -/
def lenV : Value → Nat
  | .slice _ n _ => n
  | _ => 0
/-- What is known within a round: the best one's block, the node's key's block. -/
structure RF (w : World) (gB gK : Nat) (b0 b1 kv kd : Int) (vo vu : Value) (l : List S32) (us : List Int) (V : World) : Prop where
  b : V.heap[gB]? = some (.cells #[.int .i64 b0, .int .i64 b1] 32 (0, 0))
  k : V.heap[gK]? = some (.cells #[.int .i64 kv, .int .i64 kd] 32 (0, 0))
  o : Kd.R k32 32 V w.heap.size (fun k_ => k_ < gB) vo l
  u : Kd.R (Kd.int .i64) 3 V w.heap.size (fun _ => True) vu us
  bw : Below w.heap.size w V
theorem RF.step {w V V' : World} {gB gK : Nat} {b0 b1 kv kd : Int} {vo vu : Value} {l : List S32} {us : List Int} (h : RF w gB gK b0 b1 kv kd vo vu l us V) (hd : Below V.heap.size V V') : RF w gB gK b0 b1 kv kd vo vu l us V' :=
  ⟨blk_below h.b hd, blk_below h.k hd, Kd.R_below h.o hd, Kd.R_below h.u hd, below_step h.bw hd⟩
set_option maxHeartbeats 8000000 in
set_option maxRecDepth 100000 in
theorem uses13 (nodes : List S37) (root : Int) (A : Option Addr) (c : Nat) (w : World) (hC : Kd.C k37 w A nodes.length nodes) (hc : nodes.length ≤ c) (hI : ∀ x ∈ nodes, NodeI x) :
    Calls Try.prog 13 #[.slice A nodes.length c, .int .i64 root] w fun e w' => ∃ A' c', e = .returned (.tuple #[.slice A' (usesL nodes root).length c', .int .i64 (chkE nodes [root])]) ∧ Kd.C k32 w' A' (usesL nodes root).length ((usesL nodes root).map toS) ∧ (usesL nodes root).length ≤ c' ∧ Below w.heap.size w w' := by
  have hm := Kd.C_max hC
  have hx := heap_alloc_last w (.cells #[.int .i64 root] 3)
  have hb := below_alloc (Below.refl w.heap.size w) (.cells #[.int .i64 root] 3)
  have HCK := Aside0.mk (right7 nodes [root] A c (some ⟨w.heap.size, 0, none⟩) 1 (w.alloc (.cells #[.int .i64 root] 3)) (Kd.C_below hC hb) hc hI (C_one hx) (by simp))
  have HB0 := Aside0.mk hb
  have HC := Aside0.mk hC
  have HI := Aside0.mk hI
  have hrc := rightB_chk nodes [root]
  clear hx hb hC hI
  go_enter Try.func13, Try.ntmps13
  cases hrb : rightB nodes [root] with
  | false =>
    rw [hrb] at hrc HCK
    have hk : chkE nodes [root] = 170 := by rw [hrc]; rfl
    have HU := Aside0.mk (show usesL nodes root = [] by unfold usesL; rw [if_neg (by omega)])
    rw [hk]
    clear hrc hrb hk
    go_wp2_with (go_at_call 7; refine HCK.out.mono ?_; rintro e w2 ⟨rfl, hd⟩; have HB2 := Aside0.mk (below_step HB0.out hd); clear hd HCK HB0)
    refine bodyPost_ret (results_tmp2 rfl _ _ _) rfl ?_
    exact ⟨none, 0, by rw [HU.out]; rfl, by rw [HU.out]; exact Kd.C_nil _ _, by rw [HU.out]; exact Nat.zero_le _, HB2.out⟩
  | true =>
    rw [hrb] at hrc HCK
    have hk : chkE nodes [root] = 0 := by rw [hrc]; rfl
    obtain ⟨hgb, r0, r1⟩ := chk_ok hk
    have HOK := Aside0.mk (ops_of_graph hgb).1
    have HLEN := Aside0.mk (ops_of_graph hgb).2
    have HR0 := Aside0.mk r0
    have HR1 := Aside0.mk r1
    have HSPEC := Aside0.mk (best_spec hk)
    have HNN := Aside0.mk (usesL_nonneg hk)
    have HUL := Aside0.mk (show (usesL nodes root).length ≤ nodes.length by
      unfold usesL
      rw [if_pos hk]
      unfold compactUpTo
      rw [List.length_map]
      refine Nat.le_trans (List.length_filter_le _ _) ?_
      have := usedTo_len nodes (needB nodes [root]) nodes.length
      simp
      exact this)
    rw [hk]
    clear hrc hrb hk hgb r0 r1
    generalize usesL nodes root = L at HSPEC HNN HUL ⊢
    go_wp2_with (go_at_call 7; refine HCK.out.mono ?_; rintro e w2 ⟨rfl, hd⟩; have HB2 := Aside0.mk (below_step HB0.out hd); clear hd HCK HB0)
    have hx3 := heap_alloc_last w2 (.cells #[.int .i64 root] 3)
    have HB3 := Aside0.mk (below_alloc HB2.out (.cells #[.int .i64 root] 3))
    have HND := Aside0.mk (needed9 nodes [root] A c (some ⟨w2.heap.size, 0, none⟩) 1 (w2.alloc (.cells #[.int .i64 root] 3)) (Kd.C_below HC.out HB3.out) hc (C_one hx3) (by simp) (fun r hr => (List.mem_singleton.1 hr) ▸ ⟨HR0.out, HR1.out⟩) HOK.out HLEN.out)
    clear hx3 HB2
    go_wp2_with (first | (go_at_call 9; refine HND.out.mono ?_; rintro e w4 ⟨vu, rfl, hR, hd⟩; have HB4 := Aside0.mk (below_step HB3.out hd); have HO4 := Aside0.mk (Kd.R_lower hR HB3.out.size); clear hR hd HND HB3) | ((with_reducible refine gate_dst (N := 21) rfl ?_); refine Kd.R_lit k32 (w0 := w4) _ 32 ?hg (N := 21) ?hd (xs := ([] : List S32)) (inner := []) (ok := fun _ => True) (okp := fun _ => True) ?hr ?hp (fun _ hk => hk) trivial (Below.refl _ _) (Nat.le_refl _) (by simp) ?_; (case hd => rfl); (case hg => rfl); (case hr => first | (go_simp; done) | (go_simp; rfl)); (case hp => exact Reps.none _ _); intro v5 w5 ho5 hb5 hg_ hnew_; clear hg_ hnew_; have HB5 := Aside0.mk (below_step HB4.out hb5); have HL5 := Aside0.mk (Kd.R_lower ho5 HB4.out.size); have HO5 := Aside0.mk (Kd.R_below HO4.out hb5); clear ho5 hb5 HB4 HO4))
    have HUS := Aside0.mk (show ((needB nodes [root]).map bI).length = nodes.length by unfold needB; rw [List.length_map, fold_needS_len, fold_setB_len, List.length_replicate])
    have HRU := Aside0.mk (fun j : Int => rd_bI (needB nodes [root]) j)
    have HBT := Aside0.mk (fun last j => bestTo_succ nodes (needB nodes [root]) last j)
    go_loopw [7] (fun s7 wr => ∃ m : Nat, m ≤ L.length ∧ Aside0 (Kd.R k32 32 wr w.heap.size (fun _ => True) s7 ((L.take m).map toS)) ∧ Aside0 (Kd.R (Kd.int .i64) 3 wr w.heap.size (fun _ => True) vu ((needB nodes [root]).map bI)) ∧ Aside0 (Below w.heap.size w wr)) (fun s7 _ => L.length - lenV s7)
    case atStart => exact ⟨0, Nat.zero_le _, HL5, HO5, HB5⟩
    case round =>
      obtain ⟨m, hmL, HL, HO, HB⟩ := hrel
      clear HL5 HO5 HB5
      have HML := Aside0.mk hmL
      have HBEST := Aside0.mk (HSPEC.out m hmL)
      have HTL := Aside0.mk (show ((L.take m).map toS).length = m by rw [List.length_map, List.length_take]; omega)
      clear hmL
      obtain ⟨Ax, cx, ex⟩ := Kd.R_slice HL.out
      rw [HTL.out] at ex
      subst ex
      go_wp2_with (with_reducible refine gate_store 32 ?_; refine ev_store (t := 32) (c' := #[.int .i64 (-1), .int .i64 0]) rfl rfl (by kernel_rfl) rfl (by kernel_rfl) ?_; intro w6 hx6 hd6 hl6; have HGB := Aside0.mk hx6; have HGW := Aside0.mk HB.out.size; have HL6 := Aside0.mk (Kd.R_mono (Kd.R_bound (Kd.R_below HL.out hd6)) (ok' := fun k_ => k_ < w6.heap.size) (fun k hk => hk.2.2.1)); have HL6' := Aside0.mk (Kd.R_below (Kd.R_mono (Kd.R_bound HL.out) (ok' := fun k_ => k_ < wr.heap.size) (fun k hk => hk.2.2.1)) hd6); have HO6 := Aside0.mk (Kd.R_below HO.out hd6); have HB6 := Aside0.mk (below_step HB.out hd6); clear hx6 hd6 hl6 HL HO HB HL6)
      generalize wr.heap.size = gB at HGB HGW HL6' ⊢
      go_wp2
      go_loopw [25] (fun i V => ∃ j : Int, 0 ≤ j ∧ j ≤ (nodes.length : Int) ∧ i = .int .i64 j ∧ Aside0 (V.heap[gB]? = some (.cells #[.int .i64 (bestTo nodes (needB nodes [root]) (L.take m).getLast? j.toNat).1, .int .i64 (bestTo nodes (needB nodes [root]) (L.take m).getLast? j.toNat).2] 32 (0, 0))) ∧ Aside0 (Kd.R k32 32 V w.heap.size (fun k_ => k_ < gB) (.slice Ax m cx) ((L.take m).map toS)) ∧ Aside0 (Kd.R (Kd.int .i64) 3 V w.heap.size (fun _ => True) vu ((needB nodes [root]).map bI)) ∧ Aside0 (Below w.heap.size w V)) (fun i _ => nodes.length - (intOf i).toNat)
      case atStart => exact ⟨0, Int.le_refl _, by omega, rfl, HGB, HL6', HO6, HB6⟩
      case round =>
        obtain ⟨j, j0, j1, rfl, HX, HL, HO, HB⟩ := hrel
        clear HGB HL6' HO6 HB6
        have hbt := HBT.out (L.take m).getLast? j.toNat
        by_cases hlt : j < (nodes.length : Int)
        · obtain ⟨gu, cu, eu, _, _, _⟩ := Kd.R_form HO.out (by rw [HUS.out]; omega)
          rw [HUS.out] at eu
          subst eu
          obtain ⟨adu, eadu, hxu⟩ := Kd.at_int (Kd.R_reads' HO.out).2.2 j j0 (by rw [HUS.out]; exact hlt)
          cases eadu
          rw [HRU.out j, add_off, Nat.zero_add] at hxu
          obtain ⟨ad, ead, hld⟩ := node_cells HC.out HB.out j j0 hlt
          subst ead
          have HW := Aside0.mk (show wrap64 (j + 1) = j + 1 by unfold wrap64; have := HLEN.out; omega)
          have HLT := Aside0.mk hlt
          have HJ := Aside0.mk j0
          have e6 := eq_true j0
          have e7 := eq_true hlt
          have fin : ∀ (V : World) (b : Int × Int), bestTo nodes (needB nodes [root]) (L.take m).getLast? (j.toNat + 1) = b → V.heap[gB]? = some (.cells #[.int .i64 b.1, .int .i64 b.2] 32 (0, 0)) → Kd.R k32 32 V w.heap.size (fun k_ => k_ < gB) (.slice Ax m cx) ((L.take m).map toS) → Kd.R (Kd.int .i64) 3 V w.heap.size (fun _ => True) (.slice (some ⟨gu, 0, none⟩) nodes.length cu) ((needB nodes [root]).map bI) → Below w.heap.size w V →
              (∃ j_1 : Int, 0 ≤ j_1 ∧ j_1 ≤ (nodes.length : Int) ∧ (Value.int .i64 (wrap64 (j + 1))) = .int .i64 j_1 ∧ Aside0 (V.heap[gB]? = some (.cells #[.int .i64 (bestTo nodes (needB nodes [root]) (L.take m).getLast? j_1.toNat).1, .int .i64 (bestTo nodes (needB nodes [root]) (L.take m).getLast? j_1.toNat).2] 32 (0, 0))) ∧ Aside0 (Kd.R k32 32 V w.heap.size (fun k_ => k_ < gB) (.slice Ax m cx) ((L.take m).map toS)) ∧ Aside0 (Kd.R (Kd.int .i64) 3 V w.heap.size (fun _ => True) (.slice (some ⟨gu, 0, none⟩) nodes.length cu) ((needB nodes [root]).map bI)) ∧ Aside0 (Below w.heap.size w V)) ∧ nodes.length - (intOf (.int .i64 (wrap64 (j + 1)))).toNat < nodes.length - (intOf (.int .i64 j)).toNat := fun V b hb hX hL hO hB => by
            have hj := HJ.out
            have hl := HLT.out
            rw [HW.out]
            refine ⟨⟨j + 1, by omega, by omega, rfl, ⟨?_⟩, ⟨hL⟩, ⟨hO⟩, ⟨hB⟩⟩, by simp only [intOf]; omega⟩
            rw [show (j + 1).toNat = j.toNat + 1 by omega, hb]
            exact hX
          have FIN := Aside0.mk fin
          clear fin j0 j1 hlt HBEST
          unfold bestS at hbt
          rw [show ((j.toNat : Nat) : Int) = j by have := HJ.out; omega] at hbt
          generalize bestTo nodes (needB nodes [root]) (L.take m).getLast? j.toNat = b at hbt HX
          generalize rd_T37 nodes j = x at hld hbt
          have HBTT := Aside0.mk hbt
          unfold nodeL at hld
          have HLD := Aside0.mk hld
          clear hbt hld
          obtain ⟨b0, b1⟩ := b
          dsimp only at HX
          have HLX := Aside0.mk (blk_lt HX.out)
          have hkx : toP x.f5 = (x.f5.f0, x.f5.f1) := rfl
          rw [hkx] at HBTT
          clear hkx
          generalize x.f5.f0 = kv at HBTT HLD
          generalize x.f5.f1 = kd at HBTT HLD
          generalize x.f0 = kk at HBTT HLD
          cases hbv : rdOf false (needB nodes [root]) j with
          | false =>
            rw [hbv] at hxu HBTT
            have hxu' : World.cell? _ ⟨gu, j.toNat, none⟩ = some (.int .i64 0) := hxu
            go_wp2_with (first | (with_reducible refine gate_load 37 ?_; refine ev_load (t := 37) (cs := [.int .i64 kk, .int .i64 x.f1, .int .i64 x.f2, .int .i64 x.f3, .int .i64 x.f4.f0, .int .i64 x.f4.f1, .int .i64 kv, .int .i64 kd, .int .i64 x.f6.f0.f0.f0, .int .i64 x.f6.f0.f0.f1, .int .i64 x.f6.f0.f1.f0, .int .i64 x.f6.f0.f1.f1, .int .i64 x.f6.f0.f2.f0, .int .i64 x.f6.f0.f2.f1, .int .i64 x.f6.f0.f3.f0, .int .i64 x.f6.f0.f3.f1, .int .i64 x.f6.f0.f4.f0, .int .i64 x.f6.f0.f4.f1, .int .i64 x.f6.f0.f5.f0, .int .i64 x.f6.f0.f5.f1, .int .i64 x.f6.f0.f6.f0, .int .i64 x.f6.f0.f6.f1]) rfl (by kernel_rfl) (by kernel_rfl) HLD.out ?_) | (with_reducible refine gate_store 37 ?_; refine ev_store (t := 37) (c' := #[.int .i64 kk, .int .i64 x.f1, .int .i64 x.f2, .int .i64 x.f3, .int .i64 x.f4.f0, .int .i64 x.f4.f1, .int .i64 kv, .int .i64 kd, .int .i64 x.f6.f0.f0.f0, .int .i64 x.f6.f0.f0.f1, .int .i64 x.f6.f0.f1.f0, .int .i64 x.f6.f0.f1.f1, .int .i64 x.f6.f0.f2.f0, .int .i64 x.f6.f0.f2.f1, .int .i64 x.f6.f0.f3.f0, .int .i64 x.f6.f0.f3.f1, .int .i64 x.f6.f0.f4.f0, .int .i64 x.f6.f0.f4.f1, .int .i64 x.f6.f0.f5.f0, .int .i64 x.f6.f0.f5.f1, .int .i64 x.f6.f0.f6.f0, .int .i64 x.f6.f0.f6.f1]) rfl rfl (by kernel_rfl) rfl (by kernel_rfl) ?_; intro w7 hx7 hd7 hl7; have HN := Aside0.mk hx7; have HX7 := Aside0.mk (blk_below HX.out hd7); have HL7 := Aside0.mk (Kd.R_below HL.out hd7); have HO7 := Aside0.mk (Kd.R_below HO.out hd7); have HB7 := Aside0.mk (below_step HB.out hd7); have hxu7 := (hd7.cell (World.block_lt_of_cell? _ _ hxu')).trans hxu'; clear hx7 hd7 hl7 HX HL HO HB hxu hxu' HLD; have z0 := (blk_cell HN.out 0).trans (show _ = some (.int .i64 kk) from rfl); have z6 := (blk_cell HN.out 6).trans (show _ = some (.int .i64 kv) from rfl); have z7 := (blk_cell HN.out 7).trans (show _ = some (.int .i64 kd) from rfl)))
            exact FIN.out _ (b0, b1) (by rw [HBTT.out]; rfl) HX7.out HL7.out HO7.out HB7.out
          | true =>
            rw [hbv] at hxu HBTT
            have hxu' : World.cell? _ ⟨gu, j.toNat, none⟩ = some (.int .i64 1) := hxu
            by_cases hk2 : kk = 2
            · subst hk2
              have HBK := Aside0.mk (show bestTo nodes (needB nodes [root]) (L.take m).getLast? (j.toNat + 1) = bestK (L.take m).getLast? (b0, b1) (kv, kd) by rw [HBTT.out]; rfl)
              clear HBTT
              go_wp2_with (first | (with_reducible refine gate_load 37 ?_; refine ev_load (t := 37) (cs := [.int .i64 2, .int .i64 x.f1, .int .i64 x.f2, .int .i64 x.f3, .int .i64 x.f4.f0, .int .i64 x.f4.f1, .int .i64 kv, .int .i64 kd, .int .i64 x.f6.f0.f0.f0, .int .i64 x.f6.f0.f0.f1, .int .i64 x.f6.f0.f1.f0, .int .i64 x.f6.f0.f1.f1, .int .i64 x.f6.f0.f2.f0, .int .i64 x.f6.f0.f2.f1, .int .i64 x.f6.f0.f3.f0, .int .i64 x.f6.f0.f3.f1, .int .i64 x.f6.f0.f4.f0, .int .i64 x.f6.f0.f4.f1, .int .i64 x.f6.f0.f5.f0, .int .i64 x.f6.f0.f5.f1, .int .i64 x.f6.f0.f6.f0, .int .i64 x.f6.f0.f6.f1]) rfl (by kernel_rfl) (by kernel_rfl) HLD.out ?_) | (with_reducible refine gate_store 37 ?_; refine ev_store (t := 37) (c' := #[.int .i64 2, .int .i64 x.f1, .int .i64 x.f2, .int .i64 x.f3, .int .i64 x.f4.f0, .int .i64 x.f4.f1, .int .i64 kv, .int .i64 kd, .int .i64 x.f6.f0.f0.f0, .int .i64 x.f6.f0.f0.f1, .int .i64 x.f6.f0.f1.f0, .int .i64 x.f6.f0.f1.f1, .int .i64 x.f6.f0.f2.f0, .int .i64 x.f6.f0.f2.f1, .int .i64 x.f6.f0.f3.f0, .int .i64 x.f6.f0.f3.f1, .int .i64 x.f6.f0.f4.f0, .int .i64 x.f6.f0.f4.f1, .int .i64 x.f6.f0.f5.f0, .int .i64 x.f6.f0.f5.f1, .int .i64 x.f6.f0.f6.f0, .int .i64 x.f6.f0.f6.f1]) rfl rfl (by kernel_rfl) rfl (by kernel_rfl) ?_; intro w7 hx7 hd7 hl7; have HN := Aside0.mk hx7; have HX7 := Aside0.mk (blk_below HX.out hd7); have HL7 := Aside0.mk (Kd.R_below HL.out hd7); have HO7 := Aside0.mk (Kd.R_below HO.out hd7); have HB7 := Aside0.mk (below_step HB.out hd7); have hxu7 := (hd7.cell (World.block_lt_of_cell? _ _ hxu')).trans hxu'; clear hx7 hd7 hl7 HX HL HO HB hxu hxu' HLD; have z0 := (blk_cell HN.out 0).trans (show _ = some (.int .i64 2) from rfl); have z6 := (blk_cell HN.out 6).trans (show _ = some (.int .i64 kv) from rfl); have z7 := (blk_cell HN.out 7).trans (show _ = some (.int .i64 kd) from rfl)) | (with_reducible refine gate_store 32 ?_; refine ev_store (t := 32) (c' := #[.int .i64 kv, .int .i64 kd]) rfl rfl (by kernel_rfl) rfl (by kernel_rfl) ?_; intro w8 hx8 hd8 hl8; have F4 := Aside0.mk (show RF w gB w7.heap.size b0 b1 kv kd (.slice Ax m cx) (.slice (some ⟨gu, 0, none⟩) nodes.length cu) ((L.take m).map toS) ((needB nodes [root]).map bI) w8 from ⟨blk_below HX7.out hd8, hx8, Kd.R_below HL7.out hd8, Kd.R_below HO7.out hd8, below_step HB7.out hd8⟩); clear hx8 hd8 hl8 HX7 HL7 HO7 HB7 HN z0 z6 z7 hxu7))
              rcases Nat.eq_zero_or_pos m with rfl | hmp
              · have HBQ := Aside0.mk (show bestTo nodes (needB nodes [root]) (L.take 0).getLast? (j.toNat + 1) = if b0 < 0 ∨ keyLt (kv, kd) (b0, b1) = true then (kv, kd) else (b0, b1) by rw [HBK.out]; rfl)
                clear HBK
                go_wp2
                refine start_ (n := 14) (S := fun _ => True) (ds := []) (msk 14 0) (by kernel_rfl) rfl rfl trivial (fun hHeld => ?_); refine with_tabW ru13.tab11 ru13.bits11 (fun HT_ HW_ => ?_)
                refine pu_ 0 42 (msk 14 1) HT_.out ?_ ?_ ?_ ?_ ?_
                rotate_left
                · intro w'; go_simp; with_reducible rfl
                rotate_left
                · simp only [Act.put, sq, i64_w, i32_w]; rfl
                refine pu_ 1 43 (msk 14 3) HT_.out ?_ ?_ ?_ ?_ ?_
                rotate_left
                · intro w'; go_simp; with_reducible rfl
                rotate_left
                · simp only [Act.put, sq, i64_w, i32_w]; rfl
                refine pu_ 2 44 (msk 14 7) HT_.out ?_ ?_ ?_ ?_ ?_
                rotate_left
                · intro w'; go_simp; with_reducible rfl
                rotate_left
                · simp only [Act.put, sq, i64_w, i32_w]; rfl
                refine pu_ 3 45 (msk 14 15) HT_.out ?_ ?_ ?_ ?_ ?_
                rotate_left
                · intro w'; go_simp; with_reducible rfl
                rotate_left
                · simp only [Act.put, sq, i64_w, i32_w]; rfl
                refine pv_ 4 46 (msk 14 31) HT_.out ?_ ?_ ?_
                rotate_left
                · simp only [Act.put, sq, i64_w, i32_w]; rfl
                refine pv_ 5 47 (msk 14 63) HT_.out ?_ ?_ ?_
                rotate_left
                · simp only [Act.put, sq, i64_w, i32_w]; rfl
                refine pv_ 6 48 (msk 14 127) HT_.out ?_ ?_ ?_
                rotate_left
                · simp only [Act.put, sq, i64_w, i32_w]; rfl
                refine pv_ 7 49 (msk 14 255) HT_.out ?_ ?_ ?_
                rotate_left
                · simp only [Act.put, sq, i64_w, i32_w]; rfl
                refine pv_ 8 50 (msk 14 511) HT_.out ?_ ?_ ?_
                rotate_left
                · simp only [Act.put, sq, i64_w, i32_w]; rfl
                refine pv_ 9 51 (msk 14 1023) HT_.out ?_ ?_ ?_
                rotate_left
                · simp only [Act.put, sq, i64_w, i32_w]; rfl
                refine pv_ 10 52 (msk 14 2047) HT_.out ?_ ?_ ?_
                rotate_left
                · simp only [Act.put, sq, i64_w, i32_w]; rfl
                refine pv_ 11 53 (msk 14 4095) HT_.out ?_ ?_ ?_
                rotate_left
                · simp only [Act.put, sq, i64_w, i32_w]; rfl
                refine pv_ 12 54 (msk 14 8191) HT_.out ?_ ?_ ?_
                rotate_left
                · simp only [Act.put, sq, i64_w, i32_w]; rfl
                refine pu_ 13 55 (msk 14 16383) HT_.out ?_ ?_ ?_ ?_ ?_
                rotate_left
                · intro w'; go_simp; with_reducible rfl
                rotate_left
                · simp only [Act.put, sq, i64_w, i32_w]; rfl
                refine done_ (done_of HT_.out (by kernel_rfl)) ?_
                have F6 := Aside0.mk (F4.out.step (below_drew (Below.refl _ _)))
                generalize w8.drew = w9' at F6 ⊢
                clear F4
                have zb0 := (blk_cell F6.out.b 0).trans (show _ = some (.int .i64 b0) from rfl)
                have zb1 := (blk_cell F6.out.b 1).trans (show _ = some (.int .i64 b1) from rfl)
                have zk0 := (blk_cell F6.out.k 0).trans (show _ = some (.int .i64 kv) from rfl)
                have zk1 := (blk_cell F6.out.k 1).trans (show _ = some (.int .i64 kd) from rfl)
                by_cases hb0 : b0 < 0
                · have HB0n := Aside0.mk hb0
                  replace hb0 := eq_true hb0
                  go_wp2_with (with_reducible refine gate_store 32 ?_; refine ev_store_at (g := gB) (o := 0) (t0 := 32) (c' := #[.int .i64 kv, .int .i64 kd]) (cur := #[.int .i64 b0, .int .i64 b1]) (cur' := #[.int .i64 kv, .int .i64 kd]) rfl rfl F6.out.b (by kernel_rfl) (by simp) (by kernel_rfl) (by kernel_rfl) ?_; intro w10 hx10 ho10; clear zb0 zb1 zk0 zk1)
                  exact FIN.out _ (kv, kd) (by rw [HBQ.out, if_pos (.inl HB0n.out)]) hx10 (Kd.R_step F6.out.o (fun k hk _ => ho10.other k (by omega))) (Kd.R_other3 F6.out.u F6.out.b ho10) (F6.out.bw.trans (ho10.below HGW.out))
                · have HB0n := Aside0.mk hb0
                  have hb0' := eq_false hb0
                  have hls2 : ∀ W, Calls Try.prog 31 #[.agg #[.int .i64 kv, .int .i64 kd], .agg #[.int .i64 b0, .int .i64 b1]] W fun e w' => e = .returned (.bool (keyLt (kv, kd) (b0, b1))) ∧ Below W.heap.size W w' := fun W => less31 kv kd b0 b1 W
                  obtain ⟨q2, hq2⟩ : ∃ q2, q2 = keyLt (kv, kd) (b0, b1) := ⟨_, rfl⟩
                  rw [← hq2] at hls2
                  have HQ2 := Aside0.mk hq2
                  have HLS2 := Aside0.mk hls2
                  clear hls2 hq2 hb0
                  cases q2 with
                  | true =>
                    go_wp2_with (first | (go_at_call 31; refine (HLS2.out _).mono ?_; rintro e w9 ⟨rfl, hd⟩; have F9 := Aside0.mk (F6.out.step hd); clear hd zb0 zb1 zk0 zk1; have zk0 := (blk_cell F9.out.k 0).trans (show _ = some (.int .i64 kv) from rfl); have zk1 := (blk_cell F9.out.k 1).trans (show _ = some (.int .i64 kd) from rfl)) | (with_reducible refine gate_store 32 ?_; refine ev_store_at (g := gB) (o := 0) (t0 := 32) (c' := #[.int .i64 kv, .int .i64 kd]) (cur := #[.int .i64 b0, .int .i64 b1]) (cur' := #[.int .i64 kv, .int .i64 kd]) rfl rfl F9.out.b (by kernel_rfl) (by simp) (by kernel_rfl) (by kernel_rfl) ?_; intro w10 hx10 ho10; clear zk0 zk1))
                    exact FIN.out _ (kv, kd) (by rw [HBQ.out, if_pos (.inr HQ2.out.symm)]) hx10 (Kd.R_step F9.out.o (fun k hk _ => ho10.other k (by omega))) (Kd.R_other3 F9.out.u F9.out.b ho10) (F9.out.bw.trans (ho10.below HGW.out))
                  | false =>
                    go_wp2_with (go_at_call 31; refine (HLS2.out _).mono ?_; rintro e w9 ⟨rfl, hd⟩; have F9 := Aside0.mk (F6.out.step hd); clear hd zb0 zb1 zk0 zk1)
                    exact FIN.out _ (b0, b1) (by rw [HBQ.out, if_neg (fun h => h.elim (fun h => by have := HB0n.out; omega) (fun h => by rw [← HQ2.out] at h; cases h))]) F9.out.b F9.out.o F9.out.u F9.out.bw
              · have HMP := Aside0.mk hmp
                obtain ⟨go, co, eo, _, _, cs, hG⟩ := Kd.R_form F4.out.o (by rw [HTL.out]; exact hmp)
                rw [HTL.out] at eo
                injection eo with ea en ec
                subst ea
                have hr2 := row2_of_C hG (Kd.R_reads' F4.out.o).2.2
                have hlast : (L.take m).getLast? = some (((L.take m).map toS).map toP).toArray[m - 1]! := by
                  have hl : m ≤ L.length := HML.out
                  have e1 : (((L.take m).map toS).map toP) = L.take m := by rw [List.map_map, show toP ∘ toS = id from rfl, List.map_id]
                  rw [e1, List.getLast?_eq_getElem?, List.length_take, Nat.min_eq_left hl]
                  have hlt : m - 1 < (L.take m).length := by rw [List.length_take]; omega
                  exact get_list hlt
                have hsz : m - 1 < (((L.take m).map toS).map toP).toArray.size := by simp; have := HML.out; omega
                have ha := hr2.a (m - 1) hsz
                have hb := hr2.b (m - 1) hsz
                have hwm : (wrap64 ((m : Int) - 1)).toNat = m - 1 := by have := HML.out; have := HUL.out; have := HLEN.out; unfold wrap64; omega
                rw [← hwm] at ha hb
                rw [← hwm] at hlast
                generalize (((L.take m).map toS).map toP).toArray[(wrap64 ((m : Int) - 1)).toNat]! = lk at ha hb hlast
                obtain ⟨lv, ld⟩ := lk
                have HL0 := Aside0.mk ha
                have HL1 := Aside0.mk hb
                have HLST := Aside0.mk hlast
                have m0 := eq_true (show (0 : Int) < (m : Int) by omega)
                have m1 := eq_true hmp
                have m2 := eq_true (show (0 : Int) ≤ wrap64 ((m : Int) - 1) by have := HML.out; have := HUL.out; have := HLEN.out; unfold wrap64; omega)
                have m3 := eq_true (show wrap64 ((m : Int) - 1) < (m : Int) by have := HML.out; have := HUL.out; have := HLEN.out; unfold wrap64; omega)
                have hls : ∀ W, Calls Try.prog 31 #[.agg #[.int .i64 lv, .int .i64 ld], .agg #[.int .i64 kv, .int .i64 kd]] W fun e w' => e = .returned (.bool (keyLt (lv, ld) (kv, kd))) ∧ Below W.heap.size W w' := fun W => less31 lv ld kv kd W
                obtain ⟨q, hq⟩ : ∃ q, q = keyLt (lv, ld) (kv, kd) := ⟨_, rfl⟩
                rw [← hq] at hls
                have HQ := Aside0.mk hq
                have HLS := Aside0.mk hls
                have HG4 := Aside0.mk (blk_drew hG)
                have F3 := Aside0.mk (F4.out.step (below_drew (Below.refl _ _)))
                clear hr2 ha hb hlast hsz hwm hls hq hG en ec F4
                have F4 := F3
                clear F3
                go_wp2
                generalize hgK : w7.heap.size = gK at F4 ⊢
                refine start_ (n := 14) (S := fun w' => w'.cell? ⟨gK, 0, none⟩ = some (.int .i64 kv) ∧ w'.cell? ⟨gK, 1, none⟩ = some (.int .i64 kd) ∧ w'.cell? ⟨go, (wrap64 ((m : Int) - 1)).toNat * 2, none⟩ = some (.int .i64 lv) ∧ w'.cell? ⟨go, (wrap64 ((m : Int) - 1)).toNat * 2 + 1, none⟩ = some (.int .i64 ld)) (ds := []) (msk 14 0) (by kernel_rfl) rfl rfl ⟨(blk_cell F4.out.k 0).trans rfl, (blk_cell F4.out.k 1).trans rfl, (blk_cell HG4.out _).trans HL0.out, (blk_cell HG4.out _).trans HL1.out⟩ (fun hHeld => ?_); refine with_tabW ru13.tab11 ru13.bits11 (fun HT_ HW_ => ?_)
                generalize w8.drew = w4 at F4 HG4 hHeld ⊢
                refine pu_ 0 42 (msk 14 1) HT_.out ?_ ?_ ?_ ?_ ?_
                rotate_left
                · intro w'; go_simp; with_reducible rfl
                rotate_left
                · simp only [Act.put, sq, i64_w, i32_w]; rfl
                refine pu_ 1 43 (msk 14 3) HT_.out ?_ ?_ ?_ ?_ ?_
                rotate_left
                · intro w'; go_simp; with_reducible rfl
                rotate_left
                · simp only [Act.put, sq, i64_w, i32_w]; rfl
                refine pu_ 2 44 (msk 14 7) HT_.out ?_ ?_ ?_ ?_ ?_
                rotate_left
                · intro w'; go_simp; with_reducible rfl
                rotate_left
                · simp only [Act.put, sq, i64_w, i32_w]; rfl
                refine pu_ 3 45 (msk 14 15) HT_.out ?_ ?_ ?_ ?_ ?_
                rotate_left
                · intro w'; go_simp; with_reducible rfl
                rotate_left
                · simp only [Act.put, sq, i64_w, i32_w]; rfl
                refine pu_ 4 46 (msk 14 31) HT_.out ?_ ?_ ?_ ?_ ?_
                rotate_left
                · intro w'; go_simp; with_reducible rfl
                rotate_left
                · simp only [Act.put, sq, i64_w, i32_w]; rfl
                refine pu_ 5 47 (msk 14 63) HT_.out ?_ ?_ ?_ ?_ ?_
                rotate_left
                · intro w'; go_simp; with_reducible rfl
                rotate_left
                · simp only [Act.put, sq, i64_w, i32_w]; rfl
                refine pu_ 6 48 (msk 14 127) HT_.out ?_ ?_ ?_ ?_ ?_
                rotate_left
                · intro w'; go_simp; with_reducible rfl
                rotate_left
                · simp only [Act.put, sq, i64_w, i32_w]; rfl
                refine pu_ 7 49 (msk 14 255) HT_.out ?_ ?_ ?_ ?_ ?_
                rotate_left
                · intro w'; go_simp; with_reducible rfl
                rotate_left
                · simp only [Act.put, sq, i64_w, i32_w]; rfl
                refine pu_ 8 50 (msk 14 511) HT_.out ?_ ?_ ?_ ?_ ?_
                rotate_left
                · intro w'; go_simp; with_reducible rfl
                rotate_left
                · simp only [Act.put, sq, i64_w, i32_w]; rfl
                refine tk_ 9 51 (msk 14 1023) HT_.out HW_.out hHeld ?_ ?_ ?_ ?_ ?_
                rotate_left
                · rintro w' ⟨s0, s1, s2, s3⟩; go_simp; with_reducible rfl
                rotate_left
                · simp only [Act.put, sq, i64_w, i32_w]; rfl
                refine tk_ 10 52 (msk 14 2047) HT_.out HW_.out hHeld ?_ ?_ ?_ ?_ ?_
                rotate_left
                · rintro w' ⟨s0, s1, s2, s3⟩; go_simp; with_reducible rfl
                rotate_left
                · simp only [Act.put, sq, i64_w, i32_w]; rfl
                refine one_ (i := 11) (N := some 53) (msk 14 4095) rfl rfl (one_of HT_.out (by kernel_rfl)) (by decide) (fun K hK => ?_)
                refine goes_ Try.func31 (by kernel_rfl) rfl #[.agg #[.int .i64 lv, .int .i64 ld], .agg #[.int .i64 kv, .int .i64 kd]] (by rfl) rfl rfl (by (try simp only [List.map_toArray, List.map_cons, List.map_nil]); first | done | rfl) ?_
                refine (HLS.out _).mono ?_
                rintro e w5 ⟨rfl, hd⟩
                refine ⟨_, rfl, ?_⟩
                have F5 := Aside0.mk (F4.out.step hd)
                have HG5 := Aside0.mk (blk_below HG4.out hd)
                clear hd F4 HG4
                refine hK.out _ _ ⟨(blk_cell F5.out.k 0).trans rfl, (blk_cell F5.out.k 1).trans rfl, (blk_cell HG5.out _).trans HL0.out, (blk_cell HG5.out _).trans HL1.out⟩ (fun hHeld => ?_)
                clear hK K
                refine norm_ (a' := ?_) ?_ ?_
                rotate_left
                · show Act.put _ (some 53) _ = _
                  simp only [Act.put, sq, i64_w, i32_w]
                  rfl
                refine pu_ 12 54 (msk 14 8191) HT_.out ?_ ?_ ?_ ?_ ?_
                rotate_left
                · intro w'; go_simp; with_reducible rfl
                rotate_left
                · simp only [Act.put, sq, i64_w, i32_w]; rfl
                refine pu_ 13 55 (msk 14 16383) HT_.out ?_ ?_ ?_ ?_ ?_
                rotate_left
                · intro w'; go_simp; with_reducible rfl
                rotate_left
                · simp only [Act.put, sq, i64_w, i32_w]; rfl
                refine done_ (done_of HT_.out (by kernel_rfl)) ?_
                clear m0 m1 m2 m3
                cases q with
                | false =>
                  go_wp2
                  exact FIN.out _ (b0, b1) (by rw [HBK.out, HLST.out]; unfold bestK; rw [if_pos (by simp [← HQ.out])]) F5.out.b F5.out.o F5.out.u F5.out.bw
                | true =>
                  have HBQ := Aside0.mk (show bestTo nodes (needB nodes [root]) (L.take m).getLast? (j.toNat + 1) = if b0 < 0 ∨ keyLt (kv, kd) (b0, b1) = true then (kv, kd) else (b0, b1) by rw [HBK.out, HLST.out]; unfold bestK; rw [if_neg (by simp [← HQ.out])])
                  clear HBK
                  have zb0 := (blk_cell F5.out.b 0).trans (show _ = some (.int .i64 b0) from rfl)
                  have zb1 := (blk_cell F5.out.b 1).trans (show _ = some (.int .i64 b1) from rfl)
                  have zk0 := (blk_cell F5.out.k 0).trans (show _ = some (.int .i64 kv) from rfl)
                  have zk1 := (blk_cell F5.out.k 1).trans (show _ = some (.int .i64 kd) from rfl)
                  by_cases hb0 : b0 < 0
                  · have HB0n := Aside0.mk hb0
                    replace hb0 := eq_true hb0
                    go_wp2_with (with_reducible refine gate_store 32 ?_; refine ev_store_at (g := gB) (o := 0) (t0 := 32) (c' := #[.int .i64 kv, .int .i64 kd]) (cur := #[.int .i64 b0, .int .i64 b1]) (cur' := #[.int .i64 kv, .int .i64 kd]) rfl rfl F5.out.b (by kernel_rfl) (by simp) (by kernel_rfl) (by kernel_rfl) ?_; intro w10 hx10 ho10; clear zb0 zb1 zk0 zk1)
                    exact FIN.out _ (kv, kd) (by rw [HBQ.out, if_pos (.inl HB0n.out)]) hx10 (Kd.R_step F5.out.o (fun k hk _ => ho10.other k (by omega))) (Kd.R_other3 F5.out.u F5.out.b ho10) (F5.out.bw.trans (ho10.below HGW.out))
                  · have HB0n := Aside0.mk hb0
                    have hb0' := eq_false hb0
                    have hls2 : ∀ W, Calls Try.prog 31 #[.agg #[.int .i64 kv, .int .i64 kd], .agg #[.int .i64 b0, .int .i64 b1]] W fun e w' => e = .returned (.bool (keyLt (kv, kd) (b0, b1))) ∧ Below W.heap.size W w' := fun W => less31 kv kd b0 b1 W
                    obtain ⟨q2, hq2⟩ : ∃ q2, q2 = keyLt (kv, kd) (b0, b1) := ⟨_, rfl⟩
                    rw [← hq2] at hls2
                    have HQ2 := Aside0.mk hq2
                    have HLS2 := Aside0.mk hls2
                    clear hls2 hq2 hb0
                    cases q2 with
                    | true =>
                      go_wp2_with (first | (go_at_call 31; refine (HLS2.out _).mono ?_; rintro e w9 ⟨rfl, hd⟩; have F9 := Aside0.mk (F5.out.step hd); clear hd zb0 zb1 zk0 zk1; have zk0 := (blk_cell F9.out.k 0).trans (show _ = some (.int .i64 kv) from rfl); have zk1 := (blk_cell F9.out.k 1).trans (show _ = some (.int .i64 kd) from rfl)) | (with_reducible refine gate_store 32 ?_; refine ev_store_at (g := gB) (o := 0) (t0 := 32) (c' := #[.int .i64 kv, .int .i64 kd]) (cur := #[.int .i64 b0, .int .i64 b1]) (cur' := #[.int .i64 kv, .int .i64 kd]) rfl rfl F9.out.b (by kernel_rfl) (by simp) (by kernel_rfl) (by kernel_rfl) ?_; intro w10 hx10 ho10; clear zk0 zk1))
                      exact FIN.out _ (kv, kd) (by rw [HBQ.out, if_pos (.inr HQ2.out.symm)]) hx10 (Kd.R_step F9.out.o (fun k hk _ => ho10.other k (by omega))) (Kd.R_other3 F9.out.u F9.out.b ho10) (F9.out.bw.trans (ho10.below HGW.out))
                    | false =>
                      go_wp2_with (go_at_call 31; refine (HLS2.out _).mono ?_; rintro e w9 ⟨rfl, hd⟩; have F9 := Aside0.mk (F5.out.step hd); clear hd zb0 zb1 zk0 zk1)
                      exact FIN.out _ (b0, b1) (by rw [HBQ.out, if_neg (fun h => h.elim (fun h => by have := HB0n.out; omega) (fun h => by rw [← HQ2.out] at h; cases h))]) F9.out.b F9.out.o F9.out.u F9.out.bw
            · go_wp2_with (first | (with_reducible refine gate_load 37 ?_; refine ev_load (t := 37) (cs := [.int .i64 kk, .int .i64 x.f1, .int .i64 x.f2, .int .i64 x.f3, .int .i64 x.f4.f0, .int .i64 x.f4.f1, .int .i64 kv, .int .i64 kd, .int .i64 x.f6.f0.f0.f0, .int .i64 x.f6.f0.f0.f1, .int .i64 x.f6.f0.f1.f0, .int .i64 x.f6.f0.f1.f1, .int .i64 x.f6.f0.f2.f0, .int .i64 x.f6.f0.f2.f1, .int .i64 x.f6.f0.f3.f0, .int .i64 x.f6.f0.f3.f1, .int .i64 x.f6.f0.f4.f0, .int .i64 x.f6.f0.f4.f1, .int .i64 x.f6.f0.f5.f0, .int .i64 x.f6.f0.f5.f1, .int .i64 x.f6.f0.f6.f0, .int .i64 x.f6.f0.f6.f1]) rfl (by kernel_rfl) (by kernel_rfl) HLD.out ?_) | (with_reducible refine gate_store 37 ?_; refine ev_store (t := 37) (c' := #[.int .i64 kk, .int .i64 x.f1, .int .i64 x.f2, .int .i64 x.f3, .int .i64 x.f4.f0, .int .i64 x.f4.f1, .int .i64 kv, .int .i64 kd, .int .i64 x.f6.f0.f0.f0, .int .i64 x.f6.f0.f0.f1, .int .i64 x.f6.f0.f1.f0, .int .i64 x.f6.f0.f1.f1, .int .i64 x.f6.f0.f2.f0, .int .i64 x.f6.f0.f2.f1, .int .i64 x.f6.f0.f3.f0, .int .i64 x.f6.f0.f3.f1, .int .i64 x.f6.f0.f4.f0, .int .i64 x.f6.f0.f4.f1, .int .i64 x.f6.f0.f5.f0, .int .i64 x.f6.f0.f5.f1, .int .i64 x.f6.f0.f6.f0, .int .i64 x.f6.f0.f6.f1]) rfl rfl (by kernel_rfl) rfl (by kernel_rfl) ?_; intro w7 hx7 hd7 hl7; have HN := Aside0.mk hx7; have HX7 := Aside0.mk (blk_below HX.out hd7); have HL7 := Aside0.mk (Kd.R_below HL.out hd7); have HO7 := Aside0.mk (Kd.R_below HO.out hd7); have HB7 := Aside0.mk (below_step HB.out hd7); have hxu7 := (hd7.cell (World.block_lt_of_cell? _ _ hxu')).trans hxu'; clear hx7 hd7 hl7 HX HL HO HB hxu hxu' HLD; have z0 := (blk_cell HN.out 0).trans (show _ = some (.int .i64 kk) from rfl); have z6 := (blk_cell HN.out 6).trans (show _ = some (.int .i64 kv) from rfl); have z7 := (blk_cell HN.out 7).trans (show _ = some (.int .i64 kd) from rfl)))
              exact FIN.out _ (b0, b1) (by rw [HBTT.out, if_neg (by simp [hk2])]) HX7.out HL7.out HO7.out HB7.out
        · obtain rfl : j = (nodes.length : Int) := by omega
          rw [Int.toNat_natCast, HBEST.out] at HX
          clear j0 j1 hlt hbt
          rcases Nat.lt_or_ge m L.length with hml | hml
          · rw [List.getElem?_eq_getElem hml, Option.getD_some] at HX
            have hnn := HNN.out _ (List.getElem_mem hml)
            have htk : L.take (m + 1) = L.take m ++ [L[m]] := List.take_succ_eq_append_getElem hml
            generalize L[m] = b at HX hnn htk
            obtain ⟨b0, b1⟩ := b
            dsimp only at HX hnn
            have zb0 := (blk_cell HX.out 0).trans (show _ = some (.int .i64 b0) from rfl)
            have zb1 := (blk_cell HX.out 1).trans (show _ = some (.int .i64 b1) from rfl)
            have d0 := eq_false (show ¬ b0 < 0 by omega)
            have HTK := Aside0.mk htk
            have HML2 := Aside0.mk hml
            have HLN := Aside0.mk (show ((L.take m).map toS).length ≤ 4000 by rw [HTL.out]; have := HML.out; have := HUL.out; have := HLEN.out; omega)
            have HL' := Aside0.mk (Kd.R_mono HL.out (ok' := fun _ => True) (fun _ _ => trivial))
            clear HL hnn htk hml
            have HL := HL'
            clear HL'
            generalize hl : (L.take m).map toS = l at HL HLN
            have HLL := Aside0.mk hl
            clear hl
            generalize hvs : (Value.slice Ax m cx) = vs at HL ⊢
            have HVS := Aside0.mk hvs
            clear hvs
            go_wp2_with ((with_reducible refine gate_builtin (b := .append) (xs := #[.tmp 70, .tmp 72]) rfl ?_); at_builtin; refine Kd.R_append k32 (w0 := w) w.heap.size rfl (.tmp 70) (.tmp 72) 40 32 (.agg #[(.int .i64 0), (.int .i64 0)]) 16 rfl Try.underlying40 info32 rfl (by decide) (by omega) _ l (⟨b0, b1⟩ : S32) [.int .i64 b0, .int .i64 b1] (fun _ => True) (fun _ => False) rfl rfl ?aP (fun _ hk => hk.elim) ?aF ?aO ?aB ?aS ?aL ?_; (case aP => exact k32_mkM _ _ _ (⟨b0, b1⟩ : S32)); (case aB => exact HB.out); (case aF => exact fun _ _ => trivial); (case aO => exact HL.out); (case aS => exact below_size HB.out); (case aL => have := HLN.out; omega); intro v1 w1 ho hb hg hat; have HO1 := Aside0.mk (Kd.R_over HO.out HL.out (by decide) hg); have HB1 := Aside0.mk hb; have HL1 := Aside0.mk ho; clear ho hb hg hat HO HB HL)
            have hlen : lenV v1 = m + 1 := by
              obtain ⟨Ay, cy, ey⟩ := Kd.R_slice HL1.out
              rw [ey]
              have := HTL.out
              rw [HLL.out] at this
              simp [lenV, this]
            have HLV := Aside0.mk hlen
            clear hlen zb0 zb1 d0
            go_wp2
            refine ⟨⟨m + 1, by have := HML2.out; omega, ?_, HO1, HB1⟩, ?_⟩
            · rw [HTK.out, List.map_append, HLL.out]; exact HL1
            · rw [HLV.out]; have := HML2.out; simp only [lenV]; omega
          · obtain rfl : m = L.length := by have := HML.out; omega
            rw [List.getElem?_eq_none (Nat.le_refl _)] at HX
            have zb0 := (blk_cell HX.out 0).trans (show _ = some (.int .i64 (-1)) from rfl)
            go_wp2
            refine bodyPost_ret (results_tmp2 rfl _ _ _) rfl ?_
            have hr := (Kd.R_reads' HL.out)
            rw [List.take_length] at hr
            have h3 := hr.2.2
            rw [List.length_map] at h3
            exact ⟨Ax, cx, rfl, h3, hr.2.1, HB.out⟩
end Go.Proofs.Ytoonahobmlnflaa.PC
namespace Go.Proofs.Ytoonahobmlnflaa.PC
open Go.ChangeShapes Go.WideShapes Go.ChangeAt Go.RowKit Go.Deep
open Go.Proofs.YtoonahobmlnflaaW.PrintWords Go.Proofs.YtoonahobmlnflaaW.PrintLast Go.Proofs.YtoonahobmlnflaaW.PrintMore
set_option linter.unusedVariables false
theorem ownK : ownKnob Try.prog.godebug = none := by kernel_rfl
theorem laidOutK : laidOutB Try.prog = true := by kernel_rfl
theorem I64_of_wf {n : Int} (h : (Lit.int .i64 n).wf = true) : I64 n := by
  unfold Lit.wf at h
  rw [Bool.and_eq_true] at h
  exact ⟨of_decide_eq_true h.1, of_decide_eq_true h.2⟩
section
variable {H : Type} {enc : TypeId × Value → H} {W : World} {base : Nat} {spare : Nat → Bool} {held : Bool}
theorem C_none {α : Type} (d : Kd α) (W : World) : Kd.C d W none 0 [] := ⟨rfl, by omega, fun h => absurd h (by omega)⟩
theorem cut {α : Type} (cs : List α) (a b : Nat) : cs.drop a = (cs.drop a).take b ++ cs.drop (a + b) := by
  rw [← List.drop_drop, List.take_append_drop]
/-- A slice of ints that came in. -/
theorem open_ints_C {a : Option Addr} {len cap : Nat} {d : DataW H} {ps : List MemPlace} (h : DataW.Trod enc Try.prog W base spare held 23 (.slice a len cap) d ps) :
    ∃ l : List Int, l.length = len ∧ len ≤ cap ∧ Kd.C (Kd.int .i64) W a len l ∧ (∀ x ∈ l, I64 x) := by
  obtain ⟨fuel, hf⟩ := h
  rcases open_ints Try.underlying23 Try.underlying3 (by kernel_rfl) hf with ⟨hcs, _⟩ | ⟨x, l, c, zs, hcs, _, hl, hm, hz, _, hcell, hwz⟩
  · simp [Value.cells] at hcs
    obtain ⟨rfl, rfl, rfl⟩ := hcs
    exact ⟨[], rfl, Nat.le_refl _, C_none _ _, fun x hx => by cases hx⟩
  · simp [Value.cells] at hcs
    obtain ⟨rfl, rfl, rfl⟩ := hcs
    have hlz : len ≤ zs.length := by
      rw [hz]
      split
      · exact hl
      · exact Nat.le_refl _
    have hm' : len ≤ 9223372036854775807 := by unfold maxLen at hm; omega
    refine ⟨zs.take len, by rw [List.length_take]; omega, hl, ⟨by rw [List.length_take]; omega, hm', fun _ => ⟨x, rfl, fun j p hj => ?_⟩⟩, fun y hy => I64_of_wf (hwz y (List.mem_of_mem_take hy))⟩
    refine ⟨[.int .i64 p], rfl, rfl, fun i u hu => ?_⟩
    have hi : i = 0 := by
      have := (List.getElem?_eq_some_iff.1 hu).1
      simpa using this
    subst hi
    have hjl : j < len := by
      have := (List.getElem?_eq_some_iff.1 hj).1
      rw [List.length_take] at this; omega
    have hju : u = .int .i64 p := by simpa using hu.symm
    subst hju
    show W.cell? (x.add (j * 1 + 0)) = _
    rw [Nat.mul_one, Nat.add_zero, hcell j (by omega)]
    rw [List.getElem?_take_of_lt hjl] at hj
    rw [List.getD_eq_getElem?_getD, hj]; rfl
/-- One number, at its place. -/
theorem piece_int {t : TypeId} {n : Nat} {cs : List Value} {r : DataW H × List MemPlace} (ht : Try.prog.underlying t = some (.int .i64)) (h : DataW.trod enc Try.prog W base spare held n t cs = some r) : ∃ z : Int, I64 z ∧ cs = [.int .i64 z] := by
  obtain ⟨z, hz, _, hw⟩ := DataW.trod_int ht h
  exact ⟨z, I64_of_wf hw, hz⟩
theorem field_of {n : Nat} {fs : Array Field} {cs : List Value} {xs : List (DataW H × List MemPlace)} (hf : ∀ (i : Nat) (f : Field), fs[i]? = some f → DataW.trod enc Try.prog W base spare held n f.type ((cs.drop f.offset).take (Try.prog.cellsOf f.type)) = xs[i]?)
    (i t o z : Nat) (hi : (fs[i]?).map (fun f => (f.type, f.offset)) = some (t, o)) (hz : Try.prog.cellsOf t = z) (hl : i < xs.length) : DataW.trod enc Try.prog W base spare held n t ((cs.drop o).take z) = some (xs[i]'hl) := by
  obtain ⟨f, hf1, hf2⟩ := Option.map_eq_some_iff.1 hi
  simp only [Prod.mk.injEq] at hf2
  obtain ⟨rfl, rfl⟩ := hf2
  subst hz
  rw [hf i f hf1, List.getElem?_eq_getElem hl]
theorem trod_rat {n : Nat} {cs : List Value} {r : DataW H × List MemPlace} (h : DataW.trod enc Try.prog W base spare held n 30 cs = some r) : ∃ a b : Int, I64 a ∧ I64 b ∧ cs = [.int .i64 a, .int .i64 b] := by
  obtain ⟨ys, m, _, _, hl, hys, hf⟩ := DataW.trod_struct Try.underlying30 h
  have h0 := field_of hf 0 2 0 1 rfl (by kernel_rfl) (by rw [hys]; decide)
  have h1 := field_of hf 1 2 1 1 rfl (by kernel_rfl) (by rw [hys]; decide)
  obtain ⟨a, ia, ea⟩ := piece_int Try.underlying2 h0
  obtain ⟨b, ib, eb⟩ := piece_int Try.underlying2 h1
  refine ⟨a, b, ia, ib, ?_⟩
  have hl' : cs.length = 2 := hl.trans (by kernel_rfl)
  have e := cut cs 0 1
  rw [ea, cut cs (0 + 1) 1, eb, show List.drop (0 + 1 + 1) cs = [] from List.drop_eq_nil_of_le (by omega)] at e
  exact e
theorem trod_key {n : Nat} {cs : List Value} {r : DataW H × List MemPlace} (h : DataW.trod enc Try.prog W base spare held n 32 cs = some r) : ∃ a b : Int, I64 a ∧ I64 b ∧ cs = [.int .i64 a, .int .i64 b] := by
  obtain ⟨ys, m, _, _, hl, hys, hf⟩ := DataW.trod_struct Try.underlying32 h
  have h0 := field_of hf 0 3 0 1 rfl (by kernel_rfl) (by rw [hys]; decide)
  have h1 := field_of hf 1 3 1 1 rfl (by kernel_rfl) (by rw [hys]; decide)
  obtain ⟨a, ia, ea⟩ := piece_int Try.underlying3 h0
  obtain ⟨b, ib, eb⟩ := piece_int Try.underlying3 h1
  refine ⟨a, b, ia, ib, ?_⟩
  have hl' : cs.length = 2 := hl.trans (by kernel_rfl)
  have e := cut cs 0 1
  rw [ea, cut cs (0 + 1) 1, eb, show List.drop (0 + 1 + 1) cs = [] from List.drop_eq_nil_of_le (by omega)] at e
  exact e
theorem trod_dim {n : Nat} {cs : List Value} {r : DataW H × List MemPlace} (h : DataW.trod enc Try.prog W base spare held n 35 cs = some r) : ∃ e0 e1 e2 e3 e4 e5 e6 e7 e8 e9 e10 e11 e12 e13 : Int,
    (I64 e0 ∧ I64 e1 ∧ I64 e2 ∧ I64 e3 ∧ I64 e4 ∧ I64 e5 ∧ I64 e6 ∧ I64 e7 ∧ I64 e8 ∧ I64 e9 ∧ I64 e10 ∧ I64 e11 ∧ I64 e12 ∧ I64 e13) ∧
    cs = [.int .i64 e0, .int .i64 e1, .int .i64 e2, .int .i64 e3, .int .i64 e4, .int .i64 e5, .int .i64 e6, .int .i64 e7, .int .i64 e8, .int .i64 e9, .int .i64 e10, .int .i64 e11, .int .i64 e12, .int .i64 e13] := by
  obtain ⟨ys, m, _, _, hl, hys, hf⟩ := DataW.trod_struct Try.underlying35 h
  have hl' : cs.length = 14 := hl.trans (by kernel_rfl)
  have h0 := field_of hf 0 33 0 14 rfl (by kernel_rfl) (by rw [hys]; decide)
  rw [List.drop_zero, List.take_of_length_le (by omega)] at h0
  obtain ⟨zs, m', _, _, _, hzs, hz⟩ := DataW.trod_array Try.underlying33 h0
  rw [show Try.prog.cellsOf 30 = 2 by kernel_rfl] at hz
  have key : ∀ i, i < 7 → ∃ a b : Int, I64 a ∧ I64 b ∧ (cs.drop (i * 2)).take 2 = [.int .i64 a, .int .i64 b] := fun i hi => by
    have h1 := hz i hi
    rw [List.getElem?_eq_getElem (by rw [hzs]; exact hi)] at h1
    exact trod_rat h1
  obtain ⟨a0, b0, i0, j0, p0⟩ := key 0 (by omega)
  obtain ⟨a1, b1, i1, j1, p1⟩ := key 1 (by omega)
  obtain ⟨a2, b2, i2, j2, p2⟩ := key 2 (by omega)
  obtain ⟨a3, b3, i3, j3, p3⟩ := key 3 (by omega)
  obtain ⟨a4, b4, i4, j4, p4⟩ := key 4 (by omega)
  obtain ⟨a5, b5, i5, j5, p5⟩ := key 5 (by omega)
  obtain ⟨a6, b6, i6, j6, p6⟩ := key 6 (by omega)
  refine ⟨a0, b0, a1, b1, a2, b2, a3, b3, a4, b4, a5, b5, a6, b6, ⟨i0, j0, i1, j1, i2, j2, i3, j3, i4, j4, i5, j5, i6, j6⟩, ?_⟩
  have e := cut cs (0 * 2) 2
  rw [p0, show 0 * 2 + 2 = 1 * 2 by rfl, cut cs (1 * 2) 2, p1, show 1 * 2 + 2 = 2 * 2 by rfl, cut cs (2 * 2) 2, p2, show 2 * 2 + 2 = 3 * 2 by rfl, cut cs (3 * 2) 2, p3, show 3 * 2 + 2 = 4 * 2 by rfl, cut cs (4 * 2) 2, p4, show 4 * 2 + 2 = 5 * 2 by rfl, cut cs (5 * 2) 2, p5, show 5 * 2 + 2 = 6 * 2 by rfl, cut cs (6 * 2) 2, p6, show List.drop (6 * 2 + 2) cs = [] from List.drop_eq_nil_of_le (by omega)] at e
  exact e
theorem trod_node {n : Nat} {cs : List Value} {r : DataW H × List MemPlace} (h : DataW.trod enc Try.prog W base spare held n 37 cs = some r) : ∃ x : S37, cs = nodeL x ∧ NodeI x ∧ (I64 x.f0 ∧ I64 x.f1 ∧ I64 x.f2 ∧ I64 x.f3 ∧ I64 x.f5.f0 ∧ I64 x.f5.f1) := by
  obtain ⟨ys, m, _, _, hl, hys, hf⟩ := DataW.trod_struct Try.underlying37 h
  have hl' : cs.length = 22 := hl.trans (by kernel_rfl)
  have h0 := field_of hf 0 3 0 1 rfl (by kernel_rfl) (by rw [hys]; decide)
  have h1 := field_of hf 1 3 1 1 rfl (by kernel_rfl) (by rw [hys]; decide)
  have h2 := field_of hf 2 3 2 1 rfl (by kernel_rfl) (by rw [hys]; decide)
  have h3 := field_of hf 3 3 3 1 rfl (by kernel_rfl) (by rw [hys]; decide)
  have h4 := field_of hf 4 30 4 2 rfl (by kernel_rfl) (by rw [hys]; decide)
  have h5 := field_of hf 5 32 6 2 rfl (by kernel_rfl) (by rw [hys]; decide)
  have h6 := field_of hf 6 35 8 14 rfl (by kernel_rfl) (by rw [hys]; decide)
  obtain ⟨k, i0, p0⟩ := piece_int Try.underlying3 h0
  obtain ⟨a, i1, p1⟩ := piece_int Try.underlying3 h1
  obtain ⟨b, i2, p2⟩ := piece_int Try.underlying3 h2
  obtain ⟨c, i3, p3⟩ := piece_int Try.underlying3 h3
  obtain ⟨q0, q1, i4, j4, p4⟩ := trod_rat h4
  obtain ⟨v0, v1, i5, j5, p5⟩ := trod_key h5
  obtain ⟨e0, e1, e2, e3, e4, e5, e6, e7, e8, e9, e10, e11, e12, e13, ⟨w0, w1, w2, w3, w4, w5, w6, w7, w8, w9, w10, w11, w12, w13⟩, p6⟩ := trod_dim h6
  refine ⟨⟨k, a, b, c, ⟨q0, q1⟩, ⟨v0, v1⟩, ⟨⟨⟨e0, e1⟩, ⟨e2, e3⟩, ⟨e4, e5⟩, ⟨e6, e7⟩, ⟨e8, e9⟩, ⟨e10, e11⟩, ⟨e12, e13⟩⟩⟩⟩, ?_, ⟨i4, j4, w0, w1, w2, w3, w4, w5, w6, w7, w8, w9, w10, w11, w12, w13⟩, ⟨i0, i1, i2, i3, i5, j5⟩⟩
  have e := cut cs 0 1
  change _ = List.take 1 (List.drop 0 cs) ++ _ at e
  rw [p0, cut cs (0 + 1) 1] at e
  rw [p1, cut cs (0 + 1 + 1) 1] at e
  rw [p2, cut cs (0 + 1 + 1 + 1) 1] at e
  rw [p3, cut cs (0 + 1 + 1 + 1 + 1) 2] at e
  rw [p4, cut cs (0 + 1 + 1 + 1 + 1 + 2) 2] at e
  rw [p5, cut cs (0 + 1 + 1 + 1 + 1 + 2 + 2) 14] at e
  rw [p6, show List.drop (0 + 1 + 1 + 1 + 1 + 2 + 2 + 14) cs = [] from List.drop_eq_nil_of_le (by omega)] at e
  exact e
/-- A slice of nodes that came in. -/
theorem open_nodes_C {a : Option Addr} {len cap : Nat} {d : DataW H} {ps : List MemPlace} (h : DataW.Trod enc Try.prog W base spare held 22 (.slice a len cap) d ps) :
    ∃ l : List S37, l.length = len ∧ len ≤ cap ∧ Kd.C k37 W a len l ∧ (∀ x ∈ l, NodeI x) ∧ (∀ x ∈ l, I64 x.f0 ∧ I64 x.f1 ∧ I64 x.f2 ∧ I64 x.f3 ∧ I64 x.f5.f0 ∧ I64 x.f5.f1) := by
  obtain ⟨fuel, hf⟩ := h
  have hC : Try.prog.cellsOf 37 = 22 := by kernel_rfl
  rcases open_slice Try.underlying22 hf with ⟨hcs, _⟩ | ⟨x, l, c, m, n, D, Pl, hcs, _, hl, hm, hmm, _, hel⟩
  · simp [Value.cells] at hcs
    obtain ⟨rfl, rfl, rfl⟩ := hcs
    exact ⟨[], rfl, Nat.le_refl _, C_none _ _, (fun x hx => by cases hx), fun x hx => by cases hx⟩
  · simp [Value.cells] at hcs
    obtain ⟨rfl, rfl, rfl⟩ := hcs
    have hlm : len ≤ m := by
      rw [hmm]
      split
      · exact hl
      · exact Nat.le_refl _
    have key : ∀ i, i < len → ∃ e : S37, (NodeI e ∧ (I64 e.f0 ∧ I64 e.f1 ∧ I64 e.f2 ∧ I64 e.f3 ∧ I64 e.f5.f0 ∧ I64 e.f5.f1)) ∧ ∀ j, j < 22 → W.cell? (x.add (i * 22 + j)) = (nodeL e)[j]? := by
      intro i hi
      obtain ⟨cs', hc, ht⟩ := hel i (by omega)
      rw [hC] at hc
      obtain ⟨_, hlen, hcell⟩ := World.cells?_some hc
      obtain ⟨e, he, h1, h2⟩ := trod_node ht
      refine ⟨e, ⟨h1, h2⟩, fun j hj => ?_⟩
      rw [← Go.Deep.add_add, hcell j hj, he]
    haveI : Inhabited S37 := ⟨z37⟩
    obtain ⟨f, hfk⟩ := choose_lt key
    have hm' : len ≤ 9223372036854775807 := by unfold maxLen at hm; omega
    refine ⟨(List.range len).map f, by simp, hl, ⟨by simp, hm', fun _ => ⟨x, rfl, fun j p hj => ?_⟩⟩, fun e he => ?_, fun e he => ?_⟩
    · obtain ⟨hjl, hp⟩ := List.getElem?_eq_some_iff.1 hj
      have hjl' : j < len := by simpa using hjl
      have hp' : f j = p := by simpa using hp
      subst hp'
      obtain ⟨_, c0⟩ := hfk j hjl'
      refine ⟨nodeL (f j), rfl, k37_mk W (f j), fun i u hu => ?_⟩
      show W.cell? (x.add (j * 22 + i)) = _
      have hi : i < 22 := by simpa using (List.getElem?_eq_some_iff.1 hu).1
      rw [c0 i hi]
      exact hu
    · obtain ⟨j, hj, rfl⟩ := List.mem_map.1 he
      exact (hfk j (List.mem_range.1 hj)).1.1
    · obtain ⟨j, hj, rfl⟩ := List.mem_map.1 he
      exact (hfk j (List.mem_range.1 hj)).1.2
end
end Go.Proofs.Ytoonahobmlnflaa.PC
namespace Go.Proofs.Ytoonahobmlnflaa.PC
open Go.RowKit Go.Shelf Go.Proofs.YtoonahobmlnflaaW.PrintWords Go.Proofs.YtoonahobmlnflaaW.PrintLast Go.Proofs.YtoonahobmlnflaaW.PrintMore
set_option linter.unusedVariables false
set_option linter.unusedSimpArgs false
open Go.Lib
attribute [local go_sem high] eql32 neq32
def lu4.T10 : Bool × List (List Nat × List Nat) := (true, [([], []), ([], []), ([0, 1], [0, 1]), ([2], [2]), ([], []), ([], []), ([4, 5], [4, 5]), ([6], [6]), ([3, 7], [3, 7])])
def lu4.B10 : List Nat := [0, 0, 3, 7, 0, 0, 48, 112, 255]
theorem lu4.tab10 : rtab .any (opsOf Try.f4 10) = lu4.T10 := by kernel_rfl
theorem lu4.bits10 : waitsOk lu4.T10.2 lu4.B10 = true := by kernel_rfl
theorem eqK_refl (x : Int × Int) : eqK x x = true := by unfold eqK; exact decide_eq_true rfl
set_option maxHeartbeats 4000000 in
set_option maxRecDepth 100000 in
theorem law4 (nodes : List S37) (root : Int) (A : Option Addr) (c : Nat) (w : World) (hC : Kd.C k37 w A nodes.length nodes) (hc : nodes.length ≤ c) (hI : ∀ x ∈ nodes, NodeI x) :
    Calls Try.prog 4 #[.slice A nodes.length c, .int .i64 root] w fun e w' => e = .returned (.bool true) ∧ Below w.heap.size w w' := by
  have hgt : Try.prog.eqGuardType Try.prog.depth 32 = false := by kernel_rfl
  have hm := Kd.C_max hC
  have HC := Aside0.mk hC
  have HI := Aside0.mk hI
  have HB0 := Aside0.mk (Below.refl w.heap.size w)
  have HLL := Aside0.mk (show (usesL nodes root).length ≤ nodes.length by
      unfold usesL
      split
      · unfold compactUpTo
        rw [List.length_map]
        refine Nat.le_trans (List.length_filter_le _ _) ?_
        have := usedTo_len nodes (needB nodes [root]) nodes.length
        simp
        exact this
      · exact Nat.zero_le _)
  clear hC hI
  have HU1 := Aside0.mk (uses12 nodes root A c w HC.out hc HI.out)
  have HU2 := Aside0.mk (fun W hW => uses13 nodes root A c W (Kd.C_below HC.out hW) hc HI.out)
  generalize usesL nodes root = L at HU1 HU2 HLL
  generalize chkE nodes [root] = ek at HU1 HU2
  go_enter Try.func4, Try.ntmps4
  by_cases h4 : (400 : Int) < (nodes.length : Int)
  · clear HU1 HU2
    go_wp2
    go_ret
    exact ⟨rfl, HB0.out⟩
  · go_wp2_with (first | (go_at_call 12; refine HU1.out.mono ?_; rintro e w2 ⟨A', c', rfl, hca, hla, hd⟩; have HCA := Aside0.mk hca; have HB2 := Aside0.mk hd; clear hca hla hd HU1 HB0) | (go_at_call 13; refine (HU2.out w2 HB2.out).mono ?_; rintro e w3 ⟨A2, c2, rfl, hcb, hlb, hd⟩; have HCB := Aside0.mk hcb; have HCA3 := Aside0.mk (Kd.C_below HCA.out hd); have HB3 := Aside0.mk (below_step HB2.out hd); clear hcb hlb hd HU2 HB2 HCA))
    go_loopw [37] (fun i wr => ∃ j : Int, 0 ≤ j ∧ j ≤ (L.length : Int) ∧ i = .int .i64 j ∧ Aside0 (Kd.C k32 wr A' L.length (L.map toS)) ∧ Aside0 (Kd.C k32 wr A2 L.length (L.map toS)) ∧ Aside0 (Below w.heap.size w wr)) (fun i _ => L.length - (intOf i).toNat)
    case atStart => exact ⟨0, Int.le_refl _, by omega, rfl, HCA3, HCB, HB3⟩
    case round =>
      obtain ⟨j, j0, j1, rfl, HA, HBB, HB⟩ := hrel
      clear HCA3 HCB HB3
      by_cases hlt : j < (L.length : Int)
      · have HA' := Aside0.mk (Kd.C_below HA.out (below_drew (Below.refl _ _)))
        have HBB' := Aside0.mk (Kd.C_below HBB.out (below_drew (Below.refl _ _)))
        have HB' := Aside0.mk (below_drew1 HB.out)
        obtain ⟨ada, eada, ya0, ya1⟩ := at_T32 HA'.out j j0 hlt
        obtain ⟨adb, eadb, yb0, yb1⟩ := at_T32 HBB'.out j j0 hlt
        subst eada
        subst eadb
        generalize rd_T32 (L.map toS) j = x at ya0 ya1 yb0 yb1
        obtain ⟨x0, x1⟩ := x
        dsimp only at ya0 ya1 yb0 yb1
        have HW := Aside0.mk (show wrap64 (j + 1) = j + 1 by unfold wrap64; have := HLL.out; omega)
        have HLT := Aside0.mk hlt
        have HJ := Aside0.mk j0
        replace j0 := eq_true j0
        replace hlt := eq_true hlt
        have hee := eqK_refl (x0, x1)
        clear HA HBB HB
        go_wp2
        refine start_ (n := 9) (S := fun w' => w'.cell? (ada.add (j.toNat * 2)) = some (.int .i64 x0) ∧ w'.cell? ⟨(ada.add (j.toNat * 2)).block, (ada.add (j.toNat * 2)).off + 1, none⟩ = some (.int .i64 x1) ∧ w'.cell? (adb.add (j.toNat * 2)) = some (.int .i64 x0) ∧ w'.cell? ⟨(adb.add (j.toNat * 2)).block, (adb.add (j.toNat * 2)).off + 1, none⟩ = some (.int .i64 x1)) (ds := []) (msk 9 0) (by kernel_rfl) rfl rfl ⟨ya0, ya1, yb0, yb1⟩ (fun hHeld => ?_); refine with_tabW lu4.tab10 lu4.bits10 (fun HT_ HW_ => ?_)
        refine pu_ 0 40 (msk 9 1) HT_.out ?_ ?_ ?_ ?_ ?_
        rotate_left
        · intro w'; go_simp; with_reducible rfl
        rotate_left
        · simp only [Act.put, sq, i64_w, i32_w]; rfl
        refine pu_ 1 41 (msk 9 3) HT_.out ?_ ?_ ?_ ?_ ?_
        rotate_left
        · intro w'; go_simp; with_reducible rfl
        rotate_left
        · simp only [Act.put, sq, i64_w, i32_w]; rfl
        refine pu_ 2 42 (msk 9 7) HT_.out ?_ ?_ ?_ ?_ ?_
        rotate_left
        · intro w'; go_simp; with_reducible rfl
        rotate_left
        · simp only [Act.put, sq, i64_w, i32_w]; rfl
        refine tk_ 3 43 (msk 9 15) HT_.out HW_.out hHeld ?_ ?_ ?_ ?_ ?_
        rotate_left
        · rintro w' ⟨s0, s1, s2, s3⟩; go_simp; with_reducible rfl
        rotate_left
        · simp only [Act.put, sq, i64_w, i32_w]; rfl
        refine pu_ 4 44 (msk 9 31) HT_.out ?_ ?_ ?_ ?_ ?_
        rotate_left
        · intro w'; go_simp; with_reducible rfl
        rotate_left
        · simp only [Act.put, sq, i64_w, i32_w]; rfl
        refine pu_ 5 45 (msk 9 63) HT_.out ?_ ?_ ?_ ?_ ?_
        rotate_left
        · intro w'; go_simp; with_reducible rfl
        rotate_left
        · simp only [Act.put, sq, i64_w, i32_w]; rfl
        refine pu_ 6 46 (msk 9 127) HT_.out ?_ ?_ ?_ ?_ ?_
        rotate_left
        · intro w'; go_simp; with_reducible rfl
        rotate_left
        · simp only [Act.put, sq, i64_w, i32_w]; rfl
        refine tk_ 7 47 (msk 9 255) HT_.out HW_.out hHeld ?_ ?_ ?_ ?_ ?_
        rotate_left
        · rintro w' ⟨s0, s1, s2, s3⟩; go_simp; with_reducible rfl
        rotate_left
        · simp only [Act.put, sq, i64_w, i32_w]; rfl
        refine pu_ 8 48 (msk 9 511) HT_.out ?_ ?_ ?_ ?_ ?_
        rotate_left
        · intro w'; go_simp; with_reducible rfl
        rotate_left
        · simp only [Act.put, sq, i64_w, i32_w]; rfl
        refine done_ (done_of HT_.out (by kernel_rfl)) ?_
        generalize wr.drew = w5 at HA' HBB' HB' ⊢
        go_wp2
        have hj := HJ.out
        have hl := HLT.out
        rw [HW.out]
        exact ⟨⟨j + 1, by omega, by omega, rfl, HA', HBB', HB'⟩, by simp only [intOf]; omega⟩
      · obtain rfl : j = (L.length : Int) := by omega
        clear j0 j1 hlt
        go_wp2
        go_ret
        exact ⟨rfl, HB.out⟩
end Go.Proofs.Ytoonahobmlnflaa.PC
