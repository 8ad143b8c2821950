/- Several texts of this claim, one behind the other. -/
import Derived.Test.YtlaneafplmbcnaaGe
import Derived.Laws.EntriesVeiled
import Derived.Scope
import Derived.WalkMore
namespace Go.Proofs.Ytlaneafplmbcnaa.PO
open Go.RowKit Go.Proofs.YtlaneafplmbcnaaW.PrintWords Go.Proofs.YtlaneafplmbcnaaW.PrintLast Go.Proofs.YtlaneafplmbcnaaW.PrintMore
set_option linter.unusedVariables false
set_option linter.unusedSimpArgs false

def most.T7 : Bool × List (List Nat × List Nat) := (true, [([], []), ([], []), ([1], [1]), ([], []), ([], []), ([4], [4]), ([3, 5], [3, 5]), ([6], [6]), ([], []), ([8], [8]), ([9], [9]), ([7, 10], [7, 10]), ([0, 2, 0, 1, 2, 3, 4, 5, 6, 7, 8, 9, 10, 11], [0, 2]), ([12, 11, 11, 0, 1, 2, 3, 4, 5, 6, 7, 8, 9, 10, 11], [11, 12])])
def most.B7 : List Nat := [0, 0, 2, 0, 0, 16, 56, 120, 0, 256, 768, 2040, 4095, 8191]
theorem most.tab7 : rtab .any (opsOf Try.f27 7) = most.T7 := by kernel_rfl
theorem most.bits7 : waitsOk most.T7.2 most.B7 = true := by kernel_rfl
theorem blk_below {w w1 : World} {g : Nat} {o : Obj} (h : w.heap[g]? = some o) (hb : Below w.heap.size w w1) : w1.heap[g]? = some o := by
  have hl : g < w.heap.size := (Array.getElem?_eq_some_iff.1 h).1
  exact (hb.block g hl).trans h
theorem put_next (k m : Nat) (x y : Int) (h : k < m) : (List.replicate k x ++ List.replicate (m - k) y).set k x = List.replicate (k + 1) x ++ List.replicate (m - (k + 1)) y := by
  rw [List.set_append_right _ _ (by simp), List.length_replicate, Nat.sub_self, show m - k = (m - (k + 1)) + 1 by omega, List.replicate_succ, List.set_cons_zero, List.replicate_succ', List.append_assoc]
  rfl
theorem wrap64_small {n : Int} (h0 : -9223372036854775808 ≤ n) (h1 : n ≤ 9223372036854775807) : wrap64 n = n := by unfold wrap64; omega
theorem info52 : (Try.prog.info? 4).map (fun i => (i.zero, i.size, i.bytes)) = some (some (.bool false), 1, 1) := by kernel_rfl

set_option maxHeartbeats 2000000 in
set_option maxRecDepth 100000 in
theorem most_no (a0 : Int) (a1 : Int) (A2 : Option Addr) (c2 : Nat) (l2 : List (S33)) (w : World) (hr2 : Kd.C k33 w A2 l2.length l2) (hc2 : l2.length ≤ c2) (hb : rightB a0 a1 l2 = false) :
    Calls Try.prog 27 #[.int .i64 a0, .int .i64 a1, .slice A2 l2.length c2] w fun e w' => e = .returned (.tuple #[.slice none 0 0, .int .i64 170]) ∧ Below w.heap.size w w' := by
  have hri := match_right.calls a0 a1 A2 c2 l2 false w hr2 hc2 (by unfold match_right.f; rw [hb])
  have HRI := Aside0.mk hri
  clear hri hr2 hc2 hb
  go_enter Try.func27, Try.ntmps27
  go_wp2_with (go_at_call 24; refine HRI.out.mono ?_; rintro e w' ⟨rfl, hb'⟩)
  go_ret2
  exact ⟨rfl, hb'⟩

set_option maxHeartbeats 4000000 in
set_option maxRecDepth 100000 in
theorem most_yes (a0 : Int) (a1 : Int) (A2 : Option Addr) (c2 : Nat) (l2 : List (S33)) (w : World) (hr2 : Kd.C k33 w A2 l2.length l2) (hc2 : l2.length ≤ c2) (hb : rightB a0 a1 l2 = true) :
    Calls Try.prog 27 #[.int .i64 a0, .int .i64 a1, .slice A2 l2.length c2] w fun e w' => ∃ v0_ : Value, e = .returned (.tuple #[v0_, .int .i64 0]) ∧ Kd.R (Kd.int .i64) 3 w' w.heap.size (fun _ => True) v0_ (mostL a0.toNat a1.toNat l2) ∧ Below w.heap.size w w' := by
  have hri := match_right.calls a0 a1 A2 c2 l2 true w hr2 hc2 (by unfold match_right.f; rw [hb])
  have HRI := Aside0.mk hri
  obtain ⟨⟨ha0, ha1, hb0, hb1, hlen⟩, hed⟩ := rightB_iff a0 a1 l2 hb
  have hu40 := Try.underlying33
  have HED := Aside0.mk hed
  have HLEN := Aside0.mk hlen
  have HA := Aside0.mk (show 0 ≤ a0 ∧ a0 ≤ 64 ∧ 0 ≤ a1 ∧ a1 ≤ 64 from ⟨ha0, ha1, hb0, hb1⟩)
  have HR2 := Aside0.mk hr2
  have HC2 := Aside0.mk hc2
  clear hri hr2 hc2 hb hed hlen ha0 ha1 hb0 hb1
  have c3b0 : (0 ≤ a0) = True := eq_true HA.out.1
  have c3b1 : decide (0 ≤ a0) = true := decide_eq_true HA.out.1
  have d3b0 : (0 ≤ a1) = True := eq_true HA.out.2.2.1
  have d3b1 : decide (0 ≤ a1) = true := decide_eq_true HA.out.2.2.1
  go_enter Try.func27, Try.ntmps27
  go_wp2_with (first | (go_at_call 24; refine HRI.out.mono ?_; rintro e w' ⟨rfl, hb'⟩; have HB := Aside0.mk hb'; clear hb') | ((with_reducible refine gate_dst (N := 26) rfl ?_); refine Kd.S_make (Kd.slice 3 (Kd.int .i64)) _ 23 rfl (N := 26) rfl 37 _ _ rfl a0 rfl rfl Try.underlying37 (.slice none 0 0) 24 info23 rfl (by decide) (by omega) [] (ok := fun _ => True) (okp := fun _ => True) ⟨_, rfl, Kd.R_nil _ _ _ _ _⟩ (fun _ hk => hk) trivial HA.out.1 (by have := HA.out; omega) (Below.refl _ _) (Nat.le_refl _) ?_; intro vN w5 ho6 hb hg_ hnew_; clear hg_ hnew_; have n0_ := Aside0.mk (Kd.S_lower ho6 (below_size HB.out)); have n1_ := Aside0.mk (below_step HB.out hb); clear HB; have HO_5 := n0_; have HB := n1_; clear n0_ n1_ hb ho6) | ((with_reducible refine gate_dst (N := 8) rfl ?_); refine box_event ?hg (N := 8) ?hd (cs := #[.slice none 0 0]) (t := 37) ?hr ?_; (case hd => rfl); (case hg => rfl); (case hr => first | (go_simp; done) | (go_simp; rfl)); intro bN hgN w6 hbox hb; have n0_ := Aside0.mk (Kd.S_below HO_5.out hb); have n1_ := Aside0.mk (below_step HB.out hb); have BKN := Aside0.mk hbox; have GEN := Aside0.mk ((by rw [hgN]; exact below_size HB.out) : w.heap.size ≤ bN); clear HO_5 HB; have HO_5 := n0_; have HB := n1_; clear n0_ n1_ hb hbox hgN; have hcz : w6.cell? ⟨bN, 0, none⟩ = some (.slice none 0 0) := (blk_cell BKN.out 0).trans rfl; have hfz := blk_frozen BKN.out 0) | ((with_reducible refine gate_store (t := 37) (p := 8) rfl ?_); refine store_event (t := 37) (p := 8) (v := ?vo_) (w1 := (w6.setCell ⟨bN, 0, none⟩ vN)) ?hg ?ho ?hn ?hr ?_; (case ho => rfl); (case hg => rfl); (case hn => rfl); (case hr => (obtain ⟨Ax_, cx_, ex_⟩ := Kd.S_slice HO_5.out; subst ex_; first | (go_simp; done) | (go_simp; rfl))); intro w7 hw; have n0_ := Aside0.mk (show Kd.S (Kd.slice 3 (Kd.int .i64)) 23 w7 w.heap.size (fun _ => True) vN _ from by rw [hw]; exact Kd.S_set HO_5.out BKN.out (by decide) 0 vN); have n1_ := Aside0.mk (show w7.heap[bN]? = some (.cells #[vN] 37 (0, 0)) from by rw [hw]; exact blk_put (cs := #[.slice none 0 0]) BKN.out 0 _ rfl); have n2_ := Aside0.mk (show Below w.heap.size w w7 from by rw [hw]; exact below_set HB.out GEN.out); clear HO_5 BKN HB hcz hfz hw; have HO_5 := n0_; have BKN := n1_; have HB := n2_; clear n0_ n1_ n2_))
  go_loopg [29] l2.length (fun gg v29 W' => ∃ (x29 : Int) (x5 : List (List Int)), v29 = .int .i64 x29 ∧ Aside0 (0 ≤ x29 ∧ x29 ≤ (l2.length : Int) ∧ l2.length - x29.toNat ≤ gg) ∧ Aside0 (x5 = nextOf (List.replicate a0.toNat []) (l2.take x29.toNat)) ∧ Aside0 (Kd.S (Kd.slice 3 (Kd.int .i64)) 23 W' w.heap.size (fun _ => True) vN x5) ∧ Aside0 (W'.heap[bN]? = some (.cells #[vN] 37 (0, 0))) ∧ Aside0 (Below w.heap.size w W'))
  case atStart => exact ⟨0, _, rfl, ⟨by omega, by omega, by simp⟩, ⟨rfl⟩, HO_5, BKN, HB⟩
  case round =>
    clear HO_5 BKN HB
    obtain ⟨x29, x5, rfl, HK1, HX5, HO_5, BKN, HB⟩ := hrel
    by_cases c7 : x29 < (l2.length : Int)
    · have c7b0 : decide (x29 < (l2.length : Int)) = true := decide_eq_true c7
      have c8b0 : decide (0 ≤ x29) = true := decide_eq_true HK1.out.1
      have hmem : rd_T33 l2 x29 ∈ l2 := by
        have hl : x29.toNat < l2.length := by have := HK1.out.1; omega
        unfold rd_T33
        rw [List.getD_eq_getElem?_getD, List.getElem?_eq_getElem hl]
        exact List.getElem_mem hl
      have he := HED.out _ hmem
      have hl5 : x5.length = a0.toNat := by rw [HX5.out, nextOf_len, List.length_replicate]
      have c10b0 : decide (0 ≤ (rd_T33 l2 x29).f0) = true := decide_eq_true he.1
      have c11b0 : decide ((rd_T33 l2 x29).f0 < (x5.length : Int)) = true := decide_eq_true (by rw [hl5]; omega)
      have LMc12 : Aside0 ((rd_L3 x5 ((rd_T33 l2 x29).f0)).length < 17592186044416) := ⟨by
        have := rd_L3_short x5 ((rd_T33 l2 x29).f0) (0 + (l2.take x29.toNat).length) (by rw [HX5.out]; exact nextOf_short _ _ 0 (fun row hr => by rw [List.eq_of_mem_replicate hr]; simp))
        have h2 : (l2.take x29.toNat).length ≤ l2.length := by rw [List.length_take]; omega
        have h3 := HLEN.out
        omega⟩
      have HNX : Aside0 (x5.set ((rd_T33 l2 x29).f0).toNat (rd_L3 x5 ((rd_T33 l2 x29).f0) ++ [(rd_T33 l2 x29).f1]) = nextOf (List.replicate a0.toNat []) (l2.take (x29 + 1).toNat)) := ⟨by
        have hl : x29.toNat < l2.length := by have := HK1.out.1; omega
        have h1 : (x29 + 1).toNat = x29.toNat + 1 := by have := HK1.out.1; omega
        rw [h1, List.take_succ_eq_append_getElem hl, nextOf_snoc, ← HX5.out]
        have h2 : l2[x29.toNat] = rd_T33 l2 x29 := by unfold rd_T33; rw [List.getD_eq_getElem?_getD, List.getElem?_eq_getElem hl]; rfl
        rw [h2]⟩
      clear c7 hmem he hl5
      obtain ⟨y107, hy107⟩ : ∃ y_ : List Int, y_ = ((rd_L3 x5 ((rd_T33 l2 x29).f0)) ++ [(rd_T33 l2 x29).f1]) := ⟨_, rfl⟩
      have Ny107 := Aside0.mk hy107
      clear hy107
      obtain ⟨y110, hy110⟩ : ∃ y_ : List (List Int), y_ = (x5.set (((rd_T33 l2 x29).f0) : Int).toNat y107) := ⟨_, rfl⟩
      have Ny110 := Aside0.mk hy110
      clear hy110
      have p104 : 0 ≤ (x29 : Int) := of_decide_eq_true (by first | (with_reducible assumption) | assumption)
      have q104 : x29 < (l2.length : Int) := of_decide_eq_true (by first | (with_reducible assumption) | assumption)
      obtain ⟨ad104, e104, hx104_0, hx104_1, hx104_2⟩ := at_T33 HR2.out x29 p104 q104
      cases e104
      replace hx104_0 := (HB.out.cell (World.block_lt_of_cell? w _ hx104_0)).trans hx104_0
      replace hx104_1 := (HB.out.cell (World.block_lt_of_cell? w _ hx104_1)).trans hx104_1
      replace hx104_2 := (HB.out.cell (World.block_lt_of_cell? w _ hx104_2)).trans hx104_2
      replace p104 := eq_true p104
      replace q104 := eq_true q104
      try go_wp2_with (first | ((with_reducible refine gate_dst (N := 10) rfl ?_); refine box_event ?hg (N := 10) ?hd (cs := #[.int .i64 0, .int .i64 0, .int .i64 0]) (t := 33) ?hr ?_; (case hd => rfl); (case hg => rfl); (case hr => first | (go_simp; done) | (go_simp; rfl)); intro gb105 hg w14 hbox hb; have n0_ := Aside0.mk (Kd.S_below (by (with_reducible repeat (first | apply Kd.S_alloc | apply Kd.S_drewN | apply Kd.S_drew)); exact HO_5.out) hb); have n1_ := Aside0.mk (below_step (by repeat (first | (with_reducible first | exact HB.out | apply below_alloc | apply pw_below_drewN | apply below_drew1) | exact HB.out)) hb); have n2_ := Aside0.mk (hbox); have nN_ := Aside0.mk (blk_below BKN.out hb); have n3_ := Aside0.mk ((by rw [hg]; exact (below_size (by repeat (first | (with_reducible first | exact HB.out | apply below_alloc | apply pw_below_drewN | apply below_drew1) | exact HB.out))) : w.heap.size ≤ gb105)); have n4_ := Aside0.mk ((by rw [hg]; exact (below_size (by repeat (first | (with_reducible first | exact HB.out | apply below_alloc | apply pw_below_drewN | apply below_drew1) | exact HB.out))) : w.heap.size ≤ gb105)); clear HO_5; clear HB; clear BKN; have BKN := nN_; clear nN_; have HO_5 := n0_; have HB := n1_; have BK105 := n2_; have GW105 := n3_; have GE105 := n4_; clear n0_ n1_ n2_ n3_ n4_; clear hb hbox hg; have hcz15_0 : w14.cell? ⟨gb105, 0, none⟩ = some (.int .i64 0) := (blk_cell BK105.out 0).trans rfl; have hcz15_1 : w14.cell? ⟨gb105, 1, none⟩ = some (.int .i64 0) := (blk_cell BK105.out 1).trans rfl; have hcz15_2 : w14.cell? ⟨gb105, 2, none⟩ = some (.int .i64 0) := (blk_cell BK105.out 2).trans rfl; have hfz15_0 := blk_frozen BK105.out 0; have hfz15_1 := blk_frozen BK105.out 1; have hfz15_2 := blk_frozen BK105.out 2))
      have n0_ : Aside0 (Kd.S (Kd.slice 3 (Kd.int .i64)) 23 (((w14.setCell ⟨gb105, 0, none⟩ (.int .i64 ((rd_T33 l2 x29).f0))).setCell ⟨gb105, 1, none⟩ (.int .i64 ((rd_T33 l2 x29).f1))).setCell ⟨gb105, 2, none⟩ (.int .i64 ((rd_T33 l2 x29).f2))) w.heap.size (fun _ => True) vN x5) := ⟨by (with_reducible repeat (first | apply Kd.S_alloc | apply Kd.S_drewN | apply Kd.S_drew)); exact Kd.S_mono (Kd.S_far (p := ⟨gb105, 2, none⟩) (Kd.S_far (p := ⟨gb105, 1, none⟩) (Kd.S_far (p := ⟨gb105, 0, none⟩) (Kd.S_types HO_5.out BK105.out (by decide)) (fun _ hk => hk.2) (.int .i64 ((rd_T33 l2 x29).f0))) (fun _ hk => hk.2) (.int .i64 ((rd_T33 l2 x29).f1))) (fun _ hk => hk.2) (.int .i64 ((rd_T33 l2 x29).f2))) (fun _ hk => trivial)⟩
      have n1_ : Aside0 ((((w14.setCell ⟨gb105, 0, none⟩ (.int .i64 ((rd_T33 l2 x29).f0))).setCell ⟨gb105, 1, none⟩ (.int .i64 ((rd_T33 l2 x29).f1))).setCell ⟨gb105, 2, none⟩ (.int .i64 ((rd_T33 l2 x29).f2))).heap[gb105]? = some (.cells #[.int .i64 ((rd_T33 l2 x29).f0), .int .i64 ((rd_T33 l2 x29).f1), .int .i64 ((rd_T33 l2 x29).f2)] 33 (0, 0))) := ⟨by (with_reducible repeat (first | refine blk_drewN ?_ _ | refine blk_drew ?_ | refine blk_alloc ?_ _)); refine blk_put (cs := #[.int .i64 ((rd_T33 l2 x29).f0), .int .i64 ((rd_T33 l2 x29).f1), .int .i64 0]) ?_ 2 _ rfl; (with_reducible repeat (first | refine blk_drewN ?_ _ | refine blk_drew ?_ | refine blk_alloc ?_ _)); refine blk_put (cs := #[.int .i64 ((rd_T33 l2 x29).f0), .int .i64 0, .int .i64 0]) ?_ 1 _ rfl; (with_reducible repeat (first | refine blk_drewN ?_ _ | refine blk_drew ?_ | refine blk_alloc ?_ _)); refine blk_put (cs := #[.int .i64 0, .int .i64 0, .int .i64 0]) ?_ 0 _ rfl; (with_reducible repeat (first | refine blk_drewN ?_ _ | refine blk_drew ?_ | refine blk_alloc ?_ _)); exact BK105.out⟩
      have n2_ : Aside0 (Below w.heap.size w (((w14.setCell ⟨gb105, 0, none⟩ (.int .i64 ((rd_T33 l2 x29).f0))).setCell ⟨gb105, 1, none⟩ (.int .i64 ((rd_T33 l2 x29).f1))).setCell ⟨gb105, 2, none⟩ (.int .i64 ((rd_T33 l2 x29).f2)))) := ⟨by repeat (first | (with_reducible first | exact HB.out | apply below_alloc | apply pw_below_drewN | apply below_drew1 | refine below_set ?_ GE105.out) | exact HB.out)⟩
      have NEB := Aside0.mk (type_ne BKN.out BK105.out (by decide))
      (try clear HO_5)
      (try clear BK105)
      (try clear HB)
      have nN_ : Aside0 ((((w14.setCell ⟨gb105, 0, none⟩ (.int .i64 ((rd_T33 l2 x29).f0))).setCell ⟨gb105, 1, none⟩ (.int .i64 ((rd_T33 l2 x29).f1))).setCell ⟨gb105, 2, none⟩ (.int .i64 ((rd_T33 l2 x29).f2))).heap[bN]? = some (.cells #[vN] 37 (0, 0))) := ⟨by rw [heap_other _ _ _ _ _ NEB.out, heap_other _ _ _ _ _ NEB.out, heap_other _ _ _ _ _ NEB.out]; exact BKN.out⟩
      clear BKN
      generalize (((w14.setCell ⟨gb105, 0, none⟩ (.int .i64 ((rd_T33 l2 x29).f0))).setCell ⟨gb105, 1, none⟩ (.int .i64 ((rd_T33 l2 x29).f1))).setCell ⟨gb105, 2, none⟩ (.int .i64 ((rd_T33 l2 x29).f2))) = w16 at n0_ n1_ n2_ nN_ ⊢
      have BKN := nN_
      clear nN_
      have HO_5 := n0_
      have BK105 := n1_
      have HB := n2_
      clear n0_ n1_ n2_
      have n0_ := Aside0.mk (Kd.S_drew HO_5.out)
      have nN_ := Aside0.mk (blk_drew BKN.out)
      clear BKN
      have BKN := nN_
      clear nN_
      have n1_ := Aside0.mk (blk_drew BK105.out)
      have n2_ := Aside0.mk (below_drew1 HB.out)
      clear HO_5
      clear BK105
      clear HB
      have HO_5 := n0_
      have BK105 := n1_
      have HB := n2_
      clear n0_ n1_ n2_
      obtain ⟨Ao18, co18, eo18⟩ := Kd.S_slice HO_5.out
      (first | subst eo18 | (injection eo18 with f1_ f2_ f3_; have f4_ := f1_.symm; have f5_ := f3_.symm; clear f1_ f2_ f3_; subst f4_; subst f5_))
      have p106 : 0 ≤ (((rd_T33 l2 x29).f0) : Int) := of_decide_eq_true (by first | (with_reducible assumption) | assumption)
      have q106 : ((rd_T33 l2 x29).f0) < (x5.length : Int) := of_decide_eq_true (by first | (with_reducible assumption) | assumption)
      obtain ⟨ad106, A106_0, c106_0, e106, hx106_0, hl106_0, hi106_0⟩ := at_L3 (Kd.S_reads' HO_5.out).2.2 ((rd_T33 l2 x29).f0) p106 q106
      cases e106
      obtain ⟨ce106, hce106, hMe106, hcc106⟩ := Kd.S_get HO_5.out [] ((rd_T33 l2 x29).f0) p106 (by first | exact q106 | exact of_decide_eq_true (by first | (with_reducible assumption) | assumption) | (have e_ := (Kd.S_reads' HO_5.out).1; omega))
      obtain ⟨ve106_0, rfl, ge106_0⟩ := hMe106
      have hv106_0 := hcc106 0 _ rfl
      rw [Nat.add_zero, show ((Kd.slice 3 (Kd.int .i64))).sz = 1 from rfl, Nat.mul_one] at hv106_0
      replace hv106_0 := Option.some.inj (hv106_0.symm.trans hx106_0)
      rw [hv106_0] at ge106_0
      have HL106_0 := Aside0.mk (show Kd.R (Kd.int .i64) 3 _ _ _ _ (rd_L3 x5 ((rd_T33 l2 x29).f0)) from ge106_0)
      clear hv106_0 ge106_0
      have HX106_0 := Aside0.mk hx106_0
      clear hcc106 hce106
      have HR106_0 := Aside0.mk hi106_0
      have HC106_0 := Aside0.mk hl106_0
      clear hi106_0 hl106_0
      replace p106 := eq_true p106
      replace q106 := eq_true q106
      obtain ⟨go19, co19, eo19, gb19, gl19, cl19, HG19⟩ := Kd.S_form HO_5.out (by have h_ : (((rd_T33 l2 x29).f0) : Int) < ((x5.length : Int) : Int) := of_decide_eq_true (by first | (with_reducible assumption) | assumption); have h2_ : 0 ≤ (((rd_T33 l2 x29).f0) : Int) := (of_decide_eq_true (by first | (with_reducible assumption) | assumption)); omega)
      (first | cases eo19 | (injection eo19 with ea_ en_ ec_; (first | subst ea_ | (injection ea_ with ea_; subst ea_)); subst ec_; clear en_))
      have GB19 := Aside0.mk gb19
      have GG19 := Aside0.mk HG19
      clear gb19 gl19 HG19
      (first | simp only [add_plain] at hx106_0 | skip)
      obtain ⟨oki19, ce19, hcl19, hM19, hcc19, _, _, hH19⟩ := Kd.S_elem HO_5.out [] (((rd_T33 l2 x29).f0) : Int) (of_decide_eq_true (by first | (with_reducible assumption) | assumption)) (by have h_ : (((rd_T33 l2 x29).f0) : Int) < ((x5.length : Int) : Int) := of_decide_eq_true (by first | (with_reducible assumption) | assumption); first | exact h_ | (have e_ := (Kd.S_reads' HO_5.out).1; omega) | simpa using h_)
      obtain ⟨ve19_0, rfl, ge19_0⟩ := hM19
      have hv19 := hcc19 0 _ rfl
      have hX19 := HX106_0.out
      (try simp only [add_plain] at hX19)
      (try simp only [Nat.add_zero] at hv19)
      (try rw [show ((Kd.slice 3 (Kd.int .i64))).sz = 1 from rfl, Nat.mul_one] at hv19)
      replace hv19 := Option.some.inj (hv19.symm.trans hX19)
      subst hv19
      clear hX19 hcc19 hcl19
      have UU19 := Aside0.mk (show Kd.R (Kd.int .i64) 3 _ w.heap.size oki19 (.slice A106_0 (rd_L3 x5 ((rd_T33 l2 x29).f0)).length c106_0) (rd_L3 x5 ((rd_T33 l2 x29).f0)) from ge19_0)
      have HH19 := Aside0.mk hH19
      have HN19 := Aside0.mk (Kd.S_reads' HO_5.out).1
      clear hH19 ge19_0
      refine start_ (n := 14) (S := fun w' => w'.cell? ⟨gb105, 0, none⟩ = some (.int .i64 ((rd_T33 l2 x29).f0)) ∧ w'.cell? ⟨gb105, 1, none⟩ = some (.int .i64 ((rd_T33 l2 x29).f1)) ∧ w'.cell? ⟨gb105, 2, none⟩ = some (.int .i64 ((rd_T33 l2 x29).f2)) ∧ w'.cell? ⟨go19, (((rd_T33 l2 x29).f0) : Int).toNat, none⟩ = some (.slice A106_0 (rd_L3 x5 ((rd_T33 l2 x29).f0)).length c106_0) ∧ w'.cell? ⟨bN, 0, none⟩ = some (.slice (some ⟨go19, 0, none⟩) x5.length co18)) (ds := [13]) #[false, false, false, false, false, false, false, false, false, false, false, false, false, false] (by kernel_rfl) rfl rfl ⟨(blk_cell BK105.out 0).trans rfl, (blk_cell BK105.out 1).trans rfl, (blk_cell BK105.out 2).trans rfl, hx106_0, (blk_cell BKN.out 0).trans rfl⟩ (fun hHeld => ?_); refine with_tabW most.tab7 most.bits7 (fun HT_ HW_ => ?_)
      generalize w16.drew = w17 at HO_5 BK105 BKN HB GG19 HH19 HL106_0 HR106_0 HX106_0 UU19 hx106_0 hHeld ⊢
      refine take_ (i := 0) (N := some 33) (v := ?_) (a' := ?_) #[true, false, false, false, false, false, false, false, false, false, false, false, false, false] rfl rfl (take_ofW HT_.out HW_.out (by kernel_rfl)) (fun _ _ _ h => h) (Or.inl ⟨by rfl, ?_⟩) hHeld ?_ ?_
      rotate_left
      · rintro w' ⟨s0, s1, s2, s3, s4⟩
        go_simp
        with_reducible rfl
      rotate_left
      · simp only [Act.put, List.setIfInBounds_toArray, List.set_cons_zero, List.set_cons_succ, i64_w, i32_w]
        rfl
      refine pure_ (i := 1) (N := some 34) (v := ?_) (a' := ?_) #[true, true, false, false, false, false, false, false, false, false, false, false, false, false] rfl rfl (any_of HT_.out (by kernel_rfl)) (fun _ _ _ h => h) (Or.inl ⟨by rfl, ?_⟩) ?_ ?_
      rotate_left
      · intro w'
        go_simp
        with_reducible rfl
      rotate_left
      · simp only [Act.put, List.setIfInBounds_toArray, List.set_cons_zero, List.set_cons_succ, i64_w, i32_w]
        rfl
      refine take_ (i := 3) (N := some 36) (v := ?_) (a' := ?_) #[true, true, false, true, false, false, false, false, false, false, false, false, false, false] rfl rfl (take_ofW HT_.out HW_.out (by kernel_rfl)) (fun _ _ _ h => h) (Or.inl ⟨by rfl, ?_⟩) hHeld ?_ ?_
      rotate_left
      · rintro w' ⟨s0, s1, s2, s3, s4⟩
        go_simp
        with_reducible rfl
      rotate_left
      · simp only [Act.put, List.setIfInBounds_toArray, List.set_cons_zero, List.set_cons_succ, i64_w, i32_w]
        rfl
      refine pure_ (i := 4) (N := some 37) (v := ?_) (a' := ?_) #[true, true, false, true, true, false, false, false, false, false, false, false, false, false] rfl rfl (any_of HT_.out (by kernel_rfl)) (fun _ _ _ h => h) (Or.inl ⟨by rfl, ?_⟩) ?_ ?_
      rotate_left
      · intro w'
        go_simp
        with_reducible rfl
      rotate_left
      · simp only [Act.put, List.setIfInBounds_toArray, List.set_cons_zero, List.set_cons_succ, i64_w, i32_w]
        rfl
      refine pure_ (i := 8) (N := some 41) (v := ?_) (a' := ?_) #[true, true, false, true, true, false, false, false, true, false, false, false, false, false] rfl rfl (any_of HT_.out (by kernel_rfl)) (fun _ _ _ h => h) (Or.inl ⟨by rfl, ?_⟩) ?_ ?_
      rotate_left
      · intro w'
        go_simp
        with_reducible rfl
      rotate_left
      · simp only [Act.put, List.setIfInBounds_toArray, List.set_cons_zero, List.set_cons_succ, i64_w, i32_w]
        rfl
      refine take_ (i := 2) (N := some 35) (v := ?_) (a' := ?_) #[true, true, true, true, true, false, false, false, true, false, false, false, false, false] rfl rfl (take_ofW HT_.out HW_.out (by kernel_rfl)) (fun _ _ _ h => h) (Or.inl ⟨by rfl, ?_⟩) hHeld ?_ ?_
      rotate_left
      · rintro w' ⟨s0, s1, s2, s3, s4⟩
        go_simp
        with_reducible rfl
      rotate_left
      · simp only [Act.put, List.setIfInBounds_toArray, List.set_cons_zero, List.set_cons_succ, i64_w, i32_w]
        rfl
      refine take_ (i := 5) (N := some 38) (v := ?_) (a' := ?_) #[true, true, true, true, true, true, false, false, true, false, false, false, false, false] rfl rfl (take_ofW HT_.out HW_.out (by kernel_rfl)) (fun _ _ _ h => h) (Or.inl ⟨by rfl, ?_⟩) hHeld ?_ ?_
      rotate_left
      · rintro w' ⟨s0, s1, s2, s3, s4⟩
        go_simp
        with_reducible rfl
      rotate_left
      · simp only [Act.put, List.setIfInBounds_toArray, List.set_cons_zero, List.set_cons_succ, i64_w, i32_w]
        rfl
      refine pure_ (i := 6) (N := some 39) (v := ?_) (a' := ?_) #[true, true, true, true, true, true, true, false, true, false, false, false, false, false] rfl rfl (any_of HT_.out (by kernel_rfl)) (fun _ _ _ h => h) (Or.inl ⟨by rfl, ?_⟩) ?_ ?_
      rotate_left
      · intro w'
        go_simp
        with_reducible rfl
      rotate_left
      · simp only [Act.put, List.setIfInBounds_toArray, List.set_cons_zero, List.set_cons_succ, i64_w, i32_w]
        rfl
      refine take_ (i := 7) (N := some 40) (v := ?_) (a' := ?_) #[true, true, true, true, true, true, true, true, true, false, false, false, false, false] rfl rfl (take_ofW HT_.out HW_.out (by kernel_rfl)) (fun _ _ _ h => h) (Or.inl ⟨by rfl, ?_⟩) hHeld ?_ ?_
      rotate_left
      · rintro w' ⟨s0, s1, s2, s3, s4⟩
        go_simp
        with_reducible rfl
      rotate_left
      · simp only [Act.put, List.setIfInBounds_toArray, List.set_cons_zero, List.set_cons_succ, i64_w, i32_w]
        rfl
      refine take_ (i := 9) (N := some 42) (v := ?_) (a' := ?_) #[true, true, true, true, true, true, true, true, true, true, false, false, false, false] rfl rfl (take_ofW HT_.out HW_.out (by kernel_rfl)) (fun _ _ _ h => h) (Or.inl ⟨by rfl, ?_⟩) hHeld ?_ ?_
      rotate_left
      · rintro w' ⟨s0, s1, s2, s3, s4⟩
        go_simp
        with_reducible rfl
      rotate_left
      · simp only [Act.put, List.setIfInBounds_toArray, List.set_cons_zero, List.set_cons_succ, i64_w, i32_w]
        rfl
      refine one_ (i := 10) (N := some 43) #[true, true, true, true, true, true, true, true, true, true, true, false, false, false] rfl rfl (one_of HT_.out (by kernel_rfl)) (by decide) (fun K hK => ?_)
      refine value_ (w1 := ?_) (v := ?_) (by rfl) rfl ?_ ?_
      rotate_left 2
      · go_simp
        constructor
        · rfl
        · rfl
      refine hK.out _ _ ⟨(blk_cell (blk_alloc BK105.out _) 0).trans rfl, (blk_cell (blk_alloc BK105.out _) 1).trans rfl, (blk_cell (blk_alloc BK105.out _) 2).trans rfl, (World.cell?_alloc_lt _ _ _ (World.block_lt_of_cell? _ _ (hHeld.2.2.2.1))).trans (hHeld.2.2.2.1), (blk_cell (blk_alloc BKN.out _) 0).trans rfl⟩ (fun hHeld => ?_)
      clear hK K
      refine norm_ (a' := ?_) ?_ ?_
      rotate_left
      · show Act.put _ (some 43) _ = _
        simp only [Act.put, List.setIfInBounds_toArray, List.set_cons_zero, List.set_cons_succ, i64_w, i32_w]
        rfl
      refine one_ (i := 11) (N := some 44) #[true, true, true, true, true, true, true, true, true, true, true, true, false, false] rfl rfl (one_of HT_.out (by kernel_rfl)) (by decide) (fun K hK => ?_)
      refine Kd.R_append_step (Kd.int .i64) (w0 := w) w.heap.size (by rfl) (.tmp 40) (.tmp 43) 23 3 (.int .i64 0) 8 rfl Try.underlying23 info3 rfl (by decide) (by omega) (.slice A106_0 (rd_L3 x5 ((rd_T33 l2 x29).f0)).length c106_0) (rd_L3 x5 ((rd_T33 l2 x29).f0)) ((rd_T33 l2 x29).f1) [.int .i64 ((rd_T33 l2 x29).f1)] (fun k_ => oki19 k_ ∨ ((fun _ => True)) k_ ∧ w17.heap.size ≤ k_) (fun _ => False) rfl rfl ?aP (fun _ hk => hk.elim) ?aF ?aO ?aB ?aS ?aL ?_
      (case aP => exact rfl)
      (case aB => exact (by repeat (first | (with_reducible first | exact HB.out | apply below_alloc | apply pw_below_drewN | apply below_drew1 | refine below_set ?_ GE105.out) | exact HB.out)))
      (case aF => exact (fun k_ hk => .inr ⟨trivial, hk⟩))
      (case aO => exact (by (with_reducible repeat (first | apply Kd.R_alloc | apply Kd.R_drewN | apply Kd.R_drew)); exact Kd.R_mono UU19.out (fun _ hk => .inl hk)))
      (case aS => exact (below_size (by repeat (first | (with_reducible first | exact HB.out | apply below_alloc | apply pw_below_drewN | apply below_drew1 | refine below_set ?_ GE105.out) | exact HB.out))))
      (case aL => have := LMc12.out; omega)
      intro v108 w20 ho hb hg hat
      (first | have HS3_ := cell_grown hg (hHeld.2.2.2.1) (by first | (rw [add_block]; exact (fun e_ => ((HL106_0.out.1 _ e_.symm).2) rfl)) | (show some (Addr.add _ _).block ≠ _; rw [add_block]; exact (fun e_ => ((HL106_0.out.1 _ e_.symm).2) rfl)) | exact (fun e_ => ((HL106_0.out.1 _ e_.symm).2) rfl)) | have HS3_ := cell_grown hg (cell_unalloc (hHeld.2.2.2.1) (by first | (rw [add_block]; exact Kd.S_lt HO_5.out _ rfl) | (show (Addr.add _ _).block < _; rw [add_block]; exact Kd.S_lt HO_5.out _ rfl) | exact Kd.S_lt HO_5.out _ rfl)) (by first | (rw [add_block]; exact (fun e_ => ((HL106_0.out.1 _ e_.symm).2) rfl)) | (show some (Addr.add _ _).block ≠ _; rw [add_block]; exact (fun e_ => ((HL106_0.out.1 _ e_.symm).2) rfl)) | exact (fun e_ => ((HL106_0.out.1 _ e_.symm).2) rfl)))
      rw [← Ny107.out] at ho
      have nN_ := Aside0.mk (blk_grown (g := bN) (o := .cells #[.slice (some ⟨go19, 0, none⟩) x5.length co18] 37 (0, 0)) (by (with_reducible repeat (first | refine blk_drewN ?_ _ | refine blk_drew ?_ | refine blk_alloc ?_ _)); exact BKN.out) hg (Kd.R_ne HL106_0.out BKN.out (by decide)))
      clear BKN
      have BKN := nN_
      clear nN_
      have n0_ := Aside0.mk (blk_grown (g := gb105) (o := .cells #[.int .i64 ((rd_T33 l2 x29).f0), .int .i64 ((rd_T33 l2 x29).f1), .int .i64 ((rd_T33 l2 x29).f2)] 33 (0, 0)) (by (with_reducible repeat (first | refine blk_drewN ?_ _ | refine blk_drew ?_ | refine blk_alloc ?_ _)); exact BK105.out) hg (Kd.R_ne HL106_0.out BK105.out (by decide)))
      have n1_ := Aside0.mk (hb)
      have n2_ := Aside0.mk (Kd.H_grown (Kd.H_widen (by repeat (first | exact HH19.out | refine Kd.H_alloc ?_ _ | refine Kd.H_drewN ?_ _ | refine Kd.H_drew ?_))) hg (fun k_ e_ => .inl (UU19.out.1 k_ e_)))
      have n3_ := Aside0.mk (ho)
      clear BK105
      clear HB
      clear HH19
      clear HO_5
      clear UU19
      clear HL106_0
      have BK105 := n0_
      have HB := n1_
      have HH19 := n2_
      have HO109 := n3_
      clear n0_ n1_ n2_ n3_
      clear ho hb hg hat
      have p13 : 0 ≤ (((rd_T33 l2 x29).f0) : Int) := of_decide_eq_true (by first | (with_reducible assumption) | assumption)
      have q13 : (((rd_T33 l2 x29).f0) : Int) < ((x5.length : Int) : Int) := of_decide_eq_true (by first | (with_reducible assumption) | assumption)
      replace p13 := eq_true p13
      replace q13 := eq_true q13
      obtain ⟨Ao23, co23, eo23⟩ := Kd.R_slice HO109.out
      (first | subst eo23 | (injection eo23 with f1_ f2_ f3_; have f4_ := f1_.symm; have f5_ := f3_.symm; clear f1_ f2_ f3_; subst f4_; subst f5_))
      obtain ⟨_, _, hraw21, _, _, hcc21, _⟩ := Kd.H_raw HH19.out (of_decide_eq_true (by first | (with_reducible assumption) | assumption)) (by have h_ : (((rd_T33 l2 x29).f0) : Int) < ((x5.length : Int) : Int) := of_decide_eq_true (by first | (with_reducible assumption) | assumption); first | exact h_ | (have e_ := (HN19.out); omega) | simpa using h_)
      obtain ⟨_, hfr21⟩ := Kd.H_at HH19.out (of_decide_eq_true (by first | (with_reducible assumption) | assumption)) (by have h_ : (((rd_T33 l2 x29).f0) : Int) < ((x5.length : Int) : Int) := of_decide_eq_true (by first | (with_reducible assumption) | assumption); first | exact h_ | (have e_ := (HN19.out); omega) | simpa using h_)
      have hx21_0 := hcc21 0 _ rfl
      have hf21_0 := hfr21 0
      (try simp only [Nat.add_zero] at hx21_0 hf21_0)
      (try rw [show ((Kd.slice 3 (Kd.int .i64))).sz = 1 from rfl, Nat.mul_one] at hx21_0)
      (try rw [show ((Kd.slice 3 (Kd.int .i64))).sz = 1 from rfl, Nat.mul_one] at hf21_0)
      have HP21 := Kd.S_seg0 HH19.out (of_decide_eq_true (by first | (with_reducible assumption) | assumption)) (by have h_ : (((rd_T33 l2 x29).f0) : Int) < ((x5.length : Int) : Int) := of_decide_eq_true (by first | (with_reducible assumption) | assumption); first | exact h_ | (have e_ := (HN19.out); omega) | simpa using h_) (seg := [.slice Ao23 y107.length co23]) (j := 0) (show 1 ≤ 1 from by decide) (x' := y107) (Kd.M_row HO109.out) (fun _ hk => hk)
      (try simp only [show ((Kd.slice 3 (Kd.int .i64))).sz = 1 from rfl, Nat.mul_one, Nat.add_zero] at HP21)
      clear hcc21 hfr21
      have NEG : Aside0 (bN ≠ go19) := ⟨by obtain ⟨_, h_⟩ := Kd.R_typed hraw21 go19 rfl; exact type_ne BKN.out h_ (by decide)⟩
      have HNB105_go19 := Aside0.mk (show gb105 ≠ go19 from by have h_ := Kd.R_ne hraw21 BK105.out (by decide); intro e_; exact h_ (by rw [e_]; rfl))
      have HS21 := HP21.1
      rw [← Ny110.out] at HS21
      have HQ21 := Aside0.mk HS21
      obtain ⟨_, hgg21⟩ := Kd.R_typed hraw21 go19 rfl
      have GG21_ := Aside0.mk hgg21
      clear HP21 HS21 hgg21
      refine hK.out _ _ ⟨(blk_cell BK105.out 0).trans rfl, (blk_cell BK105.out 1).trans rfl, (blk_cell BK105.out 2).trans rfl, HS3_, (blk_cell BKN.out 0).trans rfl⟩ (fun hHeld => ?_)
      clear hK K
      refine norm_ (a' := ?_) ?_ ?_
      rotate_left
      · show Act.put _ (some 44) _ = _
        simp only [Act.put, List.setIfInBounds_toArray, List.set_cons_zero, List.set_cons_succ, i64_w, i32_w]
        rfl
      refine pure_ (i := 12) (N := some 45) (v := ?_) (a' := ?_) #[true, true, true, true, true, true, true, true, true, true, true, true, true, false] rfl rfl (any_of HT_.out (by kernel_rfl)) (fun _ _ _ h => h) (Or.inl ⟨by rfl, ?_⟩) ?_ ?_
      rotate_left
      · intro w'
        go_simp
        with_reducible rfl
      rotate_left
      · simp only [Act.put, List.setIfInBounds_toArray, List.set_cons_zero, List.set_cons_succ, i64_w, i32_w]
        rfl
      refine last_ (i := 13) (N := none) #[true, true, true, true, true, true, true, true, true, true, true, true, true, true] rfl rfl (one_of HT_.out (by kernel_rfl)) (by decide) (fun K hK => ?_)
      refine skip_ (w1 := ?_) (by rfl) rfl ?_ ?_
      rotate_left
      · go_simp
        rfl
      refine hK.out _ _ ?_
      clear hK K
      refine done_ (done_of HT_.out (by kernel_rfl)) ?_
      try go_wp2
      (first | go_roundg (l2.length - (x29 + 1).toNat) | (refine Handed.intro (l2.length - (x29 + 1).toNat) ?measure ?_; rotate_left; go_step; (repeat apply Exists.intro); (refine ⟨?rel, ?fr_⟩); (case fr_ => (simp only [add_plain]; rfl))))
      case measure => have := HK1.out; have := of_decide_eq_true c7b0; omega
      case rel => exact ⟨x29 + 1, y110, (by rw [wrap64_small (by have := HK1.out; have := HLEN.out; omega) (by have := HK1.out; have := HLEN.out; omega)]), ⟨by have := HK1.out; have := of_decide_eq_true c7b0; omega⟩, ⟨by rw [Ny110.out, Ny107.out]; exact HNX.out⟩, ⟨by (with_reducible repeat (first | apply Kd.S_alloc | apply Kd.S_drewN | apply Kd.S_drew)); exact HQ21.out⟩, ⟨by rw [heap_other _ _ _ _ _ NEG.out]; exact BKN.out⟩, ⟨by repeat (first | (with_reducible first | exact HB.out | apply below_alloc | apply pw_below_drewN | apply below_drew1 | refine below_set ?_ GB19.out | refine below_set ?_ GE105.out) | exact HB.out)⟩⟩
    · have c7b0 : decide (x29 < (l2.length : Int)) = false := decide_eq_false c7
      have HX : Aside0 (x5 = nextOf (List.replicate a0.toNat []) l2) := ⟨by rw [HX5.out, List.take_of_length_le (by have := HK1.out; omega)]⟩
      clear c7
      obtain ⟨W1, rfl⟩ : ∃ W1 : World, W1 = wr := ⟨_, rfl⟩
      obtain ⟨AN, cN, eN, hcN, hCN⟩ := Kd.R_reads (Kd.S_R HO_5.out)
      have hbn : W1.cell? ⟨bN, 0, none⟩ = some (.slice AN x5.length cN) := (blk_cell BKN.out 0).trans (by rw [eN]; rfl)
      have hl5 : x5.length = a0.toNat := by rw [HX.out, nextOf_len, List.length_replicate]
      have HCN := Aside0.mk hCN
      have HBN := Aside0.mk hbn
      have HL5 := Aside0.mk hl5
      have HROWS : Aside0 (∀ row ∈ x5, RowOk a1.toNat row) := ⟨by rw [HX.out]; exact nextOf_ok a1.toNat l2 _ (fun row hr => by rw [List.eq_of_mem_replicate hr]; intro j hj; cases hj) (fun e he => by have := HED.out e he; have := HA.out; omega)⟩
      clear eN hcN hCN hbn hl5
      have HBW := HB
      clear HB HO_5 BKN HX5
      have HB := Aside0.mk (Below.refl W1.heap.size W1)
      obtain ⟨y0, hy0⟩ : ∃ y_ : List Int, y_ = List.replicate a1.toNat 0 := ⟨_, rfl⟩
      have HY0 := Aside0.mk hy0
      clear hy0
      go_wp2_with (first | ((with_reducible refine gate_dst (N := 48) rfl ?_); refine Kd.R_make (Kd.int .i64) _ 3 rfl (N := 48) rfl 23 _ _ rfl a1 rfl rfl Try.underlying23 (.int .i64 0) 8 info3 rfl (by decide) (by omega) 0 (ok := fun _ => True) (okp := fun _ => True) rfl (fun _ hk => hk) trivial HA.out.2.2.1 (by have := HA.out; omega) (Below.refl _ _) (Nat.le_refl _) ?_; intro vO w8 ho_ hb hg_ hnew_; clear hg_ hnew_; rw [← HY0.out] at ho_; have n0_ := Aside0.mk (Kd.R_lower ho_ (below_size HB.out)); have n1_ := Aside0.mk (below_step HB.out hb); clear HB; have HOF := n0_; have HB := n1_; clear n0_ n1_  hb ho_) | ((with_reducible refine gate_dst (N := 11) rfl ?_); refine box_event ?hg (N := 11) ?hd (cs := #[.slice none 0 0]) (t := 23) ?hr ?_; (case hd => rfl); (case hg => rfl); (case hr => first | (go_simp; done) | (go_simp; rfl)); intro bO hg_ w9 hbox hb; have n1_ := Aside0.mk (below_step HB.out hb); have BKO := Aside0.mk hbox; have GEO := Aside0.mk ((by rw [hg_]; exact below_size HB.out) : W1.heap.size ≤ bO); have m0_ := Aside0.mk (Kd.R_below HOF.out hb); clear HB HOF; have HB := n1_; have HOF := m0_; clear n1_ m0_ hb hbox hg_; have hcz : w9.cell? ⟨bO, 0, none⟩ = some (.slice none 0 0) := (blk_cell BKO.out 0).trans rfl; have hfz := blk_frozen BKO.out 0) | ((with_reducible refine gate_store (t := 23) (p := 11) rfl ?_); refine store_event (t := 23) (p := 11) (v := ?vo11) (w1 := (w9.setCell ⟨bO, 0, none⟩ vO)) ?hg ?ho ?hn ?hr ?_; (case ho => rfl); (case hg => rfl); (case hn => rfl); (case hr => (obtain ⟨Ax_, cx_, ex_⟩ := Kd.R_slice HOF.out; subst ex_; first | (go_simp; done) | (go_simp; rfl))); intro w10 hw; have n1_ := Aside0.mk (show w10.heap[bO]? = some (.cells #[vO] 23 (0, 0)) from by rw [hw]; exact blk_put (cs := #[.slice none 0 0]) BKO.out 0 _ rfl); have n2_ := Aside0.mk (show Below W1.heap.size W1 w10 from by rw [hw]; exact below_set HB.out GEO.out); have m0_ := Aside0.mk (show Kd.R (Kd.int .i64) 3 w10 W1.heap.size (fun _ => True) vO _ from by rw [hw]; exact Kd.R_set HOF.out BKO.out (by decide) 0 vO); clear BKO HB HOF hcz hfz hw; have BKO := n1_; have HB := n2_; have HOF := m0_; clear n1_ n2_ m0_; obtain ⟨AO, cO, eO⟩ := Kd.R_slice HOF.out; subst eO; have hco := blk_cell BKO.out 0))
      have hy1 : y0.length = a1.toNat := by rw [HY0.out, List.length_replicate]
      have HY1 := Aside0.mk hy1
      clear hy1
      go_loopg [51] y0.length (fun gg v51 W' => ∃ kk : Nat, v51 = .int .i64 kk ∧ Aside0 (kk ≤ y0.length ∧ y0.length - kk ≤ gg) ∧ Aside0 (Kd.R (Kd.int .i64) 3 W' W1.heap.size (fun _ => True) (.slice AO y0.length cO) (List.replicate kk (-1) ++ List.replicate (y0.length - kk) 0)) ∧ Aside0 (W'.heap[bO]? = some (.cells #[.slice AO y0.length cO] 23 (0, 0))) ∧ Aside0 (Below W1.heap.size W1 W'))
      case atStart => exact ⟨0, rfl, ⟨by omega, by omega⟩, ⟨by have := HOF.out; rw [HY0.out] at this ⊢; simpa using this⟩, BKO, HB⟩
      case round =>
        clear HOF BKO HB hco
        obtain ⟨kk, rfl, HK, HOF, BKO, HB⟩ := hrel
        have hco := blk_cell BKO.out 0
        have hym : y0.length ≤ 64 := by have := HY1.out; have := HA.out; omega
        by_cases hlt : kk < y0.length
        · have hltz : (kk : Int) < (y0.length : Int) := by omega
          obtain ⟨gO, cO', eO, hgO, hgO2, hgO3⟩ := Kd.R_form HOF.out (by simp; omega)
          injection eO with e1 e2 e3
          subst e1
          clear e2 e3 hgO2
          obtain ⟨hx, hf⟩ := Kd.R_celln 0 HOF.out (kk : Int) (by omega) hltz
          rw [Int.toNat_natCast] at hx hf
          have GB := Aside0.mk hgO
          have GT := Aside0.mk hgO3
          clear hgO hgO3
          go_wp2
          have hR := Kd.R_putg HOF.out (kk : Int) (-1)
          rw [Int.toNat_natCast] at hR
          go_roundg (y0.length - (kk + 1))
          case measure => have := HK.out; omega
          case rel =>
            refine ⟨kk + 1, by go_num, ⟨by have := HK.out; omega⟩, ⟨?_⟩, ⟨?_⟩, ⟨below_set HB.out GB.out⟩⟩
            · have h := hR.1; rw [put_next kk _ (-1) 0 hlt] at h; exact h
            · obtain ⟨_, h⟩ := GT.out; rw [heap_other _ _ _ _ _ (type_ne BKO.out h (by decide))]; exact BKO.out
        · have hltz : ¬ (kk : Int) < (y0.length : Int) := by omega
          have hkk : kk = y0.length := by have := HK.out; omega
          have HO2 : Aside0 (Kd.R (Kd.int .i64) 3 wr W1.heap.size (fun _ => True) (.slice AO y0.length cO) (List.replicate a1.toNat (-1))) := ⟨by have := HOF.out; rw [hkk, Nat.sub_self, HY1.out] at this; rw [HY1.out]; simpa using this⟩
          clear hkk HOF
          go_wp2
          clear hltz hlt
          go_loopg [59] a0.toNat (fun gg v59 W' => ∃ kk : Nat, v59 = .int .i64 kk ∧ Aside0 (kk ≤ a0.toNat ∧ a0.toNat - kk ≤ gg) ∧ Aside0 (Kd.R (Kd.int .i64) 3 W' W1.heap.size (fun _ => True) (.slice AO y0.length cO) (kuhn x5 a1.toNat kk 0 (List.replicate a1.toNat (-1)))) ∧ Aside0 (W'.heap[bO]? = some (.cells #[.slice AO y0.length cO] 23 (0, 0))) ∧ Aside0 (Below W1.heap.size W1 W'))
          case atStart => exact ⟨0, rfl, ⟨by omega, by omega⟩, HO2, BKO, HB⟩
          case round =>
            clear HO2 BKO HB hco
            obtain ⟨ki, rfl, HKI, HOF, BKO, HB⟩ := hrel
            have hki : (ki : Int) ≤ 64 := by have := HKI.out; have := HA.out; omega
            by_cases hlt : (ki : Int) < a0
            · obtain ⟨yS, hyS⟩ : ∃ y_ : List Bool, y_ = List.replicate a1.toNat false := ⟨_, rfl⟩
              have HYS := Aside0.mk hyS
              clear hyS
              have HG : Aside0 (Good x5.length a1.toNat yS (kuhn x5 a1.toNat ki 0 (List.replicate a1.toNat (-1)))) := ⟨by
                have := kuhn_good (n := x5.length) HROWS.out ki 0 (List.replicate a1.toNat (-1)) (by omega) (by have := HKI.out; have := HL5.out; omega) (by simp) (fun x hx => by rw [List.eq_of_mem_replicate hx]; omega)
                exact ⟨by rw [HYS.out]; simp, this.1, this.2⟩⟩
              have HU : Aside0 (unseen yS < a1.toNat + 1) := ⟨by rw [HYS.out]; simp [unseen]⟩
              go_wp2_with (first | ((with_reducible refine gate_dst (N := 63) rfl ?_); refine Kd.R_make Kd.bool _ 4 rfl (N := 63) rfl 52 _ _ rfl a1 rfl rfl Try.underlying52 (.bool false) 1 info52 rfl (by decide) (by omega) false (ok := fun _ => True) (okp := fun _ => True) rfl (fun _ hk => hk) trivial HA.out.2.2.1 (by have := HA.out; omega) (Below.refl _ _) (Nat.le_refl _) ?_; intro vS w11 ho_ hb hg_ hnew_; clear hg_ hnew_; rw [← HYS.out] at ho_; have n0_ := Aside0.mk (Kd.R_lower ho_ (below_size HB.out)); have n1_ := Aside0.mk (below_step HB.out hb); have m0_ := Aside0.mk (Kd.R_below HOF.out hb); have m1_ := Aside0.mk (blk_below BKO.out hb); clear HB HOF BKO; have HSF := n0_; have HB := n1_; have HOF := m0_; have BKO := m1_; clear n0_ n1_ m0_ m1_ hb ho_) | ((with_reducible refine gate_dst (N := 14) rfl ?_); refine box_event ?hg (N := 14) ?hd (cs := #[.slice none 0 0]) (t := 52) ?hr ?_; (case hd => rfl); (case hg => rfl); (case hr => first | (go_simp; done) | (go_simp; rfl)); intro bS hg_ w12 hbox hb; have n1_ := Aside0.mk (below_step HB.out hb); have BKS := Aside0.mk hbox; have GES := Aside0.mk ((by rw [hg_]; exact below_size HB.out) : W1.heap.size ≤ bS); have m0_ := Aside0.mk (Kd.R_below HOF.out hb); have m1_ := Aside0.mk (blk_below BKO.out hb); have m2_ := Aside0.mk (Kd.R_below HSF.out hb); clear HB HOF BKO HSF; have HB := n1_; have HOF := m0_; have BKO := m1_; have HSF := m2_; clear n1_ m0_ m1_ m2_ hb hbox hg_; have hcz : w12.cell? ⟨bS, 0, none⟩ = some (.slice none 0 0) := (blk_cell BKS.out 0).trans rfl; have hfz := blk_frozen BKS.out 0) | ((with_reducible refine gate_store (t := 52) (p := 14) rfl ?_); refine store_event (t := 52) (p := 14) (v := ?vo14) (w1 := (w12.setCell ⟨bS, 0, none⟩ vS)) ?hg ?ho ?hn ?hr ?_; (case ho => rfl); (case hg => rfl); (case hn => rfl); (case hr => (obtain ⟨Ax_, cx_, ex_⟩ := Kd.R_slice HSF.out; subst ex_; first | (go_simp; done) | (go_simp; rfl))); intro w13 hw; have n1_ := Aside0.mk (show w13.heap[bS]? = some (.cells #[vS] 52 (0, 0)) from by rw [hw]; exact blk_put (cs := #[.slice none 0 0]) BKS.out 0 _ rfl); have n2_ := Aside0.mk (show Below W1.heap.size W1 w13 from by rw [hw]; exact below_set HB.out GES.out); have m0_ := Aside0.mk (show Kd.R (Kd.int .i64) 3 w13 W1.heap.size (fun _ => True) (.slice AO y0.length cO) _ from by rw [hw]; exact Kd.R_set HOF.out BKS.out (by decide) 0 vS); have m1_ := Aside0.mk (show Kd.R Kd.bool 4 w13 W1.heap.size (fun _ => True) vS yS from by rw [hw]; exact Kd.R_set HSF.out BKS.out (by decide) 0 vS); have m2_ := Aside0.mk (show w13.heap[bO]? = some (.cells #[.slice AO y0.length cO] 23 (0, 0)) from by rw [hw]; exact (heap_other _ _ _ _ _ (type_ne BKO.out BKS.out (by decide))).trans BKO.out); clear BKS HB HOF HSF BKO hcz hfz hw; have BKS := n1_; have HB := n2_; have HOF := m0_; have HSF := m1_; have BKO := m2_; clear n1_ n2_ m0_ m1_ m2_) | ((with_reducible refine gate_dst (N := 15) rfl ?_); refine box_event ?hg (N := 15) ?hd (cs := #[.nilFunc]) (t := 60) ?hr ?_; (case hd => rfl); (case hg => rfl); (case hr => first | (go_simp; done) | (go_simp; rfl)); intro bF hg_ w14 hbox hb; have n1_ := Aside0.mk (below_step HB.out hb); have BKF := Aside0.mk hbox; have GEF := Aside0.mk ((by rw [hg_]; exact below_size HB.out) : W1.heap.size ≤ bF); have m0_ := Aside0.mk (Kd.R_below HOF.out hb); have m1_ := Aside0.mk (blk_below BKO.out hb); have m2_ := Aside0.mk (Kd.R_below HSF.out hb); have m3_ := Aside0.mk (blk_below BKS.out hb); clear HB HOF BKO HSF BKS; have HB := n1_; have HOF := m0_; have BKO := m1_; have HSF := m2_; have BKS := m3_; clear n1_ m0_ m1_ m2_ m3_ hb hbox hg_; have hcz : w14.cell? ⟨bF, 0, none⟩ = some (.nilFunc) := (blk_cell BKF.out 0).trans rfl; have hfz := blk_frozen BKF.out 0) | ((with_reducible refine gate_store (t := 60) (p := 15) rfl ?_); refine store_event (t := 60) (p := 15) (v := ?vo15) (w1 := (w14.setCell ⟨bF, 0, none⟩ (.func (.func 49) #[] #[.pointer (some ⟨bN, 0, none⟩), .pointer (some ⟨bS, 0, none⟩), .pointer (some ⟨bO, 0, none⟩), .pointer (some ⟨bF, 0, none⟩)]))) ?hg ?ho ?hn ?hr ?_; (case ho => rfl); (case hg => rfl); (case hn => rfl); (case hr => (first | (go_simp; done) | (go_simp; rfl))); intro w15 hw; have n1_ := Aside0.mk (show w15.heap[bF]? = some (.cells #[(.func (.func 49) #[] #[.pointer (some ⟨bN, 0, none⟩), .pointer (some ⟨bS, 0, none⟩), .pointer (some ⟨bO, 0, none⟩), .pointer (some ⟨bF, 0, none⟩)])] 60 (0, 0)) from by rw [hw]; exact blk_put (cs := #[.nilFunc]) BKF.out 0 _ rfl); have n2_ := Aside0.mk (show Below W1.heap.size W1 w15 from by rw [hw]; exact below_set HB.out GEF.out); have m0_ := Aside0.mk (show Kd.R (Kd.int .i64) 3 w15 W1.heap.size (fun _ => True) (.slice AO y0.length cO) _ from by rw [hw]; exact Kd.R_set HOF.out BKF.out (by decide) 0 _); have m1_ := Aside0.mk (show Kd.R Kd.bool 4 w15 W1.heap.size (fun _ => True) vS yS from by rw [hw]; exact Kd.R_set HSF.out BKF.out (by decide) 0 _); have m2_ := Aside0.mk (show w15.heap[bO]? = some (.cells #[.slice AO y0.length cO] 23 (0, 0)) from by rw [hw]; exact (heap_other _ _ _ _ _ (type_ne BKO.out BKF.out (by decide))).trans BKO.out); have m3_ := Aside0.mk (show w15.heap[bS]? = some (.cells #[vS] 52 (0, 0)) from by rw [hw]; exact (heap_other _ _ _ _ _ (type_ne BKS.out BKF.out (by decide))).trans BKS.out); clear BKF HB HOF HSF BKO BKS hcz hfz hw; have BKF := n1_; have HB := n2_; have HOF := m0_; have HSF := m1_; have BKO := m2_; have BKS := m3_; clear n1_ n2_ m0_ m1_ m2_ m3_; have hcf := (blk_cell BKF.out 0).trans rfl) | (go_at_call 49; refine (clo29 W1 bN bS bO bF AN cN a1.toNat x5 vS (.slice AO y0.length cO) HBN.out HCN.out HROWS.out (a1.toNat + 1) (ki : Int) yS _ _ (by omega) (by have := HL5.out; omega) HU.out HG.out ⟨HB.out, GES.out, GEO.out, GEF.out, BKS.out, BKO.out, BKF.out, HSF.out, HOF.out⟩).mono ?_; rintro e W' ⟨rfl, hF⟩; have HFS := Aside0.mk hF; clear hF))
              go_roundg (a0.toNat - (ki + 1))
              case measure => have := HKI.out; have := HA.out; omega
              case rel => exact ⟨ki + 1, by go_num, ⟨by have := HKI.out; have := HA.out; omega⟩, ⟨by rw [kuhn_snoc]; have h := HFS.out.rowO; rw [HYS.out] at h; rw [show (0 : Int) + (ki : Int) = (ki : Int) by omega]; exact h⟩, ⟨HFS.out.boxO⟩, ⟨HFS.out.below⟩⟩
            · have hki2 : ki = a0.toNat := by have := HKI.out; have := HA.out; omega
              have HO3 : Aside0 (Kd.R (Kd.int .i64) 3 wr W1.heap.size (fun _ => True) (.slice AO y0.length cO) (kuhn x5 a1.toNat a0.toNat 0 (List.replicate a1.toNat (-1)))) := ⟨by rw [← hki2]; exact HOF.out⟩
              clear hki2 HOF hki
              obtain ⟨yT, hyT⟩ : ∃ y_ : List Int, y_ = List.replicate a0.toNat 0 := ⟨_, rfl⟩
              have HYT := Aside0.mk hyT
              have hyT1 : yT.length = a0.toNat := by rw [hyT, List.length_replicate]
              have HYL := Aside0.mk hyT1
              clear hyT hyT1
              obtain ⟨oF, hoF⟩ : ∃ y_ : List Int, y_ = kuhn x5 a1.toNat a0.toNat 0 (List.replicate a1.toNat (-1)) := ⟨_, rfl⟩
              rw [← hoF] at HO3
              have HOFE := Aside0.mk hoF
              have HOFG : Aside0 (oF.length = a1.toNat ∧ ∀ x ∈ oF, x < (a0.toNat : Int)) := ⟨by
                rw [hoF]
                exact kuhn_good (n := a0.toNat) HROWS.out a0.toNat 0 (List.replicate a1.toNat (-1)) (by omega) (by omega) (by simp) (fun x hx => by rw [List.eq_of_mem_replicate hx]; have := HA.out; omega)⟩
              clear hoF
              go_wp2_with (first | ((with_reducible refine gate_dst (N := 70) rfl ?_); refine Kd.R_make (Kd.int .i64) _ 3 rfl (N := 70) rfl 23 _ _ rfl a0 rfl rfl Try.underlying23 (.int .i64 0) 8 info3 rfl (by decide) (by omega) 0 (ok := fun _ => True) (okp := fun _ => True) rfl (fun _ hk => hk) trivial HA.out.1 (by have := HA.out; omega) (Below.refl _ _) (Nat.le_refl _) ?_; intro vT w16 ho_ hb hg_ hnew_; clear hg_ hnew_; rw [← HYT.out] at ho_; have n0_ := Aside0.mk (Kd.R_lower ho_ (below_size HB.out)); have n1_ := Aside0.mk (below_step HB.out hb); have m0_ := Aside0.mk (Kd.R_elder' HO3.out (Kd.R_base ho_) hb); have m1_ := Aside0.mk (blk_below BKO.out hb); clear HB HO3 BKO; have HTF := n0_; have HB := n1_; have HO3 := m0_; have BKO := m1_; clear n0_ n1_ m0_ m1_ hb ho_; obtain ⟨AT, cT, eT⟩ := Kd.R_slice HTF.out; subst eT))
              go_loopg [73] yT.length (fun gg v73 W' => ∃ kk : Nat, v73 = .int .i64 kk ∧ Aside0 (kk ≤ yT.length ∧ yT.length - kk ≤ gg) ∧ Aside0 (Kd.R (Kd.int .i64) 3 W' W1.heap.size (fun k_ => True ∧ some k_ ≠ (.slice AT yT.length cT : Value).ownBlock) (.slice AO y0.length cO) oF) ∧ Aside0 (Kd.R (Kd.int .i64) 3 W' W1.heap.size (fun _ => True) (.slice AT yT.length cT) (List.replicate kk (-1) ++ List.replicate (yT.length - kk) 0)) ∧ Aside0 (W'.heap[bO]? = some (.cells #[.slice AO y0.length cO] 23 (0, 0))) ∧ Aside0 (Below W1.heap.size W1 W'))
              case atStart => exact ⟨0, rfl, ⟨by omega, by omega⟩, HO3, ⟨by have := HTF.out; rw [HYT.out] at this ⊢; simpa using this⟩, BKO, HB⟩
              case round =>
                clear HO3 HTF BKO HB
                obtain ⟨kt, rfl, HKT, HOF, HTF, BKO, HB⟩ := hrel
                have hym : yT.length ≤ 64 := by have := HYL.out; have := HA.out; omega
                by_cases hlt2 : kt < yT.length
                · have hltz : (kt : Int) < (yT.length : Int) := by omega
                  obtain ⟨gT, cT', eT, hgT, hgT2, hgT3⟩ := Kd.R_form HTF.out (by simp; omega)
                  injection eT with e1 e2 e3
                  subst e1
                  clear e2 e3 hgT2
                  obtain ⟨hx, hf⟩ := Kd.R_celln 0 HTF.out (kt : Int) (by omega) hltz
                  rw [Int.toNat_natCast] at hx hf
                  have GB := Aside0.mk hgT
                  have GT := Aside0.mk hgT3
                  clear hgT hgT3
                  go_wp2
                  have hR := Kd.R_putg HTF.out (kt : Int) (-1)
                  rw [Int.toNat_natCast] at hR
                  go_roundg (yT.length - (kt + 1))
                  case measure => have := HKT.out; omega
                  case rel =>
                    refine ⟨kt + 1, by go_num, ⟨by have := HKT.out; omega⟩, ⟨Kd.R_after (v := .slice (some ⟨gT, 0, none⟩) yT.length cT) (v1 := .slice (some ⟨gT, 0, none⟩) yT.length cT) (ok := fun _ => True) HOF.out hR.2 (.inl rfl)⟩, ⟨?_⟩, ⟨?_⟩, ⟨below_set HB.out GB.out⟩⟩
                    · have h := hR.1; rw [put_next kt _ (-1) 0 hlt2] at h; exact h
                    · obtain ⟨_, h⟩ := GT.out; rw [heap_other _ _ _ _ _ (type_ne BKO.out h (by decide))]; exact BKO.out
                · have hltz : ¬ (kt : Int) < (yT.length : Int) := by omega
                  have hkk : kt = yT.length := by have := HKT.out; omega
                  have HT2 : Aside0 (Kd.R (Kd.int .i64) 3 wr W1.heap.size (fun _ => True) (.slice AT yT.length cT) (List.replicate a0.toNat (-1))) := ⟨by have := HTF.out; rw [hkk, Nat.sub_self, HYL.out] at this; rw [HYL.out]; simpa using this⟩
                  have hco := blk_cell BKO.out 0
                  clear hkk HTF
                  go_wp2
                  clear hltz hlt2 hco
                  go_loopg [82] y0.length (fun gg v82 W' => ∃ (kk : Nat) (out : List Int), v82 = .int .i64 kk ∧ Aside0 (kk ≤ y0.length ∧ y0.length - kk ≤ gg) ∧ Aside0 (out = outOf (oF.take kk) 0 (List.replicate a0.toNat (-1))) ∧ Aside0 (Kd.R (Kd.int .i64) 3 W' W1.heap.size (fun k_ => True ∧ some k_ ≠ (.slice AT yT.length cT : Value).ownBlock) (.slice AO y0.length cO) oF) ∧ Aside0 (Kd.R (Kd.int .i64) 3 W' W1.heap.size (fun _ => True) (.slice AT yT.length cT) out) ∧ Aside0 (Below W1.heap.size W1 W'))
                  case atStart => exact ⟨0, _, rfl, ⟨by omega, by omega⟩, ⟨rfl⟩, HOF, HT2, HB⟩
                  case round =>
                    clear HOF HT2 HB BKO
                    obtain ⟨kf, out, rfl, HKF, HOUT, HOF, HTF, HB⟩ := hrel
                    have hym2 : y0.length ≤ 64 := by have := HY1.out; have := HA.out; omega
                    have hol : out.length = yT.length := by rw [HOUT.out, outOf_len, List.length_replicate, HYL.out]
                    have HOL := Aside0.mk hol
                    clear hol
                    by_cases hlt3 : kf < y0.length
                    · have hltz : (kf : Int) < (y0.length : Int) := by omega
                      have hlf : kf < oF.length := by have := HOFG.out.1; have := HY1.out; omega
                      obtain ⟨gO, cO', eO, hgO, hgO2, hgO3⟩ := Kd.R_form HOF.out (by omega)
                      injection eO with e1 e2 e3
                      subst e1
                      clear e2 e3 hgO2 hgO hgO3
                      obtain ⟨hx, hf⟩ := Kd.R_celln 0 HOF.out (kf : Int) (by omega) hltz
                      rw [Int.toNat_natCast] at hx
                      have hrd : rdOf 0 oF (kf : Int) = rd oF (kf : Int) := rfl
                      rw [hrd] at hx
                      have hxl := HOFG.out.2 _ (rd_mem oF (kf : Int) (by omega) (by omega))
                      have hsn : outOf (oF.take (kf + 1)) 0 (List.replicate a0.toNat (-1)) = if rd oF (kf : Int) ≥ 0 then out.set (rd oF (kf : Int)).toNat (kf : Int) else out := by
                        rw [List.take_succ_eq_append_getElem hlf, outOf_snoc, ← HOUT.out]
                        have h1 : oF[kf] = rd oF (kf : Int) := by simp [rd, List.getD_eq_getElem?_getD, List.getElem?_eq_getElem hlf]
                        rw [h1, List.length_take, Nat.min_eq_left (by omega)]
                        simp
                      have HSN := Aside0.mk hsn
                      clear hsn hf hrd
                      generalize hxx : rd oF (kf : Int) = x at hx hxl HSN
                      clear hxx
                      by_cases hx0 : x ≥ 0
                      · have hd : decide (0 ≤ x) = true := decide_eq_true hx0
                        have HX0 := Aside0.mk hx0
                        have HXL := Aside0.mk hxl
                        have p1 : (0 ≤ x) = True := eq_true hx0
                        have p2 : (x < (yT.length : Int)) = True := eq_true (by have := HYL.out; omega)
                        clear hx0 hxl
                        obtain ⟨gT, cT', eT, hgT, hgT2, hgT3⟩ := Kd.R_form HTF.out (by have := HOL.out; have := HYL.out; have := HXL.out; have := HX0.out; omega)
                        injection eT with e1 e2 e3
                        subst e1
                        clear e2 e3 hgT2
                        obtain ⟨hx2, hf2⟩ := Kd.R_celln 0 HTF.out x HX0.out (of_eq_true p2)
                        have GB := Aside0.mk hgT
                        have GT := Aside0.mk hgT3
                        clear hgT hgT3
                        go_wp2
                        have hR := Kd.R_putg HTF.out x (kf : Int)
                        go_roundg (y0.length - (kf + 1))
                        case measure => have := HKF.out; omega
                        case rel =>
                          exact ⟨kf + 1, _, by go_num, ⟨by have := HKF.out; omega⟩, ⟨by rw [HSN.out, if_pos HX0.out]⟩, ⟨Kd.R_after (v := .slice (some ⟨gT, 0, none⟩) yT.length cT) (v1 := .slice (some ⟨gT, 0, none⟩) yT.length cT) (ok := fun _ => True) HOF.out hR.2 (.inl rfl)⟩, ⟨hR.1⟩, ⟨below_set HB.out GB.out⟩⟩
                      · have hd : decide (0 ≤ x) = false := decide_eq_false hx0
                        have HX0 := Aside0.mk hx0
                        clear hx0 hxl
                        go_wp2
                        go_roundg (y0.length - (kf + 1))
                        case measure => have := HKF.out; omega
                        case rel => exact ⟨kf + 1, _, by go_num, ⟨by have := HKF.out; omega⟩, ⟨by rw [HSN.out, if_neg (show ¬ x ≥ 0 by have := HX0.out; omega)]⟩, HOF, HTF, HB⟩
                    · have hltz : ¬ (kf : Int) < (y0.length : Int) := by omega
                      have HFIN : Aside0 (out = mostL a0.toNat a1.toNat l2) := ⟨by
                        rw [HOUT.out, List.take_of_length_le (by have := HOFG.out.1; have := HY1.out; have := HKF.out; omega), HOFE.out, HX.out]; rfl⟩
                      go_wp2
                      go_ret2
                      exact ⟨_, rfl, by rw [← HFIN.out]; exact Kd.R_lower HTF.out (below_size HBW.out), below_step HBW.out HB.out⟩

theorem match_Most.calls (a0 : Int) (a1 : Int) (A2 : Option Addr) (c2 : Nat) (l2 : List (S33)) (r1 : List Int) (r2 : Int) (w : World) (hr2 : Kd.C k33 w A2 l2.length l2) (hc2 : l2.length ≤ c2) (h : match_Most.f a0 a1 l2 = some (r1, r2)) :
    Calls Try.prog 27 #[.int .i64 a0, .int .i64 a1, .slice A2 l2.length c2] w fun e w' => ∃ v0_ : Value, e = .returned (.tuple #[v0_, .int .i64 r2]) ∧ Kd.R (Kd.int .i64) 3 w' w.heap.size (fun _ => True) v0_ r1 ∧ Below w.heap.size w w' := by
  unfold match_Most.f at h
  by_cases hb : rightB a0 a1 l2 = true
  · rw [if_pos hb] at h
    injection h with h; injection h with h1 h2; subst h1; subst h2
    exact most_yes a0 a1 A2 c2 l2 w hr2 hc2 hb
  · rw [if_neg hb] at h
    injection h with h; injection h with h1 h2; subst h1; subst h2
    exact (most_no a0 a1 A2 c2 l2 w hr2 hc2 (by simpa using hb)).mono fun e w' h => ⟨_, h.1, Kd.R_nil _ _ _ _ _, h.2⟩
end Go.Proofs.Ytlaneafplmbcnaa.PO

namespace Go.Proofs.Ytlaneafplmbcnaa.PO
open Go.RowKit Go.Proofs.YtlaneafplmbcnaaW.PrintWords Go.Proofs.YtlaneafplmbcnaaW.PrintLast Go.Proofs.YtlaneafplmbcnaaW.PrintMore
set_option linter.unusedVariables false
set_option linter.unusedSimpArgs false

/-- An edge between a row and a column. -/
def isE (i j : Int) (e : S33) : Bool := if e.f0 = i then decide (e.f1 = j) else false
/-- Is what is told a whole matching? What is still to come. -/
def toldL (n : Int) (l : List S33) : List Int → Int → List Bool → Bool
  | [], _, _ => true
  | j :: js, i, s => if j < 0 then false else if j ≥ n then false else if rdOf false s j = true then false else if l.any (isE i j) = true then toldL n l js (i + 1) (s.set j.toNat true) else false
def toldB (n : Int) (l : List S33) (told : List Int) : Bool :=
  if rightB n n l = true then (if (told.length : Int) = n then toldL n l told 0 (List.replicate n.toNat false) else false) else false
def order_right.f (a0 : Int) (l1 : List S33) (l2 : List Int) : Option Bool := some (toldB a0 l1 l2)

set_option maxHeartbeats 1000000 in
set_option maxRecDepth 100000 in
theorem clo36 (a b : Int) (e : S33) (B1 B2 : Addr) (w : World) (h1 : w.cell? B1 = some (.int .i64 a)) (h2 : w.cell? B2 = some (.int .i64 b)) :
    Calls Try.prog 29 #[.agg #[.int .i64 e.f0, .int .i64 e.f1, .int .i64 e.f2], .pointer (some B1), .pointer (some B2)] w fun r w' => r = .returned (.bool (isE a b e)) ∧ Below w.heap.size w w' := by
  have hu40 := Try.underlying33
  have g1 : ∀ o, (w.alloc o).cell? B1 = some (.int .i64 a) := fun o => (World.cell?_alloc_lt w o B1 (World.block_lt_of_cell? w B1 h1)).trans h1
  have g2 : ∀ o, (w.alloc o).cell? B2 = some (.int .i64 b) := fun o => (World.cell?_alloc_lt w o B2 (World.block_lt_of_cell? w B2 h2)).trans h2
  clear h1 h2
  have hb : ∀ o, Below w.heap.size w (w.alloc o) := fun o => below_alloc (Below.refl _ _) o
  have HB := Aside0.mk hb
  clear hb
  generalize hx : isE a b e = r
  unfold isE at hx
  have H := Aside0.mk hx
  clear hx
  go_enter Try.func29, Try.ntmps29
  by_cases c1 : e.f0 = a
  · have d1 : (e.f0 == a) = true := by simpa using c1
    have H1 := Aside0.mk (show decide (e.f1 = b) = r by have := H.out; rw [if_pos c1] at this; exact this)
    clear c1 H
    by_cases c2 : e.f1 = b
    · have d2 : (e.f1 == b) = true := by simpa using c2
      have hr : true = r := by have := H1.out; rw [decide_eq_true c2] at this; exact this
      subst hr; clear c2 H1
      go_wp2
      go_ret
      exact ⟨rfl, HB.out _⟩
    · have d2 : (e.f1 == b) = false := by simpa using c2
      have hr : false = r := by have := H1.out; rw [decide_eq_false c2] at this; exact this
      subst hr; clear c2 H1
      go_wp2
      go_ret
      exact ⟨rfl, HB.out _⟩
  · have d1 : (e.f0 == a) = false := by simpa using c1
    have hr : false = r := by have := H.out; rw [if_neg c1] at this; exact this
    subst hr; clear c1 H
    go_wp2
    go_ret
    exact ⟨rfl, HB.out _⟩
theorem e36 : ∀ args w, (callFunc 29 args).run Try.prog w = .ok (.enter 29 args) w := enters_of Try.func29 (by kernel_rfl) rfl
theorem cont36 (i j : Int) (B1 B2 : Addr) (A : Option Addr) (c : Nat) (l : List S33) (w : World) (hr : Kd.C k33 w A l.length l) (hc : l.length ≤ c) (h1 : w.cell? B1 = some (.int .i64 i)) (h2 : w.cell? B2 = some (.int .i64 j)) :
    Calls Try.prog 28 #[.slice A l.length c, .func (.func 29) #[] #[.pointer (some B1), .pointer (some B2)]] w fun e w' => e = .returned (.bool (l.any (isE i j))) ∧ Below w.heap.size w w' :=
  cont34 29 _ (isE i j) e36 A c l w hr hc fun W x hb => clo36 i j x _ _ W ((hb.cell (World.block_lt_of_cell? w _ h1)).trans h1) ((hb.cell (World.block_lt_of_cell? w _ h2)).trans h2)

set_option maxHeartbeats 2000000 in
set_option maxRecDepth 100000 in
theorem order_right.calls (a0 : Int) (A1 : Option Addr) (c1 : Nat) (l1 : List S33) (A2 : Option Addr) (c2 : Nat) (l2 : List Int) (r : Bool) (w : World) (hr1 : Kd.C k33 w A1 l1.length l1) (hc1 : l1.length ≤ c1) (hr2 : Kd.C (Kd.int .i64) w A2 l2.length l2) (hc2 : l2.length ≤ c2) (h : order_right.f a0 l1 l2 = some r) :
    Calls Try.prog 16 #[.int .i64 a0, .slice A1 l1.length c1, .slice A2 l2.length c2] w fun e w' => e = .returned (.bool r) ∧ Below w.heap.size w w' := by
  have hr0 : toldB a0 l1 l2 = r := Option.some.inj h
  clear h
  have hlen2 := hr2.2.1
  have HR1 := Aside0.mk hr1
  have HR2 := Aside0.mk hr2
  have HC1 := Aside0.mk hc1
  clear hr1 hr2 hc1 hc2
  by_cases hb : rightB a0 a0 l1 = true
  · have hm := match_Most.calls a0 a0 A1 c1 l1 (mostL a0.toNat a0.toNat l1) 0 w HR1.out HC1.out (by unfold match_Most.f; rw [if_pos hb])
    obtain ⟨⟨ha0, ha1, _, _, hlen⟩, hed⟩ := rightB_iff a0 a0 l1 hb
    have HM := Aside0.mk hm
    unfold toldB at hr0
    rw [if_pos hb] at hr0
    clear hm hb hed hlen
    by_cases hl : (l2.length : Int) = a0
    · rw [if_pos hl] at hr0
      have d1 : ((l2.length : Int) != a0) = false := by simpa using hl
      have HA := Aside0.mk (show 0 ≤ a0 ∧ a0 ≤ 64 ∧ (l2.length : Int) = a0 from ⟨ha0, ha1, hl⟩)
      have HR0 := Aside0.mk hr0
      clear hl hr0 ha0 ha1
      obtain ⟨yS, hyS⟩ : ∃ y_ : List Bool, y_ = List.replicate a0.toNat false := ⟨_, rfl⟩
      have HYS := Aside0.mk hyS
      clear hyS
      go_enter Try.func16, Try.ntmps16
      go_wp2_with (first | (go_at_call 27; refine HM.out.mono ?_; rintro e w5 ⟨vM, rfl, hR_, hb'⟩; have HB := Aside0.mk hb'; clear hb' hR_) | ((with_reducible refine gate_dst (N := 28) rfl ?_); refine Kd.R_make Kd.bool _ 4 rfl (N := 28) rfl 52 _ _ rfl a0 rfl rfl Try.underlying52 (.bool false) 1 info52 rfl (by decide) (by omega) false (ok := fun _ => True) (okp := fun _ => True) rfl (fun _ hk => hk) trivial HA.out.1 (by have := HA.out; omega) (Below.refl _ _) (Nat.le_refl _) ?_; intro vS w6 ho_ hb hg_ hnew_; clear hg_ hnew_; rw [← HYS.out] at ho_; have n0_ := Aside0.mk (Kd.R_lower ho_ (below_size HB.out)); have n1_ := Aside0.mk (below_step HB.out hb); clear HB; have HSF := n0_; have HB := n1_; clear n0_ n1_ hb ho_; obtain ⟨AS, cS, eS⟩ := Kd.R_slice HSF.out; subst eS))
      go_loopg [31] l2.length (fun gg v31 W' => ∃ (kk : Nat) (s : List Bool), v31 = .int .i64 kk ∧ Aside0 (kk ≤ l2.length ∧ l2.length - kk ≤ gg) ∧ Aside0 (toldL a0 l1 (l2.drop kk) kk s = r) ∧ Aside0 (s.length = yS.length) ∧ Aside0 (Kd.R Kd.bool 4 W' w.heap.size (fun _ => True) (.slice AS yS.length cS) s) ∧ Aside0 (Below w.heap.size w W'))
      case atStart => exact ⟨0, yS, rfl, ⟨by omega, by omega⟩, ⟨by have := HR0.out; rw [← HYS.out] at this; exact this⟩, ⟨rfl⟩, HSF, HB⟩
      case round =>
        clear HSF HB HR0
        obtain ⟨kk, s, rfl, HK, HE, HSL, HSF, HB⟩ := hrel
        have hyl : Aside0 ((yS.length : Int) = a0) := ⟨by rw [HYS.out, List.length_replicate]; have := HA.out; omega⟩
        by_cases hlt : kk < l2.length
        · have hltz : (kk : Int) < (l2.length : Int) := by omega
          obtain ⟨aj, rfl, hxj⟩ := Kd.at_int HR2.out (kk : Int) (by omega) hltz
          rw [Int.toNat_natCast] at hxj
          replace hxj := (HB.out.cell (World.block_lt_of_cell? w _ hxj)).trans hxj
          have hd : l2.drop kk = rd l2 (kk : Int) :: l2.drop (kk + 1) := by
            rw [List.drop_eq_getElem_cons hlt]; congr 1; simp [rd, List.getD_eq_getElem?_getD, List.getElem?_eq_getElem hlt]
          have he := HE.out
          rw [hd] at he
          generalize rd l2 (kk : Int) = j at hxj he
          clear hd HE
          unfold toldL at he
          by_cases q1 : j < 0
          · rw [if_pos q1] at he
            have d2 : decide (j < 0) = true := decide_eq_true q1
            clear q1
            subst he
            go_wp2
            go_ret
            exact ⟨rfl, by repeat (first | (with_reducible first | exact HB.out | apply below_alloc | apply pw_below_drewN | apply below_drew1) | exact HB.out)⟩
          rw [if_neg q1] at he
          have d2 : decide (j < 0) = false := decide_eq_false q1
          by_cases q2 : j ≥ a0
          · rw [if_pos q2] at he
            have d3 : decide (a0 ≤ j) = true := decide_eq_true q2
            clear q1 q2
            subst he
            go_wp2
            go_ret
            exact ⟨rfl, by repeat (first | (with_reducible first | exact HB.out | apply below_alloc | apply pw_below_drewN | apply below_drew1) | exact HB.out)⟩
          rw [if_neg q2] at he
          have d3 : decide (a0 ≤ j) = false := decide_eq_false q2
          have hjs : j < (s.length : Int) := by have := HSL.out; have := hyl.out; omega
          have hjy : j < (yS.length : Int) := by have := hyl.out; omega
          have hj0 : 0 ≤ j := by omega
          clear q1 q2
          obtain ⟨gS, cS', eS, hgS, hgS2, hgS3⟩ := Kd.R_form HSF.out (by omega)
          injection eS with e1 e2 e3
          subst e1
          clear e2 e3 hgS2
          obtain ⟨hS1, hS2⟩ := Kd.R_celln false HSF.out j hj0 hjy
          have p1 := eq_true hj0
          have p2 := eq_true hjy
          have hgl : gS < wr.heap.size := (Array.getElem?_eq_some_iff.1 hgS3.choose_spec).1
          have GS := Aside0.mk hgS
          have GT := Aside0.mk hgS3
          have HJS := Aside0.mk hjs
          clear hgS hgS3 hjs
          by_cases q3 : rdOf false s j = true
          · rw [if_pos q3] at he
            have q3' := q3
            rw [q3'] at hS1
            subst he
            clear q3 q3'
            go_wp2
            go_ret
            exact ⟨rfl, by repeat (first | (with_reducible first | exact HB.out | apply below_alloc | apply pw_below_drewN | apply below_drew1) | exact HB.out)⟩
          · rw [if_neg q3] at he
            have q3' : rdOf false s j = false := by simpa using q3
            rw [q3'] at hS1
            clear q3 q3'
            have hcall := cont36 (kk : Int) j ⟨wr.heap.size, 0, none⟩ ⟨wr.heap.size + 1, 0, none⟩ A1 c1 l1 ((wr.alloc (.cells #[.int .i64 (kk : Int)] 3)).alloc (.cells #[.int .i64 j] 3)) (Kd.C_below HR1.out (by repeat (first | (with_reducible first | exact HB.out | apply below_alloc | apply pw_below_drewN | apply below_drew1) | exact HB.out))) HC1.out (by simp) (by simp)
            by_cases q4 : l1.any (isE (kk : Int) j) = true
            · rw [if_pos q4] at he
              rw [q4] at hcall
              have HCALL := Aside0.mk hcall
              have HE := Aside0.mk he
              clear hcall he q4
              have hbr : Below wr.heap.size wr ((wr.alloc (.cells #[.int .i64 (kk : Int)] 3)).alloc (.cells #[.int .i64 j] 3)) := by repeat (first | (with_reducible first | exact Below.refl _ _ | apply below_alloc | apply pw_below_drewN | apply below_drew1) | exact Below.refl _ _)
              have HBR := Aside0.mk hbr
              clear hbr
              go_wp2_with (go_at_call 28; refine HCALL.out.mono ?_; rintro e w9 ⟨rfl, hb'⟩; have hcj : w9.cell? ⟨wr.heap.size + 1, 0, none⟩ = some (.int .i64 j) := (hb'.cell (p := ⟨wr.heap.size + 1, 0, none⟩) (by simp)).trans (by simp); have hb2 := Aside0.mk (below_step HBR.out hb'); clear hb'; have HS9 := Aside0.mk (Kd.R_below HSF.out hb2.out); clear hS1 hS2; obtain ⟨hS1, hS2⟩ := Kd.R_celln false HS9.out j hj0 hjy)
              have hR := Kd.R_putg HS9.out j true
              go_roundg (l2.length - (kk + 1))
              case measure => have := HK.out; omega
              case rel => exact ⟨kk + 1, s.set j.toNat true, by go_num, ⟨by have := HK.out; omega⟩, ⟨by have := HE.out; rw [show ((kk + 1 : Nat) : Int) = (kk : Int) + 1 by omega]; exact this⟩, ⟨by rw [List.length_set]; exact HSL.out⟩, ⟨hR.1⟩, ⟨below_set (below_step HB.out hb2.out) GS.out⟩⟩
            · have q4' : l1.any (isE (kk : Int) j) = false := by simpa using q4
              rw [if_neg q4] at he
              rw [q4'] at hcall
              have HCALL := Aside0.mk hcall
              subst he
              clear hcall q4 q4'
              go_wp2_with (go_at_call 28; refine HCALL.out.mono ?_; rintro e w9 ⟨rfl, hb'⟩)
              go_ret
              exact ⟨rfl, below_step (by repeat (first | (with_reducible first | exact HB.out | apply below_alloc | apply pw_below_drewN | apply below_drew1) | exact HB.out)) hb'⟩
        · have hltz : ¬ (kk : Int) < (l2.length : Int) := by omega
          have hr : true = r := by have := HE.out; rw [List.drop_eq_nil_of_le (by omega)] at this; exact this
          subst hr
          go_wp2
          go_ret
          exact ⟨rfl, HB.out⟩
    · rw [if_neg hl] at hr0
      subst hr0
      have d1 : ((l2.length : Int) != a0) = true := by simpa using hl
      clear hl
      go_enter Try.func16, Try.ntmps16
      go_wp2_with (go_at_call 27; refine HM.out.mono ?_; rintro e w5 ⟨vM, rfl, hR_, hb'⟩; have HB := Aside0.mk hb'; clear hb' hR_)
      go_ret
      exact ⟨rfl, HB.out⟩
  · have hm := match_Most.calls a0 a0 A1 c1 l1 [] 170 w HR1.out HC1.out (by unfold match_Most.f; rw [if_neg hb])
    have HM := Aside0.mk hm
    unfold toldB at hr0
    rw [if_neg hb] at hr0
    subst hr0
    clear hm hb
    go_enter Try.func16, Try.ntmps16
    go_wp2_with (go_at_call 27; refine HM.out.mono ?_; rintro e w5 ⟨vM, rfl, hR_, hb'⟩; have HB := Aside0.mk hb'; clear hb' hR_)
    go_ret
    exact ⟨rfl, HB.out⟩
end Go.Proofs.Ytlaneafplmbcnaa.PO
