/- Texts of this claim, one behind the other. -/
import Derived.Test.YtoonahobmlnflaaVc9
import Derived.Shelf.Small.Bits
import Derived.Shelf.Spec.BitsCarry
set_option linter.unusedVariables false
set_option linter.unusedSimpArgs false
set_option maxRecDepth 100000
set_option maxHeartbeats 16000000
namespace Go.Proofs.Ytoonahobmlnflaa.PC
open Go.RowKit Go.Shelf A B C
def pt46.T1 : Bool × List (List Nat × List Nat) := (true, [([], []), ([0], [0]), ([1], [1]), ([2], [2]), ([], []), ([3, 4], [3, 4]), ([5], [5]), ([6], [6]), ([6], [6]), ([7, 0, 1, 2, 3, 4, 5, 6, 7], [7]), ([8, 9, 0, 1, 2, 3, 4, 5, 6, 7, 8, 9], [8])])
def pt46.B1 : List Nat := [0, 1, 3, 7, 0, 31, 63, 127, 127, 255, 1023]
theorem pt46.tab1 : wD .any (opsOf Try.f46 1) = pt46.T1 := by kernel_rfl
theorem pt46.oY : xR pt46.T1.2 pt46.B1 = true := by kernel_rfl
def sA.T10 : Bool × List (List Nat × List Nat) := (true, [([], []), ([0], [0]), ([1], [1]), ([2, 1], [1, 2]), ([3, 1], [1, 3]), ([4, 1], [1, 4]), ([1], [1]), ([6, 1], [1, 6]), ([5, 7, 1], [1, 5, 7]), ([8, 1], [1, 8]), ([1, 9], [1, 9]), ([10, 1, 0, 1, 2, 3, 4, 5, 6, 7, 8, 9, 10], [0, 10])])
def sA.B10 : List Nat := [0, 1, 3, 7, 15, 31, 3, 67, 255, 511, 1023, 2047]
theorem sA.tab10 : wD .any (opsOf Try.f46 10) = sA.T10 := by kernel_rfl
theorem sA.bits10 : xR sA.T10.2 sA.B10 = true := by kernel_rfl
def tH.T12 : Bool × List (List Nat × List Nat) := (true, [([], []), ([0], [0]), ([1], [1]), ([2, 1], [1, 2]), ([3, 1], [1, 3]), ([4, 1], [1, 4]), ([1], [1]), ([6, 1], [1, 6]), ([5, 7, 1], [1, 5, 7]), ([8, 1], [1, 8]), ([1, 9], [1, 9]), ([10, 1, 0, 1, 2, 3, 4, 5, 6, 7, 8, 9, 10], [0, 10])])
def tH.B12 : List Nat := [0, 1, 3, 7, 15, 31, 3, 67, 255, 511, 1023, 2047]
theorem tH.tab12 : wD .any (opsOf Try.f46 12) = tH.T12 := by kernel_rfl
theorem tH.bits12 : xR tH.T12.2 tH.B12 = true := by kernel_rfl
def qD.T13 : Bool × List (List Nat × List Nat) := (true, [([], []), ([0], [0]), ([1], [1]), ([2], [2]), ([], []), ([], []), ([5], [5]), ([6], [6]), ([7], [7]), ([8], [8]), ([3, 4, 9, 0, 1, 2, 3, 4, 5, 6, 7, 8, 9], [3, 4, 9])])
def qD.B13 : List Nat := [0, 1, 3, 7, 0, 0, 32, 96, 224, 480, 1023]
theorem qD.tab13 : wD .any (opsOf Try.f46 13) = qD.T13 := by kernel_rfl
theorem qD.bits13 : xR qD.T13.2 qD.B13 = true := by kernel_rfl
def qE.T14 : Bool × List (List Nat × List Nat) := (true, [([], []), ([], []), ([], []), ([2], [2]), ([3], [3]), ([4], [4]), ([], []), ([6], [6]), ([5, 7], [5, 7]), ([], []), ([9], [9]), ([10], [10]), ([11], [11]), ([], []), ([13], [13]), ([12, 14, 8], [12, 14]), ([0, 0, 2, 3, 4, 5, 6, 7, 8, 12, 15], [0]), ([16, 0, 2, 3, 4, 5, 6, 7, 8, 12, 15], [16]), ([17, 8, 15, 0, 2, 3, 4, 5, 6, 7, 8, 12, 15], [8, 17]), ([1, 0, 1, 2, 3, 4, 5, 6, 7, 8, 9, 10, 11, 12, 13, 14, 15, 16, 17, 18], [1]), ([19, 0, 1, 2, 3, 4, 5, 6, 7, 8, 9, 10, 11, 12, 13, 14, 15, 16, 17, 18], [19]), ([20, 15, 18, 0, 1, 2, 3, 4, 5, 6, 7, 8, 9, 10, 11, 12, 13, 14, 15, 16, 17, 18], [15, 20])])
def qE.B14 : List Nat := [0, 0, 0, 4, 12, 28, 0, 64, 252, 0, 512, 1536, 3584, 0, 8192, 32764, 65533, 131069, 262141, 524287, 1048575, 2097151]
theorem qE.tab14 : wD .any (opsOf Try.f46 14) = qE.T14 := by kernel_rfl
theorem qE.bits14 : xR qE.T14.2 qE.B14 = true := by kernel_rfl
structure PF (base : Nat) (ok : Nat → Prop) (gG gM gb : Nat) (g : PG) (x : S37) (W0 V : World) : Prop where
  rep : rH base (fun k => ok k ∧ k ≠ gb) gG gM g V
  box : V.heap[gb]? = some (.cells (zC x) 37 (0, 0))
  vI : yB ok W0 V
theorem PF.step {base : Nat} {ok : Nat → Prop} {gG gM gb : Nat} {g : PG} {x : S37} {W0 V V' : World} (h : PF base ok gG gM gb g x W0 V) (hd : Below V.heap.size V V') : PF base ok gG gM gb g x W0 V' :=
  ⟨h.rep.step hd, bb_ h.box hd, h.vI.step hd⟩
theorem oV {base : Nat} {ok : Nat → Prop} {W : World} {At : Option Addr} {ct : Nat} {T : List Bool} (h : Kd.R Kd.bool 4 W base ok (.slice At T.length ct) T) (i : Int) (h0 : 0 ≤ i) (h1 : i < (T.length : Int)) : ∃ gT, At = some ⟨gT, 0, none⟩ ∧ W.cell? ⟨gT, i.toNat, none⟩ = some (.bool (zJ false T i)) := by
  cases At with
  | none =>
    obtain ⟨_, inner, ho, hr⟩ := h
    rcases ho.2 with ⟨hv, _⟩ | ⟨g, cap', cur, hv, _⟩
    · injection hv with _ hl _; omega
    · cases hv
  | some ad =>
    obtain ⟨gT, rfl⟩ := Go.Proofs.Ytoonahobmlnflaa.PC.A.Kd.R_head h
    exact ⟨gT, rfl, (Kd.yZ false h i h0 h1).1⟩
theorem run_box37 (x : S37) (W : World) : (Instr.box 37 (.agg (zC x))).run Try.prog W = .ok (.pointer (some ⟨W.heap.size, 0, none⟩)) (W.alloc (.cells (zC x) 37)) := by kernel_rfl
theorem put46 {base : Nat} {ok : Nat → Prop} {gG gM : Nat} {g : PG} {W : World} (h : rH base ok gG gM g W) (hf : ∀ k, W.heap.size ≤ k → ok k) (hbase : base ≤ W.heap.size) (x : S37)
    (ha : 0 < zI x.f0 → 0 ≤ x.f1 ∧ x.f1 < (g.L.length : Int)) (hb : 1 < zI x.f0 → 0 ≤ x.f2 ∧ x.f2 < (g.L.length : Int)) :
    Calls Try.prog 46 #[.pointer (some ⟨gG, 0, none⟩), .agg (zC x)] W fun e W' => e = .returned (.int .i64 (wJ g x).2) ∧ rH base ok gG gM (wJ g x).1 W' ∧ yB ok W W' := by
  have hu71 := Try.underlying71
  have hbx := run_box37 x
  have H := aq h
  have HF := aq hf
  have HA := aq ha
  have HB := aq hb
  clear h hf ha hb
  go_enter Try.func46, Try.ntmps46
  cases hidx : idxN g.L x with
  | some j =>
    have HP := aq (show wJ g x = (g, (j : Int)) by unfold wJ; rw [hidx])
    go_wp2_with ((with_reducible refine gD (N := 3) rfl ?_); refine bE ?hg (N := 3) ?hd (cs := zC x) (t := 37) ?hr ?_; (case hd => rfl); (case hg => rfl); (case hr => first | (go_simp; done) | (go_simp; rfl)); intro gb hgb w3 hbox hb3; have P3 := aq (show PF base ok gG gM gb g x W w3 from ⟨(H.out.avoid (by omega)).step hb3, hbox, yB.sP hb3⟩); clear hbox hb3 hgb)
    obtain ⟨An, cn, At, ct, hx1, _, _⟩ := P3.out.rep.blk
    obtain ⟨es, cl, hx2, hes⟩ := P3.out.rep.map
    have HES := aq hes
    have H1 := aq (show w3.drew.heap[gG]? = _ ∧ w3.drew.heap[gM]? = _ ∧ w3.drew.heap[gb]? = _ from ⟨hx1, hx2, P3.out.box⟩)
    have P3' := aq (P3.out.step (yX (Below.refl _ _)))
    clear P3 hx1 hx2 hes
    have P3 := P3'
    clear P3'
    refine xK (n := 11) (S := fun w' => w'.cell? ⟨gG, 2, none⟩ = some (.map (some gM)) ∧ w'.heap[gM]? = some (.map es cl) ∧ w'.heap[gb]? = some (.cells (zC x) 37 (0, 0))) (ds := []) (msk 11 0) (by kernel_rfl) rfl rfl ⟨(bq H1.out.1 2).trans rfl, H1.out.2.1, H1.out.2.2⟩ (fun hHeld => ?_); refine yO pt46.tab1 pt46.oY (fun HT_ HW_ => ?_)
    generalize w3.drew = w4 at P3 H1 hHeld ⊢
    refine pU 0 10 (msk 11 1) HT_.out ?_
    refine pU 1 11 (msk 11 3) HT_.out ?_
    refine pU 2 12 (msk 11 7) HT_.out ?_
    refine tU 3 13 (msk 11 15) HT_.out HW_.out hHeld ?_ ?_ ?_
    rotate_left
    · rintro w' ⟨s0, s1, s2⟩; go_simp; with_reducible rfl
    refine tU 4 14 (msk 11 31) HT_.out HW_.out hHeld ?_ ?_ ?_
    rotate_left
    · rintro w' ⟨s0, s1, s2⟩; rw [qZ (x := x) (hx := s2)]; all_goals rfl
    refine tU 5 15 (msk 11 63) HT_.out HW_.out hHeld ?_ ?_ ?_
    rotate_left
    · rintro w' ⟨s0, s1, s2⟩; rw [nM (L := g.L) (x := x) (r := .int .i64 (j : Int)) (b := true) (h := HES.out) (hx := s1) (hr := by rw [hidx]) (hb := by rw [hidx]; rfl)]; all_goals rfl
    refine pU 6 9 (msk 11 127) HT_.out ?_
    refine pU 7 16 (msk 11 255) HT_.out ?_
    refine pU 8 17 (msk 11 511) HT_.out ?_
    refine pU 9 5 (msk 11 1023) HT_.out ?_
    refine pU 10 6 (msk 11 2047) HT_.out ?_
    refine wX (yG HT_.out (by kernel_rfl)) ?_
    go_wp2
    go_ret
    exact ⟨by rw [HP.out]; rfl, by rw [HP.out]; exact P3.out.rep.mono (fun _ hk => hk.1), P3.out.vI⟩
  | none =>
    go_wp2_with ((with_reducible refine gD (N := 3) rfl ?_); refine bE ?hg (N := 3) ?hd (cs := zC x) (t := 37) ?hr ?_; (case hd => rfl); (case hg => rfl); (case hr => first | (go_simp; done) | (go_simp; rfl)); intro gb hgb w3 hbox hb3; have P3 := aq (show PF base ok gG gM gb g x W w3 from ⟨(H.out.avoid (by omega)).step hb3, hbox, yB.sP hb3⟩); clear hbox hb3 hgb)
    obtain ⟨An, cn, At, ct, hx1, _, _⟩ := P3.out.rep.blk
    obtain ⟨es, cl, hx2, hes⟩ := P3.out.rep.map
    have HES := aq hes
    have H1 := aq (show w3.drew.heap[gG]? = _ ∧ w3.drew.heap[gM]? = _ ∧ w3.drew.heap[gb]? = _ from ⟨hx1, hx2, P3.out.box⟩)
    have P3' := aq (P3.out.step (yX (Below.refl _ _)))
    clear P3 hx1 hx2 hes
    have P3 := P3'
    clear P3'
    refine xK (n := 11) (S := fun w' => w'.cell? ⟨gG, 2, none⟩ = some (.map (some gM)) ∧ w'.heap[gM]? = some (.map es cl) ∧ w'.heap[gb]? = some (.cells (zC x) 37 (0, 0))) (ds := []) (msk 11 0) (by kernel_rfl) rfl rfl ⟨(bq H1.out.1 2).trans rfl, H1.out.2.1, H1.out.2.2⟩ (fun hHeld => ?_); refine yO pt46.tab1 pt46.oY (fun HT_ HW_ => ?_)
    generalize w3.drew = w4 at P3 H1 hHeld ⊢
    refine pU 0 10 (msk 11 1) HT_.out ?_
    refine pU 1 11 (msk 11 3) HT_.out ?_
    refine pU 2 12 (msk 11 7) HT_.out ?_
    refine tU 3 13 (msk 11 15) HT_.out HW_.out hHeld ?_ ?_ ?_
    rotate_left
    · rintro w' ⟨s0, s1, s2⟩; go_simp; with_reducible rfl
    refine tU 4 14 (msk 11 31) HT_.out HW_.out hHeld ?_ ?_ ?_
    rotate_left
    · rintro w' ⟨s0, s1, s2⟩; rw [qZ (x := x) (hx := s2)]; all_goals rfl
    refine tU 5 15 (msk 11 63) HT_.out HW_.out hHeld ?_ ?_ ?_
    rotate_left
    · rintro w' ⟨s0, s1, s2⟩; rw [nM (L := g.L) (x := x) (r := .int .i64 0) (b := false) (h := HES.out) (hx := s1) (hr := by rw [hidx]) (hb := by rw [hidx]; rfl)]; all_goals rfl
    refine pU 6 9 (msk 11 127) HT_.out ?_
    refine pU 7 16 (msk 11 255) HT_.out ?_
    refine pU 8 17 (msk 11 511) HT_.out ?_
    refine pU 9 5 (msk 11 1023) HT_.out ?_
    refine pU 10 6 (msk 11 2047) HT_.out ?_
    refine wX (yG HT_.out (by kernel_rfl)) ?_
    clear H1 HES
    have P4 := P3
    clear P3
    obtain ⟨An, cn, At, ct, hx1, hx2, hx3⟩ := P4.out.rep.blk
    have z0 := (bq hx1 0).trans (show _ = some (.slice An g.L.length cn) from rfl)
    by_cases hlong : (4000 : Int) ≤ (g.L.length : Int)
    · have HP := aq (show wJ g x = (⟨g.L, g.T, true⟩, 0) by unfold wJ; rw [hidx]; exact if_pos (by omega))
      have z3 := (bq hx1 3).trans (show _ = some (.bool g.xD) from rfl)
      have f3 := bf_ hx1 3
      have HX1 := aq hx1
      have HX2 := aq hx2
      have HX3 := aq hx3
      clear hx1 hx2 hx3
      go_wp2
      go_ret
      obtain ⟨es, cl, hm, hes⟩ := P4.out.rep.map
      have hne : gM ≠ gG := fun e => by rw [e, HX1.out] at hm; cases hm
      rw [HP.out]
      refine ⟨rfl, rH.mono (ok := fun k => ok k ∧ k ≠ gb) ⟨⟨An, cn, At, ct, yP HX1.out 3 (.bool true), Kd.vW HX2.out HX1.out (by decide) 3 _, Kd.vW HX3.out HX1.out (by decide) 3 _⟩, ⟨es, cl, (Below.heap_setCell w4 ⟨gG, 3, none⟩ _ gM hne).trans hm, hes⟩, P4.out.rep.len, P4.out.rep.le, P4.out.rep.okG, P4.out.rep.okM, P4.out.rep.bG, P4.out.rep.bM⟩ (fun _ hk => hk.1), P4.out.vI.trans (yB.of_one (zR w4 ⟨gG, 3, none⟩ _) P4.out.rep.okG.1)⟩
    · have HP := aq (show wJ g x = (⟨g.L ++ [x], g.T ++ [totB x g.T], g.xD⟩, (g.L.length : Int)) by unfold wJ; rw [hidx]; exact if_neg (by omega))
      have HLONG := aq hlong
      clear hx1 hx2 hx3
      go_upto_region 7 with fail
      go_cut [7] (fun s7 wx => s7 = .bool (totN x) ∧ wx = w4)
      case first =>
        have zk := (bq P4.out.box 0).trans (show _ = some (.int .i64 x.f0) from rfl)
        have zn := (bq P4.out.box 3).trans (show _ = some (.int .i64 x.f3) from rfl)
        have ht : totN x = ((x.f0 != 6 && x.f0 != 9 && x.f0 != 11) && !(x.f0 == 8 && decide (x.f3 < 0))) := rfl
        generalize hT0 : totN x = tot at ht
        have HT := aq hT0
        clear hT0
        generalize x.f0 = k at zk ht
        generalize x.f3 = n at zn ht
        by_cases k6 : k = 6
        · subst k6
          obtain rfl : tot = false := by rw [ht]; rfl
          clear ht
          go_wp2_with fail
          go_meet
          exact ⟨by rw [HT.out], rfl⟩
        by_cases k9 : k = 9
        · subst k9
          obtain rfl : tot = false := by rw [ht]; rfl
          clear ht
          go_wp2_with fail
          go_meet
          exact ⟨by rw [HT.out], rfl⟩
        by_cases k11 : k = 11
        · subst k11
          obtain rfl : tot = false := by rw [ht]; rfl
          clear ht
          go_wp2_with fail
          go_meet
          exact ⟨by rw [HT.out], rfl⟩
        have b6 : (k != 6) = true := bne_iff_ne.mpr k6
        have b9 : (k != 9) = true := bne_iff_ne.mpr k9
        have b11 : (k != 11) = true := bne_iff_ne.mpr k11
        rw [b6, b9, b11] at ht
        by_cases k8 : k = 8
        · subst k8
          by_cases hn : n < 0
          · obtain rfl : tot = false := by rw [ht]; simp [hn]
            clear ht
            go_wp2_with fail
            go_meet
            exact ⟨by rw [HT.out], rfl⟩
          · obtain rfl : tot = true := by rw [ht]; simp [hn]
            clear ht
            go_wp2_with fail
            go_meet
            exact ⟨by rw [HT.out], rfl⟩
        · have b8 : (k == 8) = false := beq_eq_false_iff_ne.mpr k8
          obtain rfl : tot = true := by rw [ht, b8]; rfl
          clear ht
          go_wp2_with fail
          go_meet
          exact ⟨by rw [HT.out], rfl⟩
      case rest =>
        obtain ⟨rfl, rfl⟩ := hcut
        have zk := (bq P4.out.box 0).trans (show _ = some (.int .i64 x.f0) from rfl)
        have harg := tF x.f0
        have HTB := aq (show totB x g.T = (totN x && (if 0 < zI x.f0 then zJ false g.T x.f1 && (if 1 < zI x.f0 then zJ false g.T x.f2 else true) else true)) from rfl)
        generalize zI x.f0 = kN at harg HA HB HTB
        have HARG := aq harg
        clear harg z0 hlong
        go_upto_if 57 with (go_at_call 44; refine (zD.calls 9 _ kN _ HARG.out).mono ?_; rintro e w7 ⟨rfl, hd⟩; have P7 := aq (show PF base ok gG gM gb g x W w7 from P4.out.step (by obtain ⟨n, rfl⟩ := hd.out; exact bdN (Below.refl _ _) n)); clear hd P4 zk)
        go_cut [7] (fun s7 wx => s7 = .bool (totB x g.T) ∧ PF base ok gG gM gb g x W wx)
        case first =>
          by_cases hk : 0 < kN
          · obtain ⟨hf0, hf1⟩ := HA.out hk
            have hf2 : x.f1 < (g.T.length : Int) := by rw [P7.out.rep.len]; exact hf1
            cases htot : totN x with
            | false =>
              have HE := aq (show totB x g.T = false by rw [HTB.out, htot]; rfl)
              clear htot
              go_wp2
              have P0 := aq (P7.out.step (yX (Below.refl _ _)))
              clear P7
              have P7 := P0
              clear P0
              refine xK (n := 12) (S := fun _ => True) (ds := []) (msk 12 0) (by kernel_rfl) rfl rfl trivial (fun hHeld => ?_); refine yO sA.tab10 sA.bits10 (fun HT_ HW_ => ?_)
              generalize w7.drew = w8 at P7 ⊢
              refine pU 0 58 (msk 12 1) HT_.out ?_
              refine pU 1 59 (msk 12 3) HT_.out ?_
              refine pW 2 60 (msk 12 7) HT_.out ?_
              refine pW 3 61 (msk 12 15) HT_.out ?_
              refine pW 4 62 (msk 12 31) HT_.out ?_
              refine pW 5 63 (msk 12 63) HT_.out ?_
              refine pW 6 64 (msk 12 127) HT_.out ?_
              refine pW 7 65 (msk 12 255) HT_.out ?_
              refine pW 8 66 (msk 12 511) HT_.out ?_
              refine pW 9 67 (msk 12 1023) HT_.out ?_
              refine pU 10 68 (msk 12 2047) HT_.out ?_
              refine pU 11 7 (msk 12 4095) HT_.out ?_
              refine wX (yG HT_.out (by kernel_rfl)) ?_
              by_cases hk1 : 1 < kN
              · go_wp2
                have P0 := aq (P7.out.step (yX (Below.refl _ _)))
                clear P7
                have P7 := P0
                clear P0
                refine xK (n := 12) (S := fun _ => True) (ds := []) (msk 12 0) (by kernel_rfl) rfl rfl trivial (fun hHeld => ?_); refine yO tH.tab12 tH.bits12 (fun HT_ HW_ => ?_)
                generalize w8.drew = w9 at P7 ⊢
                refine pU 0 71 (msk 12 1) HT_.out ?_
                refine pU 1 72 (msk 12 3) HT_.out ?_
                refine pW 2 73 (msk 12 7) HT_.out ?_
                refine pW 3 74 (msk 12 15) HT_.out ?_
                refine pW 4 75 (msk 12 31) HT_.out ?_
                refine pW 5 76 (msk 12 63) HT_.out ?_
                refine pW 6 77 (msk 12 127) HT_.out ?_
                refine pW 7 78 (msk 12 255) HT_.out ?_
                refine pW 8 79 (msk 12 511) HT_.out ?_
                refine pW 9 80 (msk 12 1023) HT_.out ?_
                refine pU 10 81 (msk 12 2047) HT_.out ?_
                refine pU 11 7 (msk 12 4095) HT_.out ?_
                refine wX (yG HT_.out (by kernel_rfl)) ?_
                go_wp2
                go_meet
                exact ⟨by rw [HE.out], P7.out⟩
              · go_wp2
                go_meet
                exact ⟨by rw [HE.out], P7.out⟩
            | true =>
              have HT1 := aq htot
              clear htot
              go_wp2
              have P0 := aq (P7.out.step (yX (Below.refl _ _)))
              clear P7
              have P7 := P0
              clear P0
              obtain ⟨An, cn, At, ct, hx1, hx2, hx3⟩ := P7.out.rep.blk
              obtain ⟨gT, rfl, hcell⟩ := oV hx3 x.f1 hf0 hf2
              have HX1 := aq hx1
              have HC := aq hcell
              clear hx1 hx2 hx3 hcell
              refine xK (n := 12) (S := fun w' => w'.cell? ⟨gG, 1, none⟩ = some (.slice (some ⟨gT, 0, none⟩) g.T.length ct) ∧ w'.cell? ⟨gb, 1, none⟩ = some (.int .i64 x.f1) ∧ w'.cell? ⟨gT, x.f1.toNat, none⟩ = some (.bool (zJ false g.T x.f1))) (ds := []) (msk 12 0) (by kernel_rfl) rfl rfl ⟨(bq HX1.out 1).trans rfl, (bq P7.out.box 1).trans rfl, HC.out⟩ (fun hHeld => ?_); refine yO sA.tab10 sA.bits10 (fun HT_ HW_ => ?_)
              clear HX1 HC
              generalize w7.drew = w8 at P7 hHeld ⊢
              refine pU 0 58 (msk 12 1) HT_.out ?_
              refine pU 1 59 (msk 12 3) HT_.out ?_
              refine pU 2 60 (msk 12 7) HT_.out ?_
              refine pU 3 61 (msk 12 15) HT_.out ?_
              refine pU 4 62 (msk 12 31) HT_.out ?_
              refine tU 5 63 (msk 12 63) HT_.out HW_.out hHeld ?_ ?_ ?_
              rotate_left
              · rintro w' ⟨s0, s1, s2⟩; go_simp; with_reducible rfl
              refine pU 6 64 (msk 12 127) HT_.out ?_
              refine tU 7 65 (msk 12 255) HT_.out HW_.out hHeld ?_ ?_ ?_
              rotate_left
              · rintro w' ⟨s0, s1, s2⟩; go_simp; with_reducible rfl
              refine pU 8 66 (msk 12 511) HT_.out ?_
              refine tU 9 67 (msk 12 1023) HT_.out HW_.out hHeld ?_ ?_ ?_
              rotate_left
              · rintro w' ⟨s0, s1, s2⟩; go_simp; with_reducible rfl
              refine pU 10 68 (msk 12 2047) HT_.out ?_
              refine pU 11 7 (msk 12 4095) HT_.out ?_
              refine wX (yG HT_.out (by kernel_rfl)) ?_
              have HT2 := aq (show totB x g.T = (zJ false g.T x.f1 && if 1 < kN then zJ false g.T x.f2 else true) by rw [HTB.out, HT1.out, if_pos hk]; rfl)
              by_cases hk1 : 1 < kN
              · obtain ⟨hf0, hf1⟩ := HB.out hk1
                have hf2 : x.f2 < (g.T.length : Int) := by rw [P7.out.rep.len]; exact hf1
                have HE := aq (show totB x g.T = (zJ false g.T x.f1 && zJ false g.T x.f2) by rw [HT2.out, if_pos hk1])
                clear HT2 HTB
                cases hv1 : zJ false g.T x.f1 with
                | false =>
                  have HV := aq hv1
                  clear hv1
                  go_wp2
                  have P0 := aq (P7.out.step (yX (Below.refl _ _)))
                  clear P7
                  have P7 := P0
                  clear P0
                  refine xK (n := 12) (S := fun _ => True) (ds := []) (msk 12 0) (by kernel_rfl) rfl rfl trivial (fun hHeld => ?_); refine yO tH.tab12 tH.bits12 (fun HT_ HW_ => ?_)
                  generalize w8.drew = w9 at P7 ⊢
                  refine pU 0 71 (msk 12 1) HT_.out ?_
                  refine pU 1 72 (msk 12 3) HT_.out ?_
                  refine pW 2 73 (msk 12 7) HT_.out ?_
                  refine pW 3 74 (msk 12 15) HT_.out ?_
                  refine pW 4 75 (msk 12 31) HT_.out ?_
                  refine pW 5 76 (msk 12 63) HT_.out ?_
                  refine pW 6 77 (msk 12 127) HT_.out ?_
                  refine pW 7 78 (msk 12 255) HT_.out ?_
                  refine pW 8 79 (msk 12 511) HT_.out ?_
                  refine pW 9 80 (msk 12 1023) HT_.out ?_
                  refine pU 10 81 (msk 12 2047) HT_.out ?_
                  refine pU 11 7 (msk 12 4095) HT_.out ?_
                  refine wX (yG HT_.out (by kernel_rfl)) ?_
                  go_wp2
                  go_meet
                  exact ⟨by rw [HE.out, HV.out]; rfl, P7.out⟩
                | true =>
                  have HV := aq hv1
                  clear hv1
                  go_wp2
                  have P0 := aq (P7.out.step (yX (Below.refl _ _)))
                  clear P7
                  have P7 := P0
                  clear P0
                  obtain ⟨An, cn, At, ct, hx1, hx2, hx3⟩ := P7.out.rep.blk
                  obtain ⟨gT, rfl, hcell⟩ := oV hx3 x.f2 hf0 hf2
                  have HX1 := aq hx1
                  have HC := aq hcell
                  clear hx1 hx2 hx3 hcell
                  refine xK (n := 12) (S := fun w' => w'.cell? ⟨gG, 1, none⟩ = some (.slice (some ⟨gT, 0, none⟩) g.T.length ct) ∧ w'.cell? ⟨gb, 2, none⟩ = some (.int .i64 x.f2) ∧ w'.cell? ⟨gT, x.f2.toNat, none⟩ = some (.bool (zJ false g.T x.f2))) (ds := []) (msk 12 0) (by kernel_rfl) rfl rfl ⟨(bq HX1.out 1).trans rfl, (bq P7.out.box 2).trans rfl, HC.out⟩ (fun hHeld => ?_); refine yO tH.tab12 tH.bits12 (fun HT_ HW_ => ?_)
                  clear HX1 HC
                  generalize w8.drew = w9 at P7 hHeld ⊢
                  refine pU 0 71 (msk 12 1) HT_.out ?_
                  refine pU 1 72 (msk 12 3) HT_.out ?_
                  refine pU 2 73 (msk 12 7) HT_.out ?_
                  refine pU 3 74 (msk 12 15) HT_.out ?_
                  refine pU 4 75 (msk 12 31) HT_.out ?_
                  refine tU 5 76 (msk 12 63) HT_.out HW_.out hHeld ?_ ?_ ?_
                  rotate_left
                  · rintro w' ⟨s0, s1, s2⟩; go_simp; with_reducible rfl
                  refine pU 6 77 (msk 12 127) HT_.out ?_
                  refine tU 7 78 (msk 12 255) HT_.out HW_.out hHeld ?_ ?_ ?_
                  rotate_left
                  · rintro w' ⟨s0, s1, s2⟩; go_simp; with_reducible rfl
                  refine pU 8 79 (msk 12 511) HT_.out ?_
                  refine tU 9 80 (msk 12 1023) HT_.out HW_.out hHeld ?_ ?_ ?_
                  rotate_left
                  · rintro w' ⟨s0, s1, s2⟩; go_simp; with_reducible rfl
                  refine pU 10 81 (msk 12 2047) HT_.out ?_
                  refine pU 11 7 (msk 12 4095) HT_.out ?_
                  refine wX (yG HT_.out (by kernel_rfl)) ?_
                  go_wp2
                  go_meet
                  exact ⟨by rw [HE.out, HV.out]; rfl, P7.out⟩
              · have HE := aq (show totB x g.T = zJ false g.T x.f1 by rw [HT2.out, if_neg hk1, Bool.and_true])
                clear HT2 HTB
                go_wp2
                go_meet
                exact ⟨by rw [HE.out], P7.out⟩
          · have HK := aq hk
            go_wp2
            go_meet
            exact ⟨by rw [HTB.out, if_neg (Int.not_lt.mpr HK.out), Bool.and_true], P7.out⟩
        case rest =>
          obtain ⟨rfl, hp⟩ := hcut
          obtain ⟨An, cn, At, ct, hx1, hx2, hx3⟩ := hp.rep.blk
          obtain ⟨es, cl, hx4, hes⟩ := hp.rep.map
          have hlen := hp.rep.len
          have hle := HLONG.out
          have Q8 := aq (show PA base ok gG gM gb x (.slice An g.L.length cn) (.slice At g.T.length ct) g.xD g.L (.slice An g.L.length cn) g.L (.slice At g.T.length ct) g.T W _ from ⟨hx1, hx2, hx3, hp.box, hp.rep.map, hp.vI, hp.rep.okG.1, hp.rep.okM.1, hp.rep.bG, hp.rep.bM⟩)
          have HES := aq hes
          have HX4 := aq hx4
          have HLEN := aq hlen
          clear hp P7 hx1 hx2 hx3 hx4 hes hlen hle HTB HA HB HARG H
          have HLT := aq (show g.T.length < 4000 by rw [HLEN.out]; exact by have := HLONG.out; omega)
          have HLG := aq (show g.L.length < 4000 from by have := HLONG.out; omega)
          clear HLONG
          have HLONG := HLG
          clear HLG
          generalize totB x g.T = tb at HP ⊢
          go_wp2
          have Q9 := aq (Q8.out.step (yX (Below.refl _ _)))
          have HX5 := aq (show wc.drew.heap[gM]? = _ from HX4.out)
          clear Q8 HX4
          have Q8 := Q9
          have HX4 := HX5
          clear Q9 HX5
          refine xK (n := 11) (S := fun w' => w'.cell? ⟨gG, 2, none⟩ = some (.map (some gM)) ∧ w'.cell? ⟨gG, 0, none⟩ = some (.slice An g.L.length cn) ∧ w'.heap[gb]? = some (.cells (zC x) 37 (0, 0))) (ds := [10]) (msk 11 0) (by kernel_rfl) rfl rfl ⟨(bq Q8.out.blk 2).trans rfl, (bq Q8.out.blk 0).trans rfl, Q8.out.box⟩ (fun hHeld => ?_); refine yO qD.tab13 qD.bits13 (fun HT_ HW_ => ?_)
          generalize wc.drew = w9 at Q8 HX4 hHeld ⊢
          refine pU 0 82 (msk 11 1) HT_.out ?_
          refine pU 1 83 (msk 11 3) HT_.out ?_
          refine pU 2 84 (msk 11 7) HT_.out ?_
          refine tU 3 85 (msk 11 15) HT_.out HW_.out hHeld ?_ ?_ ?_
          rotate_left
          · rintro w' ⟨s0, s1, s2⟩; go_simp; with_reducible rfl
          refine tU 4 86 (msk 11 31) HT_.out HW_.out hHeld ?_ ?_ ?_
          rotate_left
          · rintro w' ⟨s0, s1, s2⟩; rw [qZ (x := x) (hx := s2)]; all_goals rfl
          refine pU 5 87 (msk 11 63) HT_.out ?_
          refine pU 6 88 (msk 11 127) HT_.out ?_
          refine pU 7 89 (msk 11 255) HT_.out ?_
          refine tU 8 90 (msk 11 511) HT_.out HW_.out hHeld ?_ ?_ ?_
          rotate_left
          · rintro w' ⟨s0, s1, s2⟩; go_simp; with_reducible rfl
          refine pU 9 91 (msk 11 1023) HT_.out ?_
          refine uB (i := 10) (N := none) (msk 11 2047) rfl rfl (zG HT_.out (by kernel_rfl)) (by decide) (fun K hK => ?_)
          refine sZ (w1 := { w9 with heap := w9.heap.setIfInBounds gM (.map (es.push ⟨uI x, .int .i64 (g.L.length : Int), cl⟩) (cl + 1)) }) (by rfl) rfl ?_ ?_
          · refine exec_updateo (m := .tmp 85) (k := .tmp 86) (v := .tmp 91) (gM := gM) (L := g.L) (x := x) (u := .int .i64 (g.L.length : Int)) rfl rfl ?_ ?_ ?_ HES.out HX4.out hidx <;> rfl
          refine hK.out _ _ ?_
          clear hK K
          refine wX (yG HT_.out (by kernel_rfl)) ?_
          have Q9 := aq (Q8.out.mapped HX4.out _ (cl + 1) (HES.out.push x cl))
          generalize ({ w9 with heap := w9.heap.setIfInBounds gM (.map (es.push ⟨uI x, .int .i64 (g.L.length : Int), cl⟩) (cl + 1)) } : World) = w10 at Q9 ⊢
          clear HX4 Q8 HES
          go_wp2
          have Q8 := aq (Q9.out.step (yX (Below.refl _ _)))
          clear Q9
          refine xK (n := 22) (S := fun w' => w'.cell? ⟨gG, 0, none⟩ = some (.slice An g.L.length cn) ∧ w'.cell? ⟨gG, 1, none⟩ = some (.slice At g.T.length ct) ∧ w'.heap[gb]? = some (.cells (zC x) 37 (0, 0))) (ds := [18, 21]) (msk 22 0) (by kernel_rfl) rfl rfl ⟨(bq Q8.out.blk 0).trans rfl, (bq Q8.out.blk 1).trans rfl, Q8.out.box⟩ (fun hHeld => ?_); refine yO qE.tab14 qE.bits14 (fun HT_ HW_ => ?_)
          generalize w10.drew = w11 at Q8 hHeld ⊢
          refine pU 0 92 (msk 22 1) HT_.out ?_
          refine pU 1 93 (msk 22 3) HT_.out ?_
          refine pU 2 94 (msk 22 7) HT_.out ?_
          refine pU 3 95 (msk 22 15) HT_.out ?_
          refine pU 4 96 (msk 22 31) HT_.out ?_
          refine tU 5 97 (msk 22 63) HT_.out HW_.out hHeld ?_ ?_ ?_
          rotate_left
          · rintro w' ⟨s0, s1, s2⟩; go_simp; with_reducible rfl
          refine tU 6 98 (msk 22 127) HT_.out HW_.out hHeld ?_ ?_ ?_
          rotate_left
          · rintro w' ⟨s0, s1, s2⟩; rw [qZ (x := x) (hx := s2)]; all_goals rfl
          refine pU 9 101 (msk 22 639) HT_.out ?_
          refine pU 10 102 (msk 22 1663) HT_.out ?_
          refine pU 11 103 (msk 22 3711) HT_.out ?_
          refine tU 12 104 (msk 22 7807) HT_.out HW_.out hHeld ?_ ?_ ?_
          rotate_left
          · rintro w' ⟨s0, s1, s2⟩; go_simp; with_reducible rfl
          refine pU 13 105 (msk 22 15999) HT_.out ?_
          refine two_ (i := 7) (j := 14) (Ni := some 99) (Nj := some 106) (msk 22 16127) (msk 22 32383) rfl rfl rfl rfl (two_of HT_.out (by kernel_rfl)) (by decide) (by decide) (fun K hK => ?_) (fun K hK => ?_)
          · refine sH (by rfl) rfl (nT (x := x) rfl rfl rfl) ?_
            have Q8' := aq (Q8.out.step (zY (Below.refl _ _) (.cells (zC x) 37)))
            have HB22 := aq (heap_alloc_last w11 (.cells (zC x) 37))
            clear Q8 
            have Q8 := Q8'
            clear Q8' 
            generalize w11.alloc (.cells (zC x) 37) = w12 at Q8 HB22  ⊢
            generalize w11.heap.size = gx at HB22 ⊢
            refine hK.out _ _ ⟨(bq Q8.out.blk 0).trans rfl, (bq Q8.out.blk 1).trans rfl, Q8.out.box⟩ (fun hHeld => ?_)
            clear hK K
            refine xV (a' := ?_) ?_ ?_
            rotate_left
            · show Act.put _ (some 99) _ = _
              simp only [Act.put, sq, iw, jw]
              rfl
            refine two_ (i := 8) (j := 14) (Ni := some 100) (Nj := some 106) (msk 22 16383) (msk 22 32511) rfl rfl rfl rfl (two_of HT_.out (by kernel_rfl)) (by decide) (by decide) (fun K hK => ?_) (fun K hK => ?_)
            · refine PA.pE (.tmp 97) (.tmp 99) rfl Q8.out gx HB22.out HF.out hbase HLONG.out (by rfl) rfl rfl rfl ?_
              intro g1 cap1 wd hq hg
              have Q9 := aq hq
              clear HB22 Q8 hq hg 
              have Q8 := Q9
              clear Q9
              refine hK.out _ _ ⟨(bq Q8.out.blk 0).trans rfl, (bq Q8.out.blk 1).trans rfl, Q8.out.box⟩ (fun hHeld => ?_)
              clear hK K
              refine xV (a' := ?_) ?_ ?_
              rotate_left
              · show Act.put _ (some 100) _ = _
                simp only [Act.put, sq, iw, jw]
                rfl
              refine wW (i := 14) (N := some 106) (msk 22 32767) rfl rfl (zG HT_.out (by kernel_rfl)) (by decide) (fun K hK => ?_)
              refine sH (by rfl) rfl (pS (b := tb) rfl rfl rfl) ?_
              have Q8' := aq (Q8.out.step (zY (Below.refl _ _) (.cells #[.bool tb] 4)))
              have HB55 := aq (heap_alloc_last wd (.cells #[.bool tb] 4))
              clear Q8 
              have Q8 := Q8'
              clear Q8' 
              generalize wd.alloc (.cells #[.bool tb] 4) = we at Q8 HB55  ⊢
              generalize wd.heap.size = gy at HB55 ⊢
              refine hK.out _ _ ⟨(bq Q8.out.blk 0).trans rfl, (bq Q8.out.blk 1).trans rfl, Q8.out.box⟩ (fun hHeld => ?_)
              clear hK K
              refine xV (a' := ?_) ?_ ?_
              rotate_left
              · show Act.put _ (some 106) _ = _
                simp only [Act.put, sq, iw, jw]
                rfl
              refine wW (i := 15) (N := some 107) (msk 22 65535) rfl rfl (zG HT_.out (by kernel_rfl)) (by decide) (fun K hK => ?_)
              refine PA.oQ (.tmp 104) (.tmp 106) rfl Q8.out gy tb HB55.out HF.out hbase HLT.out (by rfl) rfl rfl rfl ?_
              intro g2 cap2 wf hq hg
              clear HB55 Q8
              have Q8 := aq hq
              clear hq hg
              refine hK.out _ _ ⟨(bq Q8.out.blk 0).trans rfl, (bq Q8.out.blk 1).trans rfl, Q8.out.box⟩ (fun hHeld => ?_)
              clear hK K
              refine xV (a' := ?_) ?_ ?_
              rotate_left
              · show Act.put _ (some 107) _ = _
                simp only [Act.put, sq, iw, jw]
                rfl
              refine pU 16 108 (msk 22 131071) HT_.out ?_
              refine pU 17 109 (msk 22 262143) HT_.out ?_
              refine uB (i := 18) (N := none) (msk 22 524287) rfl rfl (zG HT_.out (by kernel_rfl)) (by decide) (fun K hK => ?_)
              have z := (bq Q8.out.blk 0).trans (show _ = some _ from rfl)
              have f := bf_ Q8.out.blk 0
              refine sZ (w1 := wf.setCell ⟨gG, 0, none⟩ (.slice (some ⟨g1, 0, none⟩) (g.L.length + 1) cap1)) (by rfl) rfl ?_ ?_
              · go_simp
                try rfl
              clear z f
              have Q9 := aq (Q8.out.set0 (.slice (some ⟨g1, 0, none⟩) (g.L.length + 1) cap1))
              clear Q8
              have Q8 := Q9
              clear Q9
              generalize wf.setCell ⟨gG, 0, none⟩ (.slice (some ⟨g1, 0, none⟩) (g.L.length + 1) cap1) = wA at Q8 ⊢
              refine hK.out _ _ ?_
              clear hK K
              refine pU 19 110 (msk 22 1048575) HT_.out ?_
              refine pU 20 111 (msk 22 2097151) HT_.out ?_
              refine uB (i := 21) (N := none) (msk 22 4194303) rfl rfl (zG HT_.out (by kernel_rfl)) (by decide) (fun K hK => ?_)
              have z := (bq Q8.out.blk 1).trans (show _ = some _ from rfl)
              have f := bf_ Q8.out.blk 1
              refine sZ (w1 := wA.setCell ⟨gG, 1, none⟩ (.slice (some ⟨g2, 0, none⟩) (g.T.length + 1) cap2)) (by rfl) rfl ?_ ?_
              · go_simp
                try rfl
              clear z f
              have Q9 := aq (Q8.out.set1 (.slice (some ⟨g2, 0, none⟩) (g.T.length + 1) cap2))
              clear Q8
              have Q8 := Q9
              clear Q9
              generalize wA.setCell ⟨gG, 1, none⟩ (.slice (some ⟨g2, 0, none⟩) (g.T.length + 1) cap2) = wB at Q8 ⊢
              refine hK.out _ _ ?_
              clear hK K
              refine wX (yG HT_.out (by kernel_rfl)) ?_
              have z := (bq Q8.out.blk 0).trans (show _ = some (.slice (some ⟨g1, 0, none⟩) (g.L.length + 1) cap1) from rfl)
              go_wp2
              go_ret
              exact ⟨by rw [HP.out]; have e := HLONG.out; show Ending.returned (.int .i64 (wrap64 (g.L.length : Int))) = Ending.returned (.int .i64 (g.L.length : Int)); congr 2; unfold wrap64; omega, by rw [HP.out]; exact Q8.out.done HLEN.out HLONG.out, Q8.out.vI⟩
            · refine sH (by rfl) rfl (pS (b := tb) rfl rfl rfl) ?_
              have Q8' := aq (Q8.out.step (zY (Below.refl _ _) (.cells #[.bool tb] 4)))
              have HB55 := aq (heap_alloc_last w12 (.cells #[.bool tb] 4))
              have HB22' := aq (bb_ HB22.out (zY (Below.refl _ _) (.cells #[.bool tb] 4)))
              clear Q8 HB22
              have Q8 := Q8'
              have HB22 := HB22'
              clear Q8' HB22'
              generalize w12.alloc (.cells #[.bool tb] 4) = wd at Q8 HB55 HB22 ⊢
              generalize w12.heap.size = gy at HB55 ⊢
              refine hK.out _ _ ⟨(bq Q8.out.blk 0).trans rfl, (bq Q8.out.blk 1).trans rfl, Q8.out.box⟩ (fun hHeld => ?_)
              clear hK K
              refine xV (a' := ?_) ?_ ?_
              rotate_left
              · show Act.put _ (some 106) _ = _
                simp only [Act.put, sq, iw, jw]
                rfl
              refine wW (i := 8) (N := some 100) (msk 22 32767) rfl rfl (zG HT_.out (by kernel_rfl)) (by decide) (fun K hK => ?_)
              refine PA.pE (.tmp 97) (.tmp 99) rfl Q8.out gx HB22.out HF.out hbase HLONG.out (by rfl) rfl rfl rfl ?_
              intro g1 cap1 we hq hg
              have Q9 := aq hq
              have HB55' := aq (zK HB55.out hg (Kd.uX Q8.out.nodes HB55.out (by decide)))
              clear HB22 Q8 hq hg HB55
              have Q8 := Q9
              clear Q9
              have HB55 := HB55'
              clear HB55'
              refine hK.out _ _ ⟨(bq Q8.out.blk 0).trans rfl, (bq Q8.out.blk 1).trans rfl, Q8.out.box⟩ (fun hHeld => ?_)
              clear hK K
              refine xV (a' := ?_) ?_ ?_
              rotate_left
              · show Act.put _ (some 100) _ = _
                simp only [Act.put, sq, iw, jw]
                rfl
              refine wW (i := 15) (N := some 107) (msk 22 65535) rfl rfl (zG HT_.out (by kernel_rfl)) (by decide) (fun K hK => ?_)
              refine PA.oQ (.tmp 104) (.tmp 106) rfl Q8.out gy tb HB55.out HF.out hbase HLT.out (by rfl) rfl rfl rfl ?_
              intro g2 cap2 wf hq hg
              clear HB55 Q8
              have Q8 := aq hq
              clear hq hg
              refine hK.out _ _ ⟨(bq Q8.out.blk 0).trans rfl, (bq Q8.out.blk 1).trans rfl, Q8.out.box⟩ (fun hHeld => ?_)
              clear hK K
              refine xV (a' := ?_) ?_ ?_
              rotate_left
              · show Act.put _ (some 107) _ = _
                simp only [Act.put, sq, iw, jw]
                rfl
              refine pU 16 108 (msk 22 131071) HT_.out ?_
              refine pU 17 109 (msk 22 262143) HT_.out ?_
              refine uB (i := 18) (N := none) (msk 22 524287) rfl rfl (zG HT_.out (by kernel_rfl)) (by decide) (fun K hK => ?_)
              have z := (bq Q8.out.blk 0).trans (show _ = some _ from rfl)
              have f := bf_ Q8.out.blk 0
              refine sZ (w1 := wf.setCell ⟨gG, 0, none⟩ (.slice (some ⟨g1, 0, none⟩) (g.L.length + 1) cap1)) (by rfl) rfl ?_ ?_
              · go_simp
                try rfl
              clear z f
              have Q9 := aq (Q8.out.set0 (.slice (some ⟨g1, 0, none⟩) (g.L.length + 1) cap1))
              clear Q8
              have Q8 := Q9
              clear Q9
              generalize wf.setCell ⟨gG, 0, none⟩ (.slice (some ⟨g1, 0, none⟩) (g.L.length + 1) cap1) = wA at Q8 ⊢
              refine hK.out _ _ ?_
              clear hK K
              refine pU 19 110 (msk 22 1048575) HT_.out ?_
              refine pU 20 111 (msk 22 2097151) HT_.out ?_
              refine uB (i := 21) (N := none) (msk 22 4194303) rfl rfl (zG HT_.out (by kernel_rfl)) (by decide) (fun K hK => ?_)
              have z := (bq Q8.out.blk 1).trans (show _ = some _ from rfl)
              have f := bf_ Q8.out.blk 1
              refine sZ (w1 := wA.setCell ⟨gG, 1, none⟩ (.slice (some ⟨g2, 0, none⟩) (g.T.length + 1) cap2)) (by rfl) rfl ?_ ?_
              · go_simp
                try rfl
              clear z f
              have Q9 := aq (Q8.out.set1 (.slice (some ⟨g2, 0, none⟩) (g.T.length + 1) cap2))
              clear Q8
              have Q8 := Q9
              clear Q9
              generalize wA.setCell ⟨gG, 1, none⟩ (.slice (some ⟨g2, 0, none⟩) (g.T.length + 1) cap2) = wB at Q8 ⊢
              refine hK.out _ _ ?_
              clear hK K
              refine wX (yG HT_.out (by kernel_rfl)) ?_
              have z := (bq Q8.out.blk 0).trans (show _ = some (.slice (some ⟨g1, 0, none⟩) (g.L.length + 1) cap1) from rfl)
              go_wp2
              go_ret
              exact ⟨by rw [HP.out]; have e := HLONG.out; show Ending.returned (.int .i64 (wrap64 (g.L.length : Int))) = Ending.returned (.int .i64 (g.L.length : Int)); congr 2; unfold wrap64; omega, by rw [HP.out]; exact Q8.out.done HLEN.out HLONG.out, Q8.out.vI⟩
          · refine sH (by rfl) rfl (pS (b := tb) rfl rfl rfl) ?_
            have Q8' := aq (Q8.out.step (zY (Below.refl _ _) (.cells #[.bool tb] 4)))
            have HB55 := aq (heap_alloc_last w11 (.cells #[.bool tb] 4))
            clear Q8 
            have Q8 := Q8'
            clear Q8' 
            generalize w11.alloc (.cells #[.bool tb] 4) = w12 at Q8 HB55  ⊢
            generalize w11.heap.size = gy at HB55 ⊢
            refine hK.out _ _ ⟨(bq Q8.out.blk 0).trans rfl, (bq Q8.out.blk 1).trans rfl, Q8.out.box⟩ (fun hHeld => ?_)
            clear hK K
            refine xV (a' := ?_) ?_ ?_
            rotate_left
            · show Act.put _ (some 106) _ = _
              simp only [Act.put, sq, iw, jw]
              rfl
            refine wW (i := 7) (N := some 99) (msk 22 32511) rfl rfl (zG HT_.out (by kernel_rfl)) (by decide) (fun K hK => ?_)
            refine sH (by rfl) rfl (nT (x := x) rfl rfl rfl) ?_
            have Q8' := aq (Q8.out.step (zY (Below.refl _ _) (.cells (zC x) 37)))
            have HB22 := aq (heap_alloc_last w12 (.cells (zC x) 37))
            have HB55' := aq (bb_ HB55.out (zY (Below.refl _ _) (.cells (zC x) 37)))
            clear Q8 HB55
            have Q8 := Q8'
            have HB55 := HB55'
            clear Q8' HB55'
            generalize w12.alloc (.cells (zC x) 37) = wd at Q8 HB22 HB55 ⊢
            generalize w12.heap.size = gx at HB22 ⊢
            refine hK.out _ _ ⟨(bq Q8.out.blk 0).trans rfl, (bq Q8.out.blk 1).trans rfl, Q8.out.box⟩ (fun hHeld => ?_)
            clear hK K
            refine xV (a' := ?_) ?_ ?_
            rotate_left
            · show Act.put _ (some 99) _ = _
              simp only [Act.put, sq, iw, jw]
              rfl
            refine wW (i := 8) (N := some 100) (msk 22 32767) rfl rfl (zG HT_.out (by kernel_rfl)) (by decide) (fun K hK => ?_)
            refine PA.pE (.tmp 97) (.tmp 99) rfl Q8.out gx HB22.out HF.out hbase HLONG.out (by rfl) rfl rfl rfl ?_
            intro g1 cap1 we hq hg
            have Q9 := aq hq
            have HB55' := aq (zK HB55.out hg (Kd.uX Q8.out.nodes HB55.out (by decide)))
            clear HB22 Q8 hq hg HB55
            have Q8 := Q9
            clear Q9
            have HB55 := HB55'
            clear HB55'
            refine hK.out _ _ ⟨(bq Q8.out.blk 0).trans rfl, (bq Q8.out.blk 1).trans rfl, Q8.out.box⟩ (fun hHeld => ?_)
            clear hK K
            refine xV (a' := ?_) ?_ ?_
            rotate_left
            · show Act.put _ (some 100) _ = _
              simp only [Act.put, sq, iw, jw]
              rfl
            refine wW (i := 15) (N := some 107) (msk 22 65535) rfl rfl (zG HT_.out (by kernel_rfl)) (by decide) (fun K hK => ?_)
            refine PA.oQ (.tmp 104) (.tmp 106) rfl Q8.out gy tb HB55.out HF.out hbase HLT.out (by rfl) rfl rfl rfl ?_
            intro g2 cap2 wf hq hg
            clear HB55 Q8
            have Q8 := aq hq
            clear hq hg
            refine hK.out _ _ ⟨(bq Q8.out.blk 0).trans rfl, (bq Q8.out.blk 1).trans rfl, Q8.out.box⟩ (fun hHeld => ?_)
            clear hK K
            refine xV (a' := ?_) ?_ ?_
            rotate_left
            · show Act.put _ (some 107) _ = _
              simp only [Act.put, sq, iw, jw]
              rfl
            refine pU 16 108 (msk 22 131071) HT_.out ?_
            refine pU 17 109 (msk 22 262143) HT_.out ?_
            refine uB (i := 18) (N := none) (msk 22 524287) rfl rfl (zG HT_.out (by kernel_rfl)) (by decide) (fun K hK => ?_)
            have z := (bq Q8.out.blk 0).trans (show _ = some _ from rfl)
            have f := bf_ Q8.out.blk 0
            refine sZ (w1 := wf.setCell ⟨gG, 0, none⟩ (.slice (some ⟨g1, 0, none⟩) (g.L.length + 1) cap1)) (by rfl) rfl ?_ ?_
            · go_simp
              try rfl
            clear z f
            have Q9 := aq (Q8.out.set0 (.slice (some ⟨g1, 0, none⟩) (g.L.length + 1) cap1))
            clear Q8
            have Q8 := Q9
            clear Q9
            generalize wf.setCell ⟨gG, 0, none⟩ (.slice (some ⟨g1, 0, none⟩) (g.L.length + 1) cap1) = wA at Q8 ⊢
            refine hK.out _ _ ?_
            clear hK K
            refine pU 19 110 (msk 22 1048575) HT_.out ?_
            refine pU 20 111 (msk 22 2097151) HT_.out ?_
            refine uB (i := 21) (N := none) (msk 22 4194303) rfl rfl (zG HT_.out (by kernel_rfl)) (by decide) (fun K hK => ?_)
            have z := (bq Q8.out.blk 1).trans (show _ = some _ from rfl)
            have f := bf_ Q8.out.blk 1
            refine sZ (w1 := wA.setCell ⟨gG, 1, none⟩ (.slice (some ⟨g2, 0, none⟩) (g.T.length + 1) cap2)) (by rfl) rfl ?_ ?_
            · go_simp
              try rfl
            clear z f
            have Q9 := aq (Q8.out.set1 (.slice (some ⟨g2, 0, none⟩) (g.T.length + 1) cap2))
            clear Q8
            have Q8 := Q9
            clear Q9
            generalize wA.setCell ⟨gG, 1, none⟩ (.slice (some ⟨g2, 0, none⟩) (g.T.length + 1) cap2) = wB at Q8 ⊢
            refine hK.out _ _ ?_
            clear hK K
            refine wX (yG HT_.out (by kernel_rfl)) ?_
            have z := (bq Q8.out.blk 0).trans (show _ = some (.slice (some ⟨g1, 0, none⟩) (g.L.length + 1) cap1) from rfl)
            go_wp2
            go_ret
            exact ⟨by rw [HP.out]; have e := HLONG.out; show Ending.returned (.int .i64 (wrap64 (g.L.length : Int))) = Ending.returned (.int .i64 (g.L.length : Int)); congr 2; unfold wrap64; omega, by rw [HP.out]; exact Q8.out.done HLEN.out HLONG.out, Q8.out.vI⟩
def nb45.T1 : Bool × List (List Nat × List Nat) := (true, [([], []), ([], []), ([], []), ([1, 2], [1, 2]), ([0, 3, 2], [0, 3]), ([4, 4, 0, 1, 2, 3, 4], [4])])
def nb45.B1 : List Nat := [0, 0, 0, 6, 15, 31]
theorem nb45.tab1 : wD .any (opsOf Try.f45 1) = nb45.T1 := by kernel_rfl
theorem nb45.oY : xR nb45.T1.2 nb45.B1 = true := by kernel_rfl
def vP (q : S30) : S37 := ⟨1, 0, 0, 0, q, ⟨0, 0⟩, ⟨⟨⟨0, 1⟩, ⟨0, 1⟩, ⟨0, 1⟩, ⟨0, 1⟩, ⟨0, 1⟩, ⟨0, 1⟩, ⟨0, 1⟩⟩⟩⟩
theorem run_nodeK (q : S30) (W : World) : (Instr.build 37 #[(0, .int .i64 1), (4, .agg #[.int .i64 q.f0, .int .i64 q.f1]), (6, .agg #[.int .i64 0, .int .i64 1, .int .i64 0, .int .i64 1, .int .i64 0, .int .i64 1, .int .i64 0, .int .i64 1, .int .i64 0, .int .i64 1, .int .i64 0, .int .i64 1, .int .i64 0, .int .i64 1])]).run Try.prog W = .ok (.agg (zC (vP q))) W := by kernel_rfl
theorem exec_nodeKo {a : Act} {W : World} {o : Oper} {x6 x7 : Operand} {q : S30} (hop : o.op = .build 37 #[(0, .const (.int .i64 1)), (4, x6), (6, x7)]) (hg : o.guard = none) (h6 : a.eval x6 = .agg #[.int .i64 q.f0, .int .i64 q.f1]) (h7 : a.eval x7 = .agg #[.int .i64 0, .int .i64 1, .int .i64 0, .int .i64 1, .int .i64 0, .int .i64 1, .int .i64 0, .int .i64 1, .int .i64 0, .int .i64 1, .int .i64 0, .int .i64 1, .int .i64 0, .int .i64 1]) :
    (execOp a.eval o).run Try.prog W = .ok (.value (.agg (zC (vP q)))) W := by
  rw [rV hop, hg]
  unfold execOp
  have e1 : a.eval (.const (.int .i64 1)) = .int .i64 1 := rfl
  simp only [List.map_toArray, List.map_cons, List.map_nil, h6, h7, e1, Sem.run_bind]
  have h2 := run_nodeK q W
  rw [h2]
  rfl
theorem run_box30 (x y : Int) (W : World) : (Instr.box 30 (.agg #[.int .i64 x, .int .i64 y])).run Try.prog W = .ok (.pointer (some ⟨W.heap.size, 0, none⟩)) (W.alloc (.cells #[.int .i64 x, .int .i64 y] 30)) := by kernel_rfl
theorem number45 {base : Nat} {ok : Nat → Prop} {gG gM : Nat} {g : PG} {W : World} (h : rH base ok gG gM g W) (hf : ∀ k, W.heap.size ≤ k → ok k) (hbase : base ≤ W.heap.size) (q : S30) :
    Calls Try.prog 45 #[.pointer (some ⟨gG, 0, none⟩), .agg #[.int .i64 q.f0, .int .i64 q.f1]] W fun e W' => e = .returned (.int .i64 (wJ g (vP q)).2) ∧ rH base ok gG gM (wJ g (vP q)).1 W' ∧ yB ok W W' := by
  have hbx := run_box30 q.f0 q.f1
  have H := aq h
  have HF := aq hf
  clear h hf
  go_enter Try.func45, Try.ntmps45
  go_wp2_with ((with_reducible refine gD (N := 3) rfl ?_); refine bE ?hg (N := 3) ?hd (cs := #[.int .i64 q.f0, .int .i64 q.f1]) (t := 30) ?hr ?_; (case hd => rfl); (case hg => rfl); (case hr => first | (go_simp; done) | (go_simp; rfl)); intro gb hgb w2 hbox hb3; have P2 := aq (show rH base ok gG gM g w2 from H.out.step hb3); have K2 := aq (show yB ok W w2 from yB.sP hb3); have B2 := aq (show w2.heap[gb]? = _ from hbox); clear hbox hb3 hgb)
  have P3 := aq (P2.out.step (yX (Below.refl _ _)))
  have K3 := aq (K2.out.step (yX (Below.refl _ _)))
  have B3 := aq (show w2.drew.heap[gb]? = _ from B2.out)
  clear P2 K2 B2
  refine xK (n := 6) (S := fun w' => w'.cell? ⟨gb, 0, none⟩ = some (.int .i64 q.f0) ∧ w'.cell? ⟨gb, 1, none⟩ = some (.int .i64 q.f1)) (ds := [4]) (msk 6 0) (by kernel_rfl) rfl rfl ⟨(bq B3.out 0).trans rfl, (bq B3.out 1).trans rfl⟩ (fun hHeld => ?_); refine yO nb45.tab1 nb45.oY (fun HT_ HW_ => ?_)
  generalize w2.drew = w4 at P3 K3 B3 hHeld ⊢
  refine pU 0 5 (msk 6 1) HT_.out ?_
  refine tU 1 6 (msk 6 3) HT_.out HW_.out hHeld ?_ ?_ ?_
  rotate_left
  · rintro w' ⟨s0, s1⟩; go_simp; with_reducible rfl
  refine wW (i := 2) (N := some 7) (msk 6 7) rfl rfl (zG HT_.out (by kernel_rfl)) (by decide) (fun K hK => ?_)
  refine uN Try.func41 (by kernel_rfl) rfl #[] (by rfl) rfl rfl (by (try simp only [List.map_toArray, List.map_cons, List.map_nil]); first | done | rfl) ?_
  refine (plain41 _).mono ?_
  rintro e w5 ⟨rfl, hd⟩
  refine ⟨_, rfl, ?_⟩
  have P4 := aq (P3.out.step hd)
  have K4 := aq (K3.out.step hd)
  have B4 := aq (bb_ B3.out hd)
  clear hd P3 K3 B3
  refine hK.out _ _ ⟨(bq B4.out 0).trans rfl, (bq B4.out 1).trans rfl⟩ (fun hHeld => ?_)
  clear hK K
  refine xV (a' := ?_) ?_ ?_
  rotate_left
  · show Act.put _ (some 7) _ = _
    simp only [Act.put, sq, iw, jw]
    rfl
  refine pu_ 3 8 (msk 6 15) HT_.out ?_ ?_ ?_ ?_ ?_
  rotate_left
  · intro w'; rw [exec_nodeKo (q := q)]; all_goals rfl
  rotate_left
  · simp only [Act.put, sq, iw, jw]; rfl
  refine uB (i := 4) (N := some 9) (msk 6 31) rfl rfl (zG HT_.out (by kernel_rfl)) (by decide) (fun K hK => ?_)
  refine uN Try.func46 (by kernel_rfl) rfl #[.pointer (some ⟨gG, 0, none⟩), .agg (zC (vP q))] (by rfl) rfl rfl (by (try simp only [List.map_toArray, List.map_cons, List.map_nil]); first | done | rfl) ?_
  refine (put46 P4.out (fun k hk => HF.out k (Nat.le_trans K4.out.size hk)) (Nat.le_trans hbase K4.out.size) (vP q) (fun h => absurd h (by show ¬ 0 < zI 1; decide)) (fun h => absurd h (by show ¬ 1 < zI 1; decide))).mono ?_
  rintro e w6 ⟨rfl, hr, hk⟩
  refine ⟨_, rfl, ?_⟩
  have P5 := aq hr
  have K5 := aq (K4.out.trans hk)
  clear hr hk P4 K4 B4
  refine hK.out _ _ ?_
  clear hK K
  refine xV (a' := ?_) ?_ ?_
  rotate_left
  · show Act.put _ (some 9) _ = _
    simp only [Act.put, sq, iw, jw]
    rfl
  refine pU 5 4 (msk 6 63) HT_.out ?_
  refine wX (yG HT_.out (by kernel_rfl)) ?_
  go_wp2
  go_ret
  exact ⟨rfl, P5.out, K5.out⟩
def oZ.T1 : Bool × List (List Nat × List Nat) := (true, [([], []), ([0], [0]), ([1], [1]), ([2], [2]), ([], []), ([3, 4], [3, 4]), ([5], [5]), ([6], [6]), ([7], [7]), ([8], [8]), ([9], [9]), ([10, 9], [9, 10]), ([11, 9], [9, 11]), ([12, 9], [9, 12]), ([9], [9]), ([13, 14, 9], [9, 13, 14]), ([15, 9], [9, 15]), ([16, 9], [9, 16]), ([9], [9]), ([18, 9, 9], [9, 18]), ([17, 19, 9], [9, 17, 19]), ([9, 20], [9, 20]), ([21, 19, 0, 1, 2, 3, 4, 5, 6, 7, 8, 9, 10, 11, 12, 13, 14, 15, 16, 17, 18, 19, 20, 21], [21])])
def oZ.B1 : List Nat := [0, 1, 3, 7, 0, 31, 63, 127, 255, 511, 1023, 2047, 4095, 8191, 1023, 32767, 65535, 131071, 1023, 263167, 1048575, 2097151, 4194303]
theorem oZ.tab1 : wD .any (opsOf Try.f108 1) = oZ.T1 := by kernel_rfl
theorem oZ.oY : xR oZ.T1.2 oZ.B1 = true := by kernel_rfl
theorem vY (n : Int) (W : World) : Calls Try.prog 106 #[.int .i64 n] W fun e W' => e = .returned (.agg #[.int .i64 n, .int .i64 1]) ∧ Below W.heap.size W W' := by
  have hu30 := Try.underlying30
  have hb := zY (Below.refl W.heap.size W) (.cells #[.int .i64 n, .int .i64 1] 30)
  have hx := heap_alloc_last W (.cells #[.int .i64 n, .int .i64 1] 30)
  go_enter Try.func106, Try.ntmps106
  go_wp2
  have z0 := (bq hx 0).trans (show _ = some (.int .i64 n) from rfl)
  have z1 := (bq hx 1).trans (show _ = some (.int .i64 1) from rfl)
  exact bodyPost_ret (results_cell_row (p := 2) (ty := 30) rfl _ _ W.heap.size 30 _ (0, 0) _ rfl hx hu30 rfl (by kernel_rfl)) rfl ⟨rfl, hb⟩
theorem eql2 (y0 n y1 : Int) (w' : World) : (if y0 = n then if y1 = 1 then Result.ok (Next.value (Value.bool true)) w' else Result.ok (Next.value (Value.bool false)) w' else Result.ok (Next.value (Value.bool false)) w') = Result.ok (Next.value (Value.bool (y0 == n && y1 == 1))) w' := by
  by_cases h1 : y0 = n
  · by_cases h2 : y1 = 1
    · rw [if_pos h1, if_pos h2, beq_iff_eq.2 h1, beq_iff_eq.2 h2]; rfl
    · rw [if_pos h1, if_neg h2, beq_eq_false_iff_ne.2 h2, Bool.and_false]
  · rw [if_neg h1, beq_eq_false_iff_ne.2 h1]; rfl
theorem sS {base : Nat} {ok : Nat → Prop} {W : World} {An : Option Addr} {cn : Nat} {L : List S37} (h : Kd.R k37 37 W base ok (.slice An L.length cn) L) (i : Int) (h0 : 0 ≤ i) (h1 : i < (L.length : Int)) :
    ∃ gN, An = some ⟨gN, 0, none⟩ ∧ ∀ (jj : Nat) v, (wY (rT L i))[jj]? = some v → W.cell? ⟨gN, i.toNat * 22 + jj, none⟩ = some v := by
  cases An with
  | none =>
    obtain ⟨_, inner, ho, hr⟩ := h
    rcases ho.2 with ⟨hv, _⟩ | ⟨g, cap', cur, hv, _⟩
    · injection hv with _ hl _; omega
    · cases hv
  | some ad =>
    obtain ⟨gN, rfl⟩ := Go.Proofs.Ytoonahobmlnflaa.PC.A.Kd.R_head h
    obtain ⟨c, _, hM, hcc⟩ := Kd.R_getA h z37 i h0 h1
    obtain rfl := k37_openM hM
    refine ⟨gN, rfl, fun jj v hv => ?_⟩
    have h2 := hcc jj v hv
    rw [add_off] at h2
    have e : k37.sz = 22 := rfl
    rw [e, Nat.zero_add] at h2
    exact h2
def isN (g : PG) (i n : Int) : Bool := (rT g.L i).f0 == 1 && ((rT g.L i).f4.f0 == n && (rT g.L i).f4.f1 == 1)
structure IsF (gG gM gN : Nat) (ln cn : Nat) (c1 c3 : Value) (i : Int) (x0 y0 y1 : Int) (V : World) : Prop where
  blk : V.heap[gG]? = some (.cells #[.slice (some ⟨gN, 0, none⟩) ln cn, c1, .map (some gM), c3] 71 (0, 0))
  c0 : V.cell? ⟨gN, i.toNat * 22, none⟩ = some (.int .i64 x0)
  c4 : V.cell? ⟨gN, i.toNat * 22 + 4, none⟩ = some (.int .i64 y0)
  c5 : V.cell? ⟨gN, i.toNat * 22 + 4 + 1, none⟩ = some (.int .i64 y1)
theorem IsF.step {gG gM gN ln cn : Nat} {c1 c3 : Value} {i x0 y0 y1 : Int} {V V' : World} (h : IsF gG gM gN ln cn c1 c3 i x0 y0 y1 V) (hd : Below V.heap.size V V') : IsF gG gM gN ln cn c1 c3 i x0 y0 y1 V' :=
  ⟨bb_ h.blk hd, (hd.cell (World.block_lt_of_cell? V _ h.c0)).trans h.c0, (hd.cell (World.block_lt_of_cell? V _ h.c4)).trans h.c4, (hd.cell (World.block_lt_of_cell? V _ h.c5)).trans h.c5⟩
theorem oZ {base : Nat} {ok : Nat → Prop} {gG gM : Nat} {g : PG} {W : World} (h : rH base ok gG gM g W) (i n : Int) (h0 : 0 ≤ i) (h1 : i < (g.L.length : Int)) :
    Calls Try.prog 108 #[.pointer (some ⟨gG, 0, none⟩), .int .i64 i, .int .i64 n] W fun e W' => e = .returned (.bool (isN g i n)) ∧ Below W.heap.size W W' := by
  obtain ⟨An, cn, At, ct, hx1, hx2, hx3⟩ := h.blk
  obtain ⟨gN, rfl, hc⟩ := sS hx2 i h0 h1
  have P := aq (show IsF gG gM gN g.L.length cn _ _ i _ _ _ W from ⟨hx1, hc 0 _ rfl, hc 4 _ rfl, hc 5 _ rfl⟩)
  have HE := aq (show isN g i n = ((rT g.L i).f0 == 1 && ((rT g.L i).f4.f0 == n && (rT g.L i).f4.f1 == 1)) from rfl)
  generalize (rT g.L i).f0 = x0 at P HE
  generalize (rT g.L i).f4.f0 = y0 at P HE
  generalize (rT g.L i).f4.f1 = y1 at P HE
  have P3 := aq (P.out.step (yX (Below.refl _ _)))
  have B3 := aq (yX (Below.refl W.heap.size W))
  clear P hx1 hx2 hx3 hc h
  go_enter Try.func108, Try.ntmps108
  go_wp2
  by_cases hk : x0 = 1
  · subst hk
    refine xK (n := 23) (S := fun w' => w'.cell? ⟨gG, 0, none⟩ = some (.slice (some ⟨gN, 0, none⟩) g.L.length cn) ∧ w'.cell? ⟨gN, i.toNat * 22, none⟩ = some (.int .i64 1) ∧ w'.cell? ⟨gN, i.toNat * 22 + 4, none⟩ = some (.int .i64 y0) ∧ w'.cell? ⟨gN, i.toNat * 22 + 4 + 1, none⟩ = some (.int .i64 y1)) (ds := []) (msk 23 0) (by kernel_rfl) rfl rfl ⟨(bq P3.out.blk 0).trans rfl, P3.out.c0, P3.out.c4, P3.out.c5⟩ (fun hHeld => ?_); refine yO oZ.tab1 oZ.oY (fun HT_ HW_ => ?_)
    generalize W.drew = w4 at P3 B3 hHeld ⊢
    refine pU 0 7 (msk 23 1) HT_.out ?_
    refine pU 1 8 (msk 23 3) HT_.out ?_
    refine pU 2 9 (msk 23 7) HT_.out ?_
    refine tU 3 10 (msk 23 15) HT_.out HW_.out hHeld ?_ ?_ ?_
    rotate_left
    · rintro w' ⟨s0, s1, s2, s3⟩; go_simp; with_reducible rfl
    refine pU 4 11 (msk 23 31) HT_.out ?_
    refine pU 5 12 (msk 23 63) HT_.out ?_
    refine pU 6 13 (msk 23 127) HT_.out ?_
    refine tU 7 14 (msk 23 255) HT_.out HW_.out hHeld ?_ ?_ ?_
    rotate_left
    · rintro w' ⟨s0, s1, s2, s3⟩; go_simp; with_reducible rfl
    refine pU 8 15 (msk 23 511) HT_.out ?_
    refine pU 9 16 (msk 23 1023) HT_.out ?_
    refine pU 10 17 (msk 23 2047) HT_.out ?_
    refine pU 11 18 (msk 23 4095) HT_.out ?_
    refine pU 12 19 (msk 23 8191) HT_.out ?_
    refine tU 13 20 (msk 23 16383) HT_.out HW_.out hHeld ?_ ?_ ?_
    rotate_left
    · rintro w' ⟨s0, s1, s2, s3⟩; go_simp; with_reducible rfl
    refine pU 14 21 (msk 23 32767) HT_.out ?_
    refine pU 15 22 (msk 23 65535) HT_.out ?_
    refine pU 16 23 (msk 23 131071) HT_.out ?_
    refine tU 17 24 (msk 23 262143) HT_.out HW_.out hHeld ?_ ?_ ?_
    rotate_left
    · rintro w' ⟨s0, s1, s2, s3⟩; go_simp; with_reducible rfl
    refine pU 18 25 (msk 23 524287) HT_.out ?_
    refine wW (i := 19) (N := some 26) (msk 23 1048575) rfl rfl (zG HT_.out (by kernel_rfl)) (by decide) (fun K hK => ?_)
    refine uN Try.func106 (by kernel_rfl) rfl #[.int .i64 n] (by rfl) rfl rfl (by (try simp only [List.map_toArray, List.map_cons, List.map_nil]); first | done | rfl) ?_
    refine (vY _ _).mono ?_
    rintro e w5 ⟨rfl, hd⟩
    refine ⟨_, rfl, ?_⟩
    have P4 := aq (P3.out.step hd)
    have B4 := aq (B3.out.trans (hd.mono B3.out.size))
    clear hd P3 B3
    refine hK.out _ _ ⟨(bq P4.out.blk 0).trans rfl, P4.out.c0, P4.out.c4, P4.out.c5⟩ (fun hHeld => ?_)
    clear hK K
    refine xV (a' := ?_) ?_ ?_
    rotate_left
    · show Act.put _ (some 26) _ = _
      simp only [Act.put, sq, iw, jw]
      rfl
    refine pu_ 20 27 (msk 23 2097151) HT_.out ?_ ?_ ?_ ?_ ?_
    rotate_left
    · intro w'; go_simp; exact eql2 _ _ _ _
    rotate_left
    · simp only [Act.put, sq, iw, jw]; rfl
    refine pU 21 28 (msk 23 4194303) HT_.out ?_
    refine pU 22 6 (msk 23 8388607) HT_.out ?_
    refine wX (yG HT_.out (by kernel_rfl)) ?_
    go_wp2
    go_ret
    exact ⟨by rw [HE.out]; rfl, B4.out⟩
  · have hk' : (x0 == 1) = false := beq_eq_false_iff_ne.mpr hk
    have HK := aq hk'
    clear hk'
    refine xK (n := 23) (S := fun w' => w'.cell? ⟨gG, 0, none⟩ = some (.slice (some ⟨gN, 0, none⟩) g.L.length cn) ∧ w'.cell? ⟨gN, i.toNat * 22, none⟩ = some (.int .i64 x0) ∧ w'.cell? ⟨gN, i.toNat * 22 + 4, none⟩ = some (.int .i64 y0) ∧ w'.cell? ⟨gN, i.toNat * 22 + 4 + 1, none⟩ = some (.int .i64 y1)) (ds := []) (msk 23 0) (by kernel_rfl) rfl rfl ⟨(bq P3.out.blk 0).trans rfl, P3.out.c0, P3.out.c4, P3.out.c5⟩ (fun hHeld => ?_); refine yO oZ.tab1 oZ.oY (fun HT_ HW_ => ?_)
    generalize W.drew = w4 at P3 B3 hHeld ⊢
    refine pU 0 7 (msk 23 1) HT_.out ?_
    refine pU 1 8 (msk 23 3) HT_.out ?_
    refine pU 2 9 (msk 23 7) HT_.out ?_
    refine tU 3 10 (msk 23 15) HT_.out HW_.out hHeld ?_ ?_ ?_
    rotate_left
    · rintro w' ⟨s0, s1, s2, s3⟩; go_simp; with_reducible rfl
    refine pU 4 11 (msk 23 31) HT_.out ?_
    refine pU 5 12 (msk 23 63) HT_.out ?_
    refine pU 6 13 (msk 23 127) HT_.out ?_
    refine tU 7 14 (msk 23 255) HT_.out HW_.out hHeld ?_ ?_ ?_
    rotate_left
    · rintro w' ⟨s0, s1, s2, s3⟩; go_simp; with_reducible rfl
    refine pu_ 8 15 (msk 23 511) HT_.out ?_ ?_ ?_ ?_ ?_
    rotate_left
    · intro w'; go_simp; rw [HK.out]
    rotate_left
    · simp only [Act.put, sq, iw, jw]; rfl
    refine pU 9 16 (msk 23 1023) HT_.out ?_
    refine pW 10 17 (msk 23 2047) HT_.out ?_
    refine pW 11 18 (msk 23 4095) HT_.out ?_
    refine pW 12 19 (msk 23 8191) HT_.out ?_
    refine pW 13 20 (msk 23 16383) HT_.out ?_
    refine pW 14 21 (msk 23 32767) HT_.out ?_
    refine pW 15 22 (msk 23 65535) HT_.out ?_
    refine pW 16 23 (msk 23 131071) HT_.out ?_
    refine pW 17 24 (msk 23 262143) HT_.out ?_
    refine pW 18 25 (msk 23 524287) HT_.out ?_
    refine pW 19 26 (msk 23 1048575) HT_.out ?_
    refine pW 20 27 (msk 23 2097151) HT_.out ?_
    refine pU 21 28 (msk 23 4194303) HT_.out ?_
    refine pU 22 6 (msk 23 8388607) HT_.out ?_
    refine wX (yG HT_.out (by kernel_rfl)) ?_
    go_wp2
    go_ret
    exact ⟨by rw [HE.out, HK.out]; rfl, B3.out⟩
end Go.Proofs.Ytoonahobmlnflaa.PC
namespace Go.Proofs
open Go.Shelf
def Try.lays134_ren : Go.Shelf.Ren := ⟨fun | 134 => 128 | 129 => 83 | n => n, fun | 53 => 142 | 3 => 3 | 4 => 4 | 46 => 104 | 5 => 5 | 9 => 9 | n => n, fun | n => n⟩
theorem Try.lays134 : Go.Proofs.Lays.n134 Try.prog Try.lays134_ren := {
  mixed := by kernel_rfl
  f129 := Try.func83.trans (congrArg some (by kernel_rfl))
  f134 := Try.func128.trans (congrArg some (by kernel_rfl))
  t3 := Try.underlying3
  a3 := Try.isAgg3
  z3 := Try.sizeOf3
  v3 := Try.zeroValue3
  t4 := Try.underlying4
  a4 := Try.isAgg4
  z4 := Try.sizeOf4
  v4 := Try.zeroValue4
  t5 := Try.underlying5
  a5 := Try.isAgg5
  z5 := Try.sizeOf5
  v5 := Try.zeroValue5
  t9 := Try.underlying9
  a9 := Try.isAgg9
  z9 := Try.sizeOf9
  v9 := Try.zeroValue9
  t46 := Try.underlying104
  a46 := Try.isAgg104
  z46 := Try.sizeOf104
  v46 := Try.zeroValue104
  t53 := Try.underlying142
  a53 := Try.isAgg142
  z53 := Try.sizeOf142
  v53 := Try.zeroValue142 }
end Go.Proofs
namespace Go.Proofs.Ytoonahobmlnflaa.PC
open Go.RowKit Go.Shelf A B C
def bits_LeadingZeros64.f (a0 : Int) : Option Int := if 0 ≤ a0 ∧ a0 ≤ 18446744073709551615 then some (64 - (Go.Lib.bitLen a0.toNat : Int)) else none
theorem bits_LeadingZeros64.calls (a0 : Int) (r : Int) (w : World) (h : bits_LeadingZeros64.f a0 = some r) :
    Calls Try.prog 128 #[.int .u64 a0] w fun e w' => e = .returned (.int .i64 r) ∧ Below w.heap.size w w' := by
  unfold bits_LeadingZeros64.f at h
  split at h
  · rename_i hc
    obtain rfl := Option.some.inj h
    exact (Go.Proofs.Any.bits_LeadingZeros64 Try.lays134 a0 w hc.1 hc.2).mono (fun e w' he => ⟨he.1, by rw [he.2]; exact Below.refl _ _⟩)
  · cases h
def bits_Add64.f (a b c : Int) : Option (Int × Int) := if (0 ≤ a ∧ 0 ≤ b) ∧ (0 ≤ c ∧ c ≤ 1) then some ((a + b + c) % 18446744073709551616, (a + b + c) / 18446744073709551616) else none
theorem bits_Add64.run {a b c r s : Int} (h : bits_Add64.f a b c = some (r, s)) (w : World) : (callFunc 122 #[.int .u64 a, .int .u64 b, .int .u64 c]).run Try.prog w = .ok (.value (.tuple #[.int .u64 r, .int .u64 s])) w := by
  unfold bits_Add64.f at h
  split at h
  · rename_i hc
    obtain ⟨rfl, rfl⟩ := Prod.mk.inj (Option.some.inj h)
    rw [run_callFunc_extern Try.func122 (by kernel_rfl) (by kernel_rfl) (by kernel_rfl) (e := add64Entry) (by kernel_rfl), run_add64 a b c hc.1.1 hc.1.2 hc.2.1 hc.2.2]
    rfl
  · cases h
def bits_Sub64.f (a b c : Int) : Option (Int × Int) := if (0 ≤ a ∧ 0 ≤ b ∧ b < 18446744073709551616) ∧ (0 ≤ c ∧ c ≤ 1) then some ((a - b - c) % 18446744073709551616, if a < b + c then 1 else 0) else none
theorem bits_Sub64.run {a b c r s : Int} (h : bits_Sub64.f a b c = some (r, s)) (w : World) : (callFunc 123 #[.int .u64 a, .int .u64 b, .int .u64 c]).run Try.prog w = .ok (.value (.tuple #[.int .u64 r, .int .u64 s])) w := by
  unfold bits_Sub64.f at h
  split at h
  · rename_i hc
    obtain ⟨rfl, rfl⟩ := Prod.mk.inj (Option.some.inj h)
    obtain ⟨x, rfl⟩ := Int.eq_ofNat_of_zero_le hc.1.1
    obtain ⟨y, rfl⟩ := Int.eq_ofNat_of_zero_le hc.1.2.1
    obtain ⟨z, rfl⟩ := Int.eq_ofNat_of_zero_le hc.2.1
    rw [run_callFunc_extern Try.func123 (by kernel_rfl) (by kernel_rfl) (by kernel_rfl) (e := sub64Entry) (by kernel_rfl), run_sub64 x y z (by omega)]
    have e1 : (((x + 18446744073709551616 - y - z) % 18446744073709551616 : Nat) : Int) = ((x : Int) - y - z) % 18446744073709551616 := by omega
    have e2 : ((if x < y + z then 1 else 0 : Nat) : Int) = if (x : Int) < y + z then 1 else 0 := by
      by_cases h : x < y + z
      · rw [if_pos h, if_pos (by omega)]; rfl
      · rw [if_neg h, if_neg (by omega)]; rfl
    rw [e1, e2]
    rfl
  · cases h
end Go.Proofs.Ytoonahobmlnflaa.PC
