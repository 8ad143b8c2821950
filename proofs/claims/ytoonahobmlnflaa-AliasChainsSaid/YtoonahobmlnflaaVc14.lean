/- Texts of this claim, one behind the other. -/
import Derived.Test.YtoonahobmlnflaaVc13
set_option linter.unusedVariables false
set_option linter.unusedSimpArgs false
set_option maxRecDepth 100000
set_option maxHeartbeats 16000000
namespace Go.Proofs.Ytoonahobmlnflaa.PC
open Go.RowKit Go.Shelf A B C
def fo71.T1 : Bool × List (List Nat × List Nat) := (true, [([], []), ([0], [0]), ([1], [1]), ([2], [2]), ([], []), ([3, 4], [3, 4]), ([5], [5]), ([], []), ([7], [7]), ([8], [8]), ([9], [9]), ([], []), ([10, 11], [10, 11]), ([12], [12]), ([], []), ([], []), ([14, 6, 0, 1, 2, 3, 4, 5, 6, 14, 15], [6, 14]), ([15, 13, 16, 0, 1, 2, 3, 4, 5, 6, 7, 8, 9, 10, 11, 12, 13, 14, 15, 16], [13, 15])])
def fo71.B1 : List Nat := [0, 1, 3, 7, 0, 31, 63, 0, 128, 384, 896, 0, 3968, 8064, 0, 0, 49279, 131071]
theorem fo71.tab1 : wD .any (opsOf Try.f71 1) = fo71.T1 := by kernel_rfl
theorem fo71.oY : xR fo71.T1.2 fo71.B1 = true := by kernel_rfl
structure FoG (gG gM gN ln cn : Nat) (c1 c3 : Value) (a b : Int) (x y : S37) (W V : World) : Prop where
  blk : V.heap[gG]? = some (.cells #[.slice (some ⟨gN, 0, none⟩) ln cn, c1, .map (some gM), c3] 71 (0, 0))
  ca : ∀ (j : Nat) v, (wY x)[j]? = some v → V.cell? ⟨gN, a.toNat * 22 + j, none⟩ = some v
  cb : ∀ (j : Nat) v, (wY y)[j]? = some v → V.cell? ⟨gN, b.toNat * 22 + j, none⟩ = some v
  B : Below W.heap.size W V
theorem FoG.step {gG gM gN ln cn : Nat} {c1 c3 : Value} {a b : Int} {x y : S37} {W V V' : World} (h : FoG gG gM gN ln cn c1 c3 a b x y W V) (hd : Below V.heap.size V V') : FoG gG gM gN ln cn c1 c3 a b x y W V' :=
  ⟨bb_ h.blk hd, fun j v hv => (hd.cell (World.block_lt_of_cell? V _ (h.ca j v hv))).trans (h.ca j v hv), fun j v hv => (hd.cell (World.block_lt_of_cell? V _ (h.cb j v hv))).trans (h.cb j v hv), bt_ h.B hd⟩
theorem FoG.root {gG gM gN ln cn : Nat} {c1 c3 : Value} {a b : Int} {x y : S37} {W V : World} (h : FoG gG gM gN ln cn c1 c3 a b x y W V) : FoG gG gM gN ln cn c1 c3 a b x y V V := ⟨h.blk, h.ca, h.cb, Below.refl _ _⟩
theorem rN {V : World} {k k' : Nat} {cs cs' : Array Value} {t t' : TypeId} {fr fr' : Nat × Nat} (h : V.heap[k]? = some (.cells cs t fr)) (h' : V.heap[k']? = some (.cells cs' t' fr')) (ht : t ≠ t') : k ≠ k' := fun e => by
  rw [e, h'] at h
  injection h with h
  injection h with _ h _
  exact ht h.symm
structure FoR (gx gy gr : Nat) (x y : S37) (r : S30) (W V : World) : Prop where
  bx : V.heap[gx]? = some (.cells (zC x) 37 (0, 0))
  bY : V.heap[gy]? = some (.cells (zC y) 37 (0, 0))
  br : V.heap[gr]? = some (.cells (numA r) 30 (0, 0))
  B : Below W.heap.size W V
  hr : W.heap.size ≤ gr
section
variable {gx gy gr : Nat} {x y : S37} {r : S30} {W V V' : World}
theorem FoR.step (h : FoR gx gy gr x y r W V) (hd : Below V.heap.size V V') : FoR gx gy gr x y r W V' := ⟨bb_ h.bx hd, bb_ h.bY hd, bb_ h.br hd, bt_ h.B hd, h.hr⟩
theorem FoR.other {g : Nat} {q : S30} (h : FoR gx gy gr x y r W V) (ho : rJ g V V') (hg : V.heap[g]? = some (.cells (numA q) 30 (0, 0))) (hn : gr ≠ g) (hw : W.heap.size ≤ g) : FoR gx gy gr x y r W V' :=
  ⟨ho.blk h.bx (rN h.bx hg (by decide)), ho.blk h.bY (rN h.bY hg (by decide)), ho.blk h.br hn, h.B.trans (ho.below hw), h.hr⟩
theorem FoR.set {q : S30} (h : FoR gx gy gr x y r W V) (ho : rJ gr V V') (hg : V'.heap[gr]? = some (.cells (numA q) 30 (0, 0))) : FoR gx gy gr x y q W V' :=
  ⟨ho.blk h.bx (rN h.bx h.br (by decide)), ho.blk h.bY (rN h.bY h.br (by decide)), hg, h.B.trans (ho.below h.hr), h.hr⟩
end
theorem foldX_no {R : xH} {kind n : Int} {x y : S37} (h : x.f0 ≠ 1 ∨ (zI kind = 2 ∧ y.f0 ≠ 1)) : foldX R kind x y n = (⟨0, 0⟩, false) := if_pos h
theorem vG {R : xH} {kind n : Int} {x y : S37} (h : ¬(x.f0 ≠ 1 ∨ (zI kind = 2 ∧ y.f0 ≠ 1))) : foldX R kind x y n = foldQ R kind x.f4 y.f4 n := if_neg h
def pX.T17 : Bool × List (List Nat × List Nat) := (true, [([], []), ([], []), ([1], [1]), ([0, 2, 0], [0, 2]), ([3], [3]), ([4], [4]), ([4], [4]), ([5, 3, 0, 1, 2, 3, 4, 5], [5]), ([6, 7, 0, 1, 2, 3, 4, 5, 6, 7], [6])])
def pX.B17 : List Nat := [0, 0, 2, 7, 15, 31, 31, 63, 255]
theorem pX.tab17 : wD .any (opsOf Try.f71 17) = pX.T17 := by kernel_rfl
theorem pX.bits17 : xR pX.T17.2 pX.B17 = true := by kernel_rfl
def rX.T21 : Bool × List (List Nat × List Nat) := (true, [([], []), ([0], [0]), ([], []), ([2], [2]), ([], []), ([3, 4], [3, 4]), ([5, 4], [5]), ([6], [6]), ([7, 6], [6, 7]), ([6, 6], [6]), ([8, 9, 6], [6, 8, 9]), ([6, 10], [6, 10]), ([1, 9, 0, 1], [1]), ([11, 12, 0, 1, 2, 3, 4, 5, 6, 7, 8, 9, 10, 11, 12], [11])])
def rX.B21 : List Nat := [0, 1, 0, 4, 0, 28, 60, 124, 252, 124, 1020, 2044, 639, 8191]
theorem rX.tab21 : wD .any (opsOf Try.f71 21) = rX.T21 := by kernel_rfl
theorem rX.bits21 : xR rX.T21.2 rX.B21 = true := by kernel_rfl
def rY.T24 : Bool × List (List Nat × List Nat) := (true, [([], []), ([], []), ([1], [1]), ([0], []), ([2, 3], [2, 3]), ([0, 3, 0], [0]), ([4, 5, 0, 1, 2, 3, 4, 5], [4])])
def rY.B24 : List Nat := [0, 0, 2, 1, 15, 9, 63]
theorem rY.tab24 : wD .any (opsOf Try.f71 24) = rY.T24 := by kernel_rfl
theorem rY.bits24 : xR rY.T24.2 rY.B24 = true := by kernel_rfl
def pY.T26 : Bool × List (List Nat × List Nat) := (true, [([], []), ([], []), ([1], [1]), ([0], []), ([2, 3], [2, 3]), ([0, 3, 0], [0]), ([4, 5, 0, 1, 2, 3, 4, 5], [4])])
def pY.B26 : List Nat := [0, 0, 2, 1, 15, 9, 63]
theorem pY.tab26 : wD .any (opsOf Try.f71 26) = pY.T26 := by kernel_rfl
theorem pY.bits26 : xR pY.T26.2 pY.B26 = true := by kernel_rfl
def pT.T7 : Bool × List (List Nat × List Nat) := (true, [([], []), ([], []), ([1], [1]), ([0], []), ([2, 3], [2, 3]), ([0, 3, 0], [0]), ([4, 5, 0, 1, 2, 3, 4, 5], [4])])
def pT.B7 : List Nat := [0, 0, 2, 1, 15, 9, 63]
theorem pT.tab7 : wD .any (opsOf Try.f71 7) = pT.T7 := by kernel_rfl
theorem pT.bits7 : xR pT.T7.2 pT.B7 = true := by kernel_rfl
theorem folded71 {base : Nat} {ok : Nat → Prop} {gG gM : Nat} {g : PG} {W : World} (h : rH base ok gG gM g W) (kind a b n : Int) (hk0 : 3 ≤ kind) (hk1 : kind ≤ 14) (a0 : 0 ≤ a) (a1 : a < (g.L.length : Int)) (b0 : 0 ≤ b) (b1 : b < (g.L.length : Int)) (hqa : I64q (rT g.L a).f4) (hqb : I64q (rT g.L b).f4) :
    Calls Try.prog 71 #[.pointer (some ⟨gG, 0, none⟩), .int .i64 kind, .int .i64 a, .int .i64 b, .int .i64 n] W fun e W' => e = .returned (.tuple #[aggQ (tM yN g kind a b n).1, .bool (tM yN g kind a b n).2]) ∧ Below W.heap.size W W' := by
  have hu30 := Try.underlying30
  have hu71 := Try.underlying71
  have hu22 := Try.underlying22
  obtain ⟨An, cn, At, ct, hx1, hx2, hx3⟩ := h.blk
  obtain ⟨gN, rfl, hc⟩ := sS hx2 a a0 a1
  obtain ⟨gN', hgN, hc'⟩ := sS hx2 b b0 b1
  obtain rfl : gN = gN' := by cases hgN; rfl
  clear hgN
  have P := aq (show FoG gG gM gN g.L.length cn (.slice At g.T.length ct) (.bool g.xD) a b (rT g.L a) (rT g.L b) W W from ⟨hx1, hc, hc', Below.refl _ _⟩)
  have HE := aq (show tM yN g kind a b n = foldX yN kind (rT g.L a) (rT g.L b) n from rfl)
  have HQA := aq hqa
  have HQB := aq hqb
  clear hx1 hx2 hx3 hc hc' h hqa hqb
  generalize tM yN g kind a b n = fr at HE ⊢
  go_enter Try.func71, Try.ntmps71
  go_upto_region 2 with ((with_reducible refine gD (N := 10) rfl ?_); refine bE ?hg (N := 10) ?hd (cs := #[.int .i64 0, .int .i64 0]) (t := 30) ?hr ?_; (case hd => rfl); (case hg => rfl); (case hr => first | (go_simp; done) | (go_simp; rfl)); intro gr hgr wr hbox hb; have P3' := aq (P.out.step hb).root; have HR := aq hbox; have HB0 := aq hb; have HGR := aq (show W.heap.size ≤ gr by omega); clear hbox hb hgr P; have P0 := P3'; have P3 := aq (P3'.out.step (yX (Below.refl _ _))); clear P3')
  go_cut [12, 13] (fun s12 s13 wx => ∃ gx gy, s12 = .pointer (some ⟨gx, 0, none⟩) ∧ s13 = .pointer (some ⟨gy, 0, none⟩) ∧ FoR gx gy gr (rT g.L a) (rT g.L b) ⟨0, 0⟩ W wx)
  case first =>
    refine xK (n := 18) (S := fun w' => w'.cell? ⟨gG, 0, none⟩ = some (.slice (some ⟨gN, 0, none⟩) g.L.length cn) ∧ (∀ (j : Nat) v, (wY (rT g.L a))[j]? = some v → w'.cell? ⟨gN, a.toNat * 22 + j, none⟩ = some v) ∧ (∀ (j : Nat) v, (wY (rT g.L b))[j]? = some v → w'.cell? ⟨gN, b.toNat * 22 + j, none⟩ = some v)) (ds := [17]) (msk 18 0) (by kernel_rfl) rfl rfl ⟨(bq P3.out.blk 0).trans rfl, P3.out.ca, P3.out.cb⟩ (fun hHeld => ?_); refine yO fo71.tab1 fo71.oY (fun HT_ HW_ => ?_)
    generalize wr.drew = w2 at P3 hHeld ⊢
    refine pU 0 16 (msk 18 1) HT_.out ?_
    refine pU 1 17 (msk 18 3) HT_.out ?_
    refine pU 2 18 (msk 18 7) HT_.out ?_
    refine tU 3 19 (msk 18 15) HT_.out HW_.out hHeld ?_ ?_ ?_
    rotate_left
    · rintro w' ⟨s0, s1, s2⟩; go_simp; with_reducible rfl
    refine pU 4 20 (msk 18 31) HT_.out ?_
    refine pU 5 21 (msk 18 63) HT_.out ?_
    refine tU 6 22 (msk 18 127) HT_.out HW_.out hHeld ?_ ?_ ?_
    rotate_left
    · rintro w' ⟨s0, s1, s2⟩; rw [nU (x := rT g.L a) (hc := s1)]; all_goals rfl
    refine pU 7 23 (msk 18 255) HT_.out ?_
    refine pU 8 24 (msk 18 511) HT_.out ?_
    refine pU 9 25 (msk 18 1023) HT_.out ?_
    refine tU 10 26 (msk 18 2047) HT_.out HW_.out hHeld ?_ ?_ ?_
    rotate_left
    · rintro w' ⟨s0, s1, s2⟩; go_simp; with_reducible rfl
    refine pU 11 27 (msk 18 4095) HT_.out ?_
    refine pU 12 28 (msk 18 8191) HT_.out ?_
    refine tU 13 29 (msk 18 16383) HT_.out HW_.out hHeld ?_ ?_ ?_
    rotate_left
    · rintro w' ⟨s0, s1, s2⟩; rw [nU (x := rT g.L b) (hc := s2)]; all_goals rfl
    refine two_ (i := 14) (j := 15) (Ni := some 12) (Nj := some 13) (msk 18 32767) (msk 18 49151) rfl rfl rfl rfl (two_of HT_.out (by kernel_rfl)) (by decide) (by decide) (fun K hK => ?_) (fun K hK => ?_)
    · refine alloc37_ rfl rfl (by rfl) rfl (fun ga W3 hgx hbx hb4 => ?_)
      have P4 := aq (P3.out.step hb4)
      have Bga := aq hbx
      have Gga := aq (show wr.heap.size ≤ ga by rw [hgx]; exact P3.out.B.size)
      clear hbx hgx hb4 P3
      have P3 := P4
      clear P4
      refine hK.out _ _ ⟨(bq P3.out.blk 0).trans rfl, P3.out.ca, P3.out.cb⟩ (fun hHeld => ?_)
      clear hK K
      refine xV (a' := ?_) ?_ ?_
      rotate_left
      · show Act.put _ (some 12) _ = _
        simp only [Act.put, sq, iw, jw]
        rfl
      refine wW (i := 15) (N := some 13) (msk 18 65535) rfl rfl (zG HT_.out (by kernel_rfl)) (by decide) (fun K hK => ?_)
      refine alloc37_ rfl rfl (by rfl) rfl (fun gb W4 hgx hbx hb4 => ?_)
      have P4 := aq (P3.out.step hb4)
      have Bga' := aq (bb_ Bga.out hb4)
      have NEgb := aq (show gb ≠ ga by rw [hgx]; have := zN Bga.out; omega)
      have NEga := aq (show ga ≠ gb from fun e => NEgb.out e.symm)
      have Bgb := aq hbx
      have Ggb := aq (show wr.heap.size ≤ gb by rw [hgx]; exact P3.out.B.size)
      clear hbx hgx hb4 P3 Bga
      have P3 := P4
      have Bga := Bga'
      clear P4 Bga'
      refine hK.out _ _ ⟨(bq P3.out.blk 0).trans rfl, P3.out.ca, P3.out.cb⟩ (fun hHeld => ?_)
      clear hK K
      refine xV (a' := ?_) ?_ ?_
      rotate_left
      · show Act.put _ (some 13) _ = _
        simp only [Act.put, sq, iw, jw]
        rfl
      refine wW (i := 16) (N := none) (msk 18 131071) rfl rfl (zG HT_.out (by kernel_rfl)) (by decide) (fun K hK => ?_)
      refine store37_ (p := .tmp 12) (v := .tmp 22) (g := ga) (x := rT g.L a) rfl rfl (by rfl) rfl rfl rfl Bga.out (xX _) (fun W5 hx5 h5 => ?_)
      have BX := aq hx5
      have BY := aq (h5.blk Bgb.out NEgb.out)
      have HB5 := aq (h5.below Gga.out)
      have P4 := aq (P3.out.B.trans HB5.out)
      have P5 := aq (P0.out.step P4.out)
      clear hx5 h5 P3 Bga Bgb HB5
      refine hK.out _ _ ⟨(bq P5.out.blk 0).trans rfl, P5.out.ca, P5.out.cb⟩ (fun hHeld => ?_)
      clear hK K P5
      refine uB (i := 17) (N := none) (msk 18 262143) rfl rfl (zG HT_.out (by kernel_rfl)) (by decide) (fun K hK => ?_)
      refine store37_ (p := .tmp 13) (v := .tmp 29) (g := gb) (x := rT g.L b) rfl rfl (by rfl) rfl rfl rfl BY.out (xX _) (fun W6 hx6 h6 => ?_)
      have BX6 := aq (h6.blk BX.out NEga.out)
      have HB6 := aq (h6.below Ggb.out)
      have P5 := aq (P4.out.trans HB6.out)
      have BY6 := aq hx6
      clear hx6 h6 P4 BX BY HB6
      refine hK.out _ _ ?_
      clear hK K
      refine wX (yG HT_.out (by kernel_rfl)) ?_
      go_wp2
      go_meet
      exact ⟨ga, gb, rfl, rfl, BX6.out, BY6.out, bb_ HR.out P5.out, bt_ HB0.out P5.out, HGR.out⟩
    · refine alloc37_ rfl rfl (by rfl) rfl (fun ga W3 hgx hbx hb4 => ?_)
      have P4 := aq (P3.out.step hb4)
      have Bga := aq hbx
      have Gga := aq (show wr.heap.size ≤ ga by rw [hgx]; exact P3.out.B.size)
      clear hbx hgx hb4 P3
      have P3 := P4
      clear P4
      refine hK.out _ _ ⟨(bq P3.out.blk 0).trans rfl, P3.out.ca, P3.out.cb⟩ (fun hHeld => ?_)
      clear hK K
      refine xV (a' := ?_) ?_ ?_
      rotate_left
      · show Act.put _ (some 13) _ = _
        simp only [Act.put, sq, iw, jw]
        rfl
      refine wW (i := 14) (N := some 12) (msk 18 65535) rfl rfl (zG HT_.out (by kernel_rfl)) (by decide) (fun K hK => ?_)
      refine alloc37_ rfl rfl (by rfl) rfl (fun gb W4 hgx hbx hb4 => ?_)
      have P4 := aq (P3.out.step hb4)
      have Bga' := aq (bb_ Bga.out hb4)
      have NEgb := aq (show gb ≠ ga by rw [hgx]; have := zN Bga.out; omega)
      have NEga := aq (show ga ≠ gb from fun e => NEgb.out e.symm)
      have Bgb := aq hbx
      have Ggb := aq (show wr.heap.size ≤ gb by rw [hgx]; exact P3.out.B.size)
      clear hbx hgx hb4 P3 Bga
      have P3 := P4
      have Bga := Bga'
      clear P4 Bga'
      refine hK.out _ _ ⟨(bq P3.out.blk 0).trans rfl, P3.out.ca, P3.out.cb⟩ (fun hHeld => ?_)
      clear hK K
      refine xV (a' := ?_) ?_ ?_
      rotate_left
      · show Act.put _ (some 12) _ = _
        simp only [Act.put, sq, iw, jw]
        rfl
      refine wW (i := 16) (N := none) (msk 18 131071) rfl rfl (zG HT_.out (by kernel_rfl)) (by decide) (fun K hK => ?_)
      refine store37_ (p := .tmp 12) (v := .tmp 22) (g := gb) (x := rT g.L a) rfl rfl (by rfl) rfl rfl rfl Bgb.out (xX _) (fun W5 hx5 h5 => ?_)
      have BX := aq hx5
      have BY := aq (h5.blk Bga.out NEga.out)
      have HB5 := aq (h5.below Ggb.out)
      have P4 := aq (P3.out.B.trans HB5.out)
      have P5 := aq (P0.out.step P4.out)
      clear hx5 h5 P3 Bgb Bga HB5
      refine hK.out _ _ ⟨(bq P5.out.blk 0).trans rfl, P5.out.ca, P5.out.cb⟩ (fun hHeld => ?_)
      clear hK K P5
      refine uB (i := 17) (N := none) (msk 18 262143) rfl rfl (zG HT_.out (by kernel_rfl)) (by decide) (fun K hK => ?_)
      refine store37_ (p := .tmp 13) (v := .tmp 29) (g := ga) (x := rT g.L b) rfl rfl (by rfl) rfl rfl rfl BY.out (xX _) (fun W6 hx6 h6 => ?_)
      have BX6 := aq (h6.blk BX.out NEgb.out)
      have HB6 := aq (h6.below Gga.out)
      have P5 := aq (P4.out.trans HB6.out)
      have BY6 := aq hx6
      clear hx6 h6 P4 BX BY HB6
      refine hK.out _ _ ?_
      clear hK K
      refine wX (yG HT_.out (by kernel_rfl)) ?_
      go_wp2
      go_meet
      exact ⟨gb, ga, rfl, rfl, BX6.out, BY6.out, bb_ HR.out P5.out, bt_ HB0.out P5.out, HGR.out⟩
  case rest =>
    obtain ⟨gx, gy, rfl, rfl, hF⟩ := hcut
    have F := aq hF
    clear hF P3 P0 HR HB0 HGR
    generalize rT g.L a = x at F HE HQA
    generalize rT g.L b = y at F HE HQB
    by_cases hno : (x.f0 ≠ 1 ∨ (zI kind = 2 ∧ y.f0 ≠ 1))
    · have HE2 := aq (HE.out.trans (foldX_no hno))
      by_cases hx : x.f0 = 1
      · have hy : zI kind = 2 ∧ y.f0 ≠ 1 := hno.resolve_left (fun h => h hx)
        have z0 := (bq F.out.bx 0).trans (show _ = some (.int .i64 1) from by rw [← hx]; rfl)
        have HARG := aq (show zD.f 9 kind = some 2 from (tF kind).trans (by rw [hy.1]))
        have hyb : (y.f0 != 1) = true := bne_iff_ne.mpr hy.2
        clear hy hx hno
        go_wp2_with (first | (go_at_call 44; refine (zD.calls 9 _ _ _ HARG.out).mono ?_; rintro e w5 ⟨rfl, hd⟩; have F5 := aq (F.out.step (wQ hd)); clear hd F; have F := F5; clear F5; clear z0; have zy := (bq F.out.bY 0).trans (show _ = some (.int .i64 y.f0) from rfl)) | ((with_reducible refine xN 10 ?_); refine wT (g := gr) (q := ⟨0, 0⟩) rfl rfl F.out.br rfl ?_; intro W7 hx7 h7; have F7 := aq (F.out.set h7 hx7); clear hx7 h7 F; have F := F7; clear F7))
        refine bodyPost_ret (zB rfl _ _ gr 30 _ (0, 0) _ rfl F.out.br Try.underlying30 rfl (by kernel_rfl)) rfl ⟨?_, F.out.B⟩
        rw [HE2.out]
        rfl
      · have z0 := (bq F.out.bx 0).trans (show _ = some (.int .i64 x.f0) from rfl)
        have hxb : (x.f0 != 1) = true := bne_iff_ne.mpr hx
        clear hx hno
        go_wp2_with (first | ((with_reducible refine xN 10 ?_); refine wT (g := gr) (q := ⟨0, 0⟩) rfl rfl F.out.br rfl ?_; intro W7 hx7 h7; have F7 := aq (F.out.set h7 hx7); clear hx7 h7 F; have F := F7; clear F7))
        refine bodyPost_ret (zB rfl _ _ gr 30 _ (0, 0) _ rfl F.out.br Try.underlying30 rfl (by kernel_rfl)) rfl ⟨?_, F.out.B⟩
        rw [HE2.out]
        rfl
    · have hx : x.f0 = 1 := Classical.byContradiction fun h => hno (.inl h)
      have z0 := (bq F.out.bx 0).trans (show _ = some (.int .i64 1) from by rw [← hx]; rfl)
      rcases (show (kind = 3 ∨ kind = 4 ∨ kind = 5 ∨ kind = 6) ∨ (kind = 7 ∨ kind = 8 ∨ kind = 9 ∨ kind = 10 ∨ kind = 11 ∨ kind = 12 ∨ kind = 13 ∨ kind = 14) by omega) with hk | hk
      · have hk2 : zI kind = 2 := by rcases hk with rfl | rfl | rfl | rfl <;> rfl
        have hy : y.f0 = 1 := Classical.byContradiction fun h => hno (.inr ⟨hk2, h⟩)
        have HARG := aq (show zD.f 9 kind = some 2 from (tF kind).trans (by rw [hk2]))
        have HY := aq hy
        clear hx hk2 hy
        go_upto_region 8 with (first | (go_at_call 44; refine (zD.calls 9 _ _ _ HARG.out).mono ?_; rintro e w5 ⟨rfl, hd⟩; have F5 := aq (F.out.step (wQ hd)); clear hd F; have F := F5; clear F5; clear z0; have zy := (bq F.out.bY 0).trans (show _ = some (.int .i64 1) from by rw [← HY.out]; rfl)) | ((with_reducible refine gD (N := 14) rfl ?_); refine bE ?hg (N := 14) ?hd (cs := #[.int .i64 0, .int .i64 0]) (t := 30) ?hr ?_; (case hd => rfl); (case hg => rfl); (case hr => first | (go_simp; done) | (go_simp; rfl)); intro gq hgq w6 hbox hb; have NQ := aq (show gr ≠ gq by have := zN F.out.br; omega); have GQ := aq (show W.heap.size ≤ gq by rw [hgq]; exact F.out.B.size); have F6 := aq (F.out.step hb); have HQ := aq (show w6.heap[gq]? = some (.cells (numA ⟨0, 0⟩) 30 (0, 0)) from hbox); clear hbox hb hgq F; have F := F6; clear F6; clear zy))
        rcases hk with rfl | rfl | rfl | rfl
        · have HE2 := aq (show fr = okQ (addQ x.f4 y.f4) from HE.out.trans (vG hno))
          clear HE hno
          have z4 := (bq F.out.bx 4).trans (show _ = some (.int .i64 x.f4.f0) from rfl)
          have z5 := (bq F.out.bx 5).trans (show _ = some (.int .i64 x.f4.f1) from rfl)
          have y4 := (bq F.out.bY 4).trans (show _ = some (.int .i64 y.f4.f0) from rfl)
          have y5 := (bq F.out.bY 5).trans (show _ = some (.int .i64 y.f4.f1) from rfl)
          go_wp2_with (first | (go_at_call 103; refine (add103 HQA.out HQB.out _).mono ?_; rintro e w8 ⟨rfl, hd⟩; have F8 := aq (F.out.step hd); have HQ8 := aq (bb_ HQ.out hd); clear hd F HQ; have F := F8; have HQ := HQ8; clear F8 HQ8; (try clear z4); (try clear z5); (try clear y4); (try clear y5); unfold ansQ; generalize addQ x.f4 y.f4 = r at HE2 ⊢) | ((with_reducible refine xN 14 ?_); refine wT (g := gq) (q := r.1) rfl rfl HQ.out rfl ?_; intro W7 hx7 h7; have F7 := aq (F.out.other h7 HQ.out NQ.out GQ.out); have zq0 := (bq hx7 0).trans (show _ = some (.int .i64 (r.1).f0) from rfl); have zq1 := (bq hx7 1).trans (show _ = some (.int .i64 (r.1).f1) from rfl); clear hx7 h7 F HQ; have F := F7; clear F7) | ((with_reducible refine xN 10 ?_); refine wT (g := gr) (q := r.1) rfl rfl F.out.br rfl ?_; intro W7 hx7 h7; have F7 := aq (F.out.set h7 hx7); clear hx7 h7 F; have F := F7; clear F7))
          refine bodyPost_ret (zB rfl _ _ gr 30 _ (0, 0) _ rfl F.out.br Try.underlying30 rfl (by kernel_rfl)) rfl ⟨?_, F.out.B⟩
          rw [HE2.out]
          rfl
        · have HE2 := aq (show fr = okQ (subQ x.f4 y.f4) from HE.out.trans (vG hno))
          clear HE hno
          have z4 := (bq F.out.bx 4).trans (show _ = some (.int .i64 x.f4.f0) from rfl)
          have z5 := (bq F.out.bx 5).trans (show _ = some (.int .i64 x.f4.f1) from rfl)
          have y4 := (bq F.out.bY 4).trans (show _ = some (.int .i64 y.f4.f0) from rfl)
          have y5 := (bq F.out.bY 5).trans (show _ = some (.int .i64 y.f4.f1) from rfl)
          go_wp2_with (first | (go_at_call 104; refine (sub104 HQA.out HQB.out _).mono ?_; rintro e w8 ⟨rfl, hd⟩; have F8 := aq (F.out.step hd); have HQ8 := aq (bb_ HQ.out hd); clear hd F HQ; have F := F8; have HQ := HQ8; clear F8 HQ8; (try clear z4); (try clear z5); (try clear y4); (try clear y5); unfold ansQ; generalize subQ x.f4 y.f4 = r at HE2 ⊢) | ((with_reducible refine xN 14 ?_); refine wT (g := gq) (q := r.1) rfl rfl HQ.out rfl ?_; intro W7 hx7 h7; have F7 := aq (F.out.other h7 HQ.out NQ.out GQ.out); have zq0 := (bq hx7 0).trans (show _ = some (.int .i64 (r.1).f0) from rfl); have zq1 := (bq hx7 1).trans (show _ = some (.int .i64 (r.1).f1) from rfl); clear hx7 h7 F HQ; have F := F7; clear F7) | ((with_reducible refine xN 10 ?_); refine wT (g := gr) (q := r.1) rfl rfl F.out.br rfl ?_; intro W7 hx7 h7; have F7 := aq (F.out.set h7 hx7); clear hx7 h7 F; have F := F7; clear F7))
          refine bodyPost_ret (zB rfl _ _ gr 30 _ (0, 0) _ rfl F.out.br Try.underlying30 rfl (by kernel_rfl)) rfl ⟨?_, F.out.B⟩
          rw [HE2.out]
          rfl
        · have HE2 := aq (show fr = okQ (sE x.f4 y.f4) from HE.out.trans (vG hno))
          clear HE hno
          have z4 := (bq F.out.bx 4).trans (show _ = some (.int .i64 x.f4.f0) from rfl)
          have z5 := (bq F.out.bx 5).trans (show _ = some (.int .i64 x.f4.f1) from rfl)
          have y4 := (bq F.out.bY 4).trans (show _ = some (.int .i64 y.f4.f0) from rfl)
          have y5 := (bq F.out.bY 5).trans (show _ = some (.int .i64 y.f4.f1) from rfl)
          go_wp2_with (first | (go_at_call 105; refine (mul105 HQA.out HQB.out _).mono ?_; rintro e w8 ⟨rfl, hd⟩; have F8 := aq (F.out.step hd); have HQ8 := aq (bb_ HQ.out hd); clear hd F HQ; have F := F8; have HQ := HQ8; clear F8 HQ8; (try clear z4); (try clear z5); (try clear y4); (try clear y5); unfold ansQ; generalize sE x.f4 y.f4 = r at HE2 ⊢) | ((with_reducible refine xN 14 ?_); refine wT (g := gq) (q := r.1) rfl rfl HQ.out rfl ?_; intro W7 hx7 h7; have F7 := aq (F.out.other h7 HQ.out NQ.out GQ.out); have zq0 := (bq hx7 0).trans (show _ = some (.int .i64 (r.1).f0) from rfl); have zq1 := (bq hx7 1).trans (show _ = some (.int .i64 (r.1).f1) from rfl); clear hx7 h7 F HQ; have F := F7; clear F7) | ((with_reducible refine xN 10 ?_); refine wT (g := gr) (q := r.1) rfl rfl F.out.br rfl ?_; intro W7 hx7 h7; have F7 := aq (F.out.set h7 hx7); clear hx7 h7 F; have F := F7; clear F7))
          refine bodyPost_ret (zB rfl _ _ gr 30 _ (0, 0) _ rfl F.out.br Try.underlying30 rfl (by kernel_rfl)) rfl ⟨?_, F.out.B⟩
          rw [HE2.out]
          rfl
        · have HE2 := aq (show fr = okQ (divQ x.f4 y.f4) from HE.out.trans (vG hno))
          clear HE hno
          have z4 := (bq F.out.bx 4).trans (show _ = some (.int .i64 x.f4.f0) from rfl)
          have z5 := (bq F.out.bx 5).trans (show _ = some (.int .i64 x.f4.f1) from rfl)
          have y4 := (bq F.out.bY 4).trans (show _ = some (.int .i64 y.f4.f0) from rfl)
          have y5 := (bq F.out.bY 5).trans (show _ = some (.int .i64 y.f4.f1) from rfl)
          go_wp2_with (first | (go_at_call 99; refine (div99 HQA.out HQB.out _).mono ?_; rintro e w8 ⟨rfl, hd⟩; have F8 := aq (F.out.step hd); have HQ8 := aq (bb_ HQ.out hd); clear hd F HQ; have F := F8; have HQ := HQ8; clear F8 HQ8; (try clear z4); (try clear z5); (try clear y4); (try clear y5); unfold ansQ; generalize divQ x.f4 y.f4 = r at HE2 ⊢) | ((with_reducible refine xN 14 ?_); refine wT (g := gq) (q := r.1) rfl rfl HQ.out rfl ?_; intro W7 hx7 h7; have F7 := aq (F.out.other h7 HQ.out NQ.out GQ.out); have zq0 := (bq hx7 0).trans (show _ = some (.int .i64 (r.1).f0) from rfl); have zq1 := (bq hx7 1).trans (show _ = some (.int .i64 (r.1).f1) from rfl); clear hx7 h7 F HQ; have F := F7; clear F7) | ((with_reducible refine xN 10 ?_); refine wT (g := gr) (q := r.1) rfl rfl F.out.br rfl ?_; intro W7 hx7 h7; have F7 := aq (F.out.set h7 hx7); clear hx7 h7 F; have F := F7; clear F7))
          refine bodyPost_ret (zB rfl _ _ gr 30 _ (0, 0) _ rfl F.out.br Try.underlying30 rfl (by kernel_rfl)) rfl ⟨?_, F.out.B⟩
          rw [HE2.out]
          rfl
      · have hk2 : zI kind = 1 := by rcases hk with rfl | rfl | rfl | rfl | rfl | rfl | rfl | rfl <;> rfl
        have HARG := aq (show zD.f 9 kind = some 1 from (tF kind).trans (by rw [hk2]))
        clear hx hk2
        go_upto_region 8 with (first | (go_at_call 44; refine (zD.calls 9 _ _ _ HARG.out).mono ?_; rintro e w5 ⟨rfl, hd⟩; have F5 := aq (F.out.step (wQ hd)); clear hd F; have F := F5; clear F5; clear z0) | ((with_reducible refine gD (N := 14) rfl ?_); refine bE ?hg (N := 14) ?hd (cs := #[.int .i64 0, .int .i64 0]) (t := 30) ?hr ?_; (case hd => rfl); (case hg => rfl); (case hr => first | (go_simp; done) | (go_simp; rfl)); intro gq hgq w6 hbox hb; have NQ := aq (show gr ≠ gq by have := zN F.out.br; omega); have GQ := aq (show W.heap.size ≤ gq by rw [hgq]; exact F.out.B.size); have F6 := aq (F.out.step hb); have HQ := aq (show w6.heap[gq]? = some (.cells (numA ⟨0, 0⟩) 30 (0, 0)) from hbox); clear hbox hb hgq F; have F := F6; clear F6))
        rcases hk with rfl | rfl | rfl | rfl | rfl | rfl | rfl | rfl
        · have HE2 := aq (show fr = (okQ (subQ ⟨0, 1⟩ x.f4)) from HE.out.trans (vG hno))
          clear HE hno
          go_wp2
          have HQ8 := aq (show w6.drew.heap[gq]? = _ from HQ.out)
          clear HQ
          have HQ := HQ8
          clear HQ8
          have F8 := aq (F.out.step (yX (Below.refl _ _)))
          clear F
          have F := F8
          clear F8
          refine xK (n := 9) (S := fun w' => w'.cell? ⟨gx, 4, none⟩ = some (.int .i64 x.f4.f0) ∧ w'.cell? ⟨gx, 5, none⟩ = some (.int .i64 x.f4.f1)) (ds := []) (msk 9 0) (by kernel_rfl) rfl rfl ⟨(bq F.out.bx 4).trans rfl, (bq F.out.bx 5).trans rfl⟩ (fun hHeld => ?_); refine yO pX.tab17 pX.bits17 (fun HT_ HW_ => ?_)
          generalize w6.drew = w7 at F HQ hHeld ⊢
          refine pU 1 94 (msk 9 2) HT_.out ?_
          refine tU 2 95 (msk 9 6) HT_.out HW_.out hHeld ?_ ?_ ?_
          rotate_left
          · rintro w' ⟨s0, s1⟩; go_simp; with_reducible rfl
          refine wW (i := 0) (N := some 93) (msk 9 7) rfl rfl (zG HT_.out (by kernel_rfl)) (by decide) (fun K hK => ?_)
          refine uN Try.func106 (by kernel_rfl) rfl #[.int .i64 0] (by rfl) rfl rfl (by (try simp only [List.map_toArray, List.map_cons, List.map_nil]); first | done | rfl) ?_
          refine (vY _ _).mono ?_
          rintro e w8 ⟨rfl, hd⟩
          refine ⟨_, rfl, ?_⟩
          have F8 := aq (F.out.step hd)
          have HQ8 := aq (bb_ HQ.out hd)
          clear HQ
          have HQ := HQ8
          clear HQ8
          clear hd F
          have F := F8
          clear F8
          refine hK.out _ _ ⟨(bq F.out.bx 4).trans rfl, (bq F.out.bx 5).trans rfl⟩ (fun hHeld => ?_)
          clear hK K
          refine xV (a' := ?_) ?_ ?_
          rotate_left
          · show Act.put _ (some 93) _ = _
            simp only [Act.put, sq, iw, jw]
            rfl
          refine wW (i := 3) (N := some 96) (msk 9 15) rfl rfl (zG HT_.out (by kernel_rfl)) (by decide) (fun K hK => ?_)
          refine uN Try.func104 (by kernel_rfl) rfl #[.agg #[.int .i64 0, .int .i64 1], .agg #[.int .i64 x.f4.f0, .int .i64 x.f4.f1]] (by rfl) rfl rfl (by (try simp only [List.map_toArray, List.map_cons, List.map_nil]); first | done | rfl) ?_
          refine (sub104 (a := ⟨0, 1⟩) (b := x.f4) ⟨⟨by decide, by decide⟩, ⟨by decide, by decide⟩⟩ HQA.out _).mono ?_
          rintro e w8 ⟨rfl, hd⟩
          refine ⟨_, rfl, ?_⟩
          have F8 := aq (F.out.step hd)
          have HQ8 := aq (bb_ HQ.out hd)
          clear hd F HQ
          have F := F8
          have HQ := HQ8
          clear F8 HQ8
          unfold ansQ
          generalize subQ ⟨0, 1⟩ x.f4 = r at HE2 ⊢
          refine hK.out _ _ ⟨(bq F.out.bx 4).trans rfl, (bq F.out.bx 5).trans rfl⟩ (fun hHeld => ?_)
          clear hK K
          refine xV (a' := ?_) ?_ ?_
          rotate_left
          · show Act.put _ (some 96) _ = _
            simp only [Act.put, sq, iw, jw]
            rfl
          refine pU 4 92 (msk 9 31) HT_.out ?_
          refine pU 5 97 (msk 9 63) HT_.out ?_
          refine pU 6 98 (msk 9 127) HT_.out ?_
          refine wW (i := 7) (N := none) (msk 9 255) rfl rfl (zG HT_.out (by kernel_rfl)) (by decide) (fun K hK => ?_)
          refine rQ (p := .tmp 14) (v := .tmp 97) (g := gq) (q := r.1) rfl rfl (by rfl) rfl rfl rfl HQ.out rfl (fun W7 hx7 h7 => ?_)
          have F7 := aq (F.out.other h7 HQ.out NQ.out GQ.out)
          have HQ8 := aq hx7
          clear hx7 h7 F HQ
          have F := F7
          have HQ := HQ8
          clear F7 HQ8
          refine hK.out _ _ ⟨(bq F.out.bx 4).trans rfl, (bq F.out.bx 5).trans rfl⟩ (fun hHeld => ?_)
          clear hK K
          refine pU 8 15 (msk 9 511) HT_.out ?_
          refine wX (yG HT_.out (by kernel_rfl)) ?_
          have zq0 := (bq HQ.out 0).trans (show _ = some (.int .i64 r.1.f0) from rfl)
          have zq1 := (bq HQ.out 1).trans (show _ = some (.int .i64 r.1.f1) from rfl)
          go_wp2_with (first | ((with_reducible refine xN 10 ?_); refine wT (g := gr) (q := r.1) rfl rfl F.out.br rfl ?_; intro W7 hx7 h7; have F7 := aq (F.out.set h7 hx7); clear hx7 h7 F; have F := F7; clear F7))
          refine bodyPost_ret (zB rfl _ _ gr 30 _ (0, 0) _ rfl F.out.br Try.underlying30 rfl (by kernel_rfl)) rfl ⟨?_, F.out.B⟩
          rw [HE2.out]
          rfl
        · have HE2 := aq (show fr = okQ (powQ x.f4 n) from HE.out.trans (vG hno))
          clear HE hno
          have z4 := (bq F.out.bx 4).trans (show _ = some (.int .i64 x.f4.f0) from rfl)
          have z5 := (bq F.out.bx 5).trans (show _ = some (.int .i64 x.f4.f1) from rfl)
          go_wp2_with (first | (go_at_call 107; refine (pow107 HQA.out n _).mono ?_; rintro e w8 ⟨rfl, hd⟩; have F8 := aq (F.out.step hd); have HQ8 := aq (bb_ HQ.out hd); clear hd F HQ; have F := F8; have HQ := HQ8; clear F8 HQ8; (try clear z4); (try clear z5); (try clear y4); (try clear y5); unfold ansQ; generalize powQ x.f4 n = r at HE2 ⊢) | ((with_reducible refine xN 14 ?_); refine wT (g := gq) (q := r.1) rfl rfl HQ.out rfl ?_; intro W7 hx7 h7; have F7 := aq (F.out.other h7 HQ.out NQ.out GQ.out); have zq0 := (bq hx7 0).trans (show _ = some (.int .i64 (r.1).f0) from rfl); have zq1 := (bq hx7 1).trans (show _ = some (.int .i64 (r.1).f1) from rfl); clear hx7 h7 F HQ; have F := F7; clear F7) | ((with_reducible refine xN 10 ?_); refine wT (g := gr) (q := r.1) rfl rfl F.out.br rfl ?_; intro W7 hx7 h7; have F7 := aq (F.out.set h7 hx7); clear hx7 h7 F; have F := F7; clear F7))
          refine bodyPost_ret (zB rfl _ _ gr 30 _ (0, 0) _ rfl F.out.br Try.underlying30 rfl (by kernel_rfl)) rfl ⟨?_, F.out.B⟩
          rw [HE2.out]
          rfl
        · have HE2 := aq (show fr = (x.f4, eqQ x.f4 0 || eqQ x.f4 1) from HE.out.trans (vG hno))
          clear HE hno HQ
          go_wp2
          have F8 := aq (F.out.step (yX (Below.refl _ _)))
          clear F
          have F := F8
          clear F8
          cases hk0 : eqQ x.f4 0 with
          | true =>
            have HK := aq hk0
            refine xK (n := 14) (S := fun w' => w'.cell? ⟨gx, 4, none⟩ = some (.int .i64 x.f4.f0) ∧ w'.cell? ⟨gx, 5, none⟩ = some (.int .i64 x.f4.f1)) (ds := []) (msk 14 0) (by kernel_rfl) rfl rfl ⟨(bq F.out.bx 4).trans rfl, (bq F.out.bx 5).trans rfl⟩ (fun hHeld => ?_); refine yO rX.tab21 rX.bits21 (fun HT_ HW_ => ?_)
            generalize w6.drew = w7 at F hHeld ⊢
            refine pU 0 110 (msk 14 1) HT_.out ?_
            refine tU 1 111 (msk 14 3) HT_.out HW_.out hHeld ?_ ?_ ?_
            rotate_left
            · rintro w' ⟨s0, s1⟩; go_simp; with_reducible rfl
            refine pU 2 112 (msk 14 7) HT_.out ?_
            refine tU 3 113 (msk 14 15) HT_.out HW_.out hHeld ?_ ?_ ?_
            rotate_left
            · rintro w' ⟨s0, s1⟩; go_simp; with_reducible rfl
            refine wW (i := 4) (N := some 114) (msk 14 31) rfl rfl (zG HT_.out (by kernel_rfl)) (by decide) (fun K hK => ?_)
            refine uN Try.func106 (by kernel_rfl) rfl #[.int .i64 0] (by rfl) rfl rfl (by (try simp only [List.map_toArray, List.map_cons, List.map_nil]); first | done | rfl) ?_
            refine (vY _ _).mono ?_
            rintro e w8 ⟨rfl, hd⟩
            refine ⟨_, rfl, ?_⟩
            have F8 := aq (F.out.step hd)
            clear hd F
            have F := F8
            clear F8
            refine hK.out _ _ ⟨(bq F.out.bx 4).trans rfl, (bq F.out.bx 5).trans rfl⟩ (fun hHeld => ?_)
            clear hK K
            refine xV (a' := ?_) ?_ ?_
            rotate_left
            · show Act.put _ (some 114) _ = _
              simp only [Act.put, sq, iw, jw]
              rfl
            refine pu_ 5 115 (msk 14 63) HT_.out ?_ ?_ ?_ ?_ ?_
            rotate_left
            · intro w'; go_simp; exact (eql2 _ _ _ _).trans (by rw [show (x.f4.f0 == 0 && x.f4.f1 == 1) = true from HK.out])
            rotate_left
            · simp only [Act.put, sq, iw, jw]; rfl
            refine pU 6 116 (msk 14 127) HT_.out ?_
            refine pW 7 117 (msk 14 255) HT_.out ?_
            refine pW 8 118 (msk 14 511) HT_.out ?_
            refine pW 9 119 (msk 14 1023) HT_.out ?_
            refine pW 10 120 (msk 14 2047) HT_.out ?_
            refine pU 11 121 (msk 14 4095) HT_.out ?_
            refine wW (i := 12) (N := none) (msk 14 8191) rfl rfl (zG HT_.out (by kernel_rfl)) (by decide) (fun K hK => ?_)
            refine rQ (p := .tmp 10) (v := .tmp 111) (g := gr) (q := x.f4) rfl rfl (by rfl) rfl rfl rfl F.out.br rfl (fun W7 hx7 h7 => ?_)
            have F7 := aq (F.out.set h7 hx7)
            clear hx7 h7 F
            have F := F7
            clear F7
            refine hK.out _ _ ⟨(bq F.out.bx 4).trans rfl, (bq F.out.bx 5).trans rfl⟩ (fun hHeld => ?_)
            clear hK K
            refine pU 13 11 (msk 14 16383) HT_.out ?_
            refine wX (yG HT_.out (by kernel_rfl)) ?_
            go_wp2
            refine bodyPost_ret (zB rfl _ _ gr 30 _ (0, 0) _ rfl F.out.br Try.underlying30 rfl (by kernel_rfl)) rfl ⟨?_, F.out.B⟩
            rw [HE2.out, HK.out]
            rfl
          | false =>
            have HK := aq hk0
            refine xK (n := 14) (S := fun w' => w'.cell? ⟨gx, 4, none⟩ = some (.int .i64 x.f4.f0) ∧ w'.cell? ⟨gx, 5, none⟩ = some (.int .i64 x.f4.f1)) (ds := []) (msk 14 0) (by kernel_rfl) rfl rfl ⟨(bq F.out.bx 4).trans rfl, (bq F.out.bx 5).trans rfl⟩ (fun hHeld => ?_); refine yO rX.tab21 rX.bits21 (fun HT_ HW_ => ?_)
            generalize w6.drew = w7 at F hHeld ⊢
            refine pU 0 110 (msk 14 1) HT_.out ?_
            refine tU 1 111 (msk 14 3) HT_.out HW_.out hHeld ?_ ?_ ?_
            rotate_left
            · rintro w' ⟨s0, s1⟩; go_simp; with_reducible rfl
            refine pU 2 112 (msk 14 7) HT_.out ?_
            refine tU 3 113 (msk 14 15) HT_.out HW_.out hHeld ?_ ?_ ?_
            rotate_left
            · rintro w' ⟨s0, s1⟩; go_simp; with_reducible rfl
            refine wW (i := 4) (N := some 114) (msk 14 31) rfl rfl (zG HT_.out (by kernel_rfl)) (by decide) (fun K hK => ?_)
            refine uN Try.func106 (by kernel_rfl) rfl #[.int .i64 0] (by rfl) rfl rfl (by (try simp only [List.map_toArray, List.map_cons, List.map_nil]); first | done | rfl) ?_
            refine (vY _ _).mono ?_
            rintro e w8 ⟨rfl, hd⟩
            refine ⟨_, rfl, ?_⟩
            have F8 := aq (F.out.step hd)
            clear hd F
            have F := F8
            clear F8
            refine hK.out _ _ ⟨(bq F.out.bx 4).trans rfl, (bq F.out.bx 5).trans rfl⟩ (fun hHeld => ?_)
            clear hK K
            refine xV (a' := ?_) ?_ ?_
            rotate_left
            · show Act.put _ (some 114) _ = _
              simp only [Act.put, sq, iw, jw]
              rfl
            refine pu_ 5 115 (msk 14 63) HT_.out ?_ ?_ ?_ ?_ ?_
            rotate_left
            · intro w'; go_simp; exact (eql2 _ _ _ _).trans (by rw [show (x.f4.f0 == 0 && x.f4.f1 == 1) = false from HK.out])
            rotate_left
            · simp only [Act.put, sq, iw, jw]; rfl
            refine pU 6 116 (msk 14 127) HT_.out ?_
            refine pU 7 117 (msk 14 255) HT_.out ?_
            refine tU 8 118 (msk 14 511) HT_.out HW_.out hHeld ?_ ?_ ?_
            rotate_left
            · rintro w' ⟨s0, s1⟩; go_simp; with_reducible rfl
            refine wW (i := 9) (N := some 119) (msk 14 1023) rfl rfl (zG HT_.out (by kernel_rfl)) (by decide) (fun K hK => ?_)
            refine uN Try.func106 (by kernel_rfl) rfl #[.int .i64 1] (by rfl) rfl rfl (by (try simp only [List.map_toArray, List.map_cons, List.map_nil]); first | done | rfl) ?_
            refine (vY _ _).mono ?_
            rintro e w8 ⟨rfl, hd⟩
            refine ⟨_, rfl, ?_⟩
            have F8 := aq (F.out.step hd)
            clear hd F
            have F := F8
            clear F8
            refine hK.out _ _ ⟨(bq F.out.bx 4).trans rfl, (bq F.out.bx 5).trans rfl⟩ (fun hHeld => ?_)
            clear hK K
            refine xV (a' := ?_) ?_ ?_
            rotate_left
            · show Act.put _ (some 119) _ = _
              simp only [Act.put, sq, iw, jw]
              rfl
            refine pu_ 10 120 (msk 14 2047) HT_.out ?_ ?_ ?_ ?_ ?_
            rotate_left
            · intro w'; go_simp; exact eql2 _ _ _ _
            rotate_left
            · simp only [Act.put, sq, iw, jw]; rfl
            refine pU 11 121 (msk 14 4095) HT_.out ?_
            refine wW (i := 12) (N := none) (msk 14 8191) rfl rfl (zG HT_.out (by kernel_rfl)) (by decide) (fun K hK => ?_)
            refine rQ (p := .tmp 10) (v := .tmp 111) (g := gr) (q := x.f4) rfl rfl (by rfl) rfl rfl rfl F.out.br rfl (fun W7 hx7 h7 => ?_)
            have F7 := aq (F.out.set h7 hx7)
            clear hx7 h7 F
            have F := F7
            clear F7
            refine hK.out _ _ ⟨(bq F.out.bx 4).trans rfl, (bq F.out.bx 5).trans rfl⟩ (fun hHeld => ?_)
            clear hK K
            refine pU 13 11 (msk 14 16383) HT_.out ?_
            refine wX (yG HT_.out (by kernel_rfl)) ?_
            go_wp2
            refine bodyPost_ret (zB rfl _ _ gr 30 _ (0, 0) _ rfl F.out.br Try.underlying30 rfl (by kernel_rfl)) rfl ⟨?_, F.out.B⟩
            rw [HE2.out, HK.out]
            rfl
        · have HE2 := aq (show fr = ((⟨1, 1⟩, eqQ x.f4 0)) from HE.out.trans (vG hno))
          clear HE hno
          go_wp2
          clear HQ
          have F8 := aq (F.out.step (yX (Below.refl _ _)))
          clear F
          have F := F8
          clear F8
          refine xK (n := 7) (S := fun w' => w'.cell? ⟨gx, 4, none⟩ = some (.int .i64 x.f4.f0) ∧ w'.cell? ⟨gx, 5, none⟩ = some (.int .i64 x.f4.f1)) (ds := []) (msk 7 0) (by kernel_rfl) rfl rfl ⟨(bq F.out.bx 4).trans rfl, (bq F.out.bx 5).trans rfl⟩ (fun hHeld => ?_); refine yO rY.tab24 rY.bits24 (fun HT_ HW_ => ?_)
          generalize w6.drew = w7 at F hHeld ⊢
          refine pU 1 126 (msk 7 2) HT_.out ?_
          refine tU 2 127 (msk 7 6) HT_.out HW_.out hHeld ?_ ?_ ?_
          rotate_left
          · rintro w' ⟨s0, s1⟩; go_simp; with_reducible rfl
          refine wW (i := 0) (N := some 125) (msk 7 7) rfl rfl (zG HT_.out (by kernel_rfl)) (by decide) (fun K hK => ?_)
          refine uN Try.func106 (by kernel_rfl) rfl #[.int .i64 1] (by rfl) rfl rfl (by (try simp only [List.map_toArray, List.map_cons, List.map_nil]); first | done | rfl) ?_
          refine (vY _ _).mono ?_
          rintro e w8 ⟨rfl, hd⟩
          refine ⟨_, rfl, ?_⟩
          have F8 := aq (F.out.step hd)
          clear hd F
          have F := F8
          clear F8
          refine hK.out _ _ ⟨(bq F.out.bx 4).trans rfl, (bq F.out.bx 5).trans rfl⟩ (fun hHeld => ?_)
          clear hK K
          refine xV (a' := ?_) ?_ ?_
          rotate_left
          · show Act.put _ (some 125) _ = _
            simp only [Act.put, sq, iw, jw]
            rfl
          refine wW (i := 3) (N := some 128) (msk 7 15) rfl rfl (zG HT_.out (by kernel_rfl)) (by decide) (fun K hK => ?_)
          refine uN Try.func106 (by kernel_rfl) rfl #[.int .i64 0] (by rfl) rfl rfl (by (try simp only [List.map_toArray, List.map_cons, List.map_nil]); first | done | rfl) ?_
          refine (vY _ _).mono ?_
          rintro e w8 ⟨rfl, hd⟩
          refine ⟨_, rfl, ?_⟩
          have F8 := aq (F.out.step hd)
          clear hd F
          have F := F8
          clear F8
          refine hK.out _ _ ⟨(bq F.out.bx 4).trans rfl, (bq F.out.bx 5).trans rfl⟩ (fun hHeld => ?_)
          clear hK K
          refine xV (a' := ?_) ?_ ?_
          rotate_left
          · show Act.put _ (some 128) _ = _
            simp only [Act.put, sq, iw, jw]
            rfl
          refine pu_ 4 129 (msk 7 31) HT_.out ?_ ?_ ?_ ?_ ?_
          rotate_left
          · intro w'; go_simp; exact eql2 _ _ _ _
          rotate_left
          · simp only [Act.put, sq, iw, jw]; rfl
          refine wW (i := 5) (N := none) (msk 7 63) rfl rfl (zG HT_.out (by kernel_rfl)) (by decide) (fun K hK => ?_)
          refine rQ (p := .tmp 10) (v := .tmp 125) (g := gr) (q := ⟨1, 1⟩) rfl rfl (by rfl) rfl rfl rfl F.out.br rfl (fun W7 hx7 h7 => ?_)
          have F7 := aq (F.out.set h7 hx7)
          clear hx7 h7 F
          have F := F7
          clear F7
          refine hK.out _ _ ⟨(bq F.out.bx 4).trans rfl, (bq F.out.bx 5).trans rfl⟩ (fun hHeld => ?_)
          clear hK K
          refine pU 6 11 (msk 7 127) HT_.out ?_
          refine wX (yG HT_.out (by kernel_rfl)) ?_
          go_wp2
          refine bodyPost_ret (zB rfl _ _ gr 30 _ (0, 0) _ rfl F.out.br Try.underlying30 rfl (by kernel_rfl)) rfl ⟨?_, F.out.B⟩
          rw [HE2.out]
          rfl
        · have HE2 := aq (show fr = ((⟨0, 1⟩, eqQ x.f4 1)) from HE.out.trans (vG hno))
          clear HE hno
          go_wp2
          clear HQ
          have F8 := aq (F.out.step (yX (Below.refl _ _)))
          clear F
          have F := F8
          clear F8
          refine xK (n := 7) (S := fun w' => w'.cell? ⟨gx, 4, none⟩ = some (.int .i64 x.f4.f0) ∧ w'.cell? ⟨gx, 5, none⟩ = some (.int .i64 x.f4.f1)) (ds := []) (msk 7 0) (by kernel_rfl) rfl rfl ⟨(bq F.out.bx 4).trans rfl, (bq F.out.bx 5).trans rfl⟩ (fun hHeld => ?_); refine yO pY.tab26 pY.bits26 (fun HT_ HW_ => ?_)
          generalize w6.drew = w7 at F hHeld ⊢
          refine pU 1 133 (msk 7 2) HT_.out ?_
          refine tU 2 134 (msk 7 6) HT_.out HW_.out hHeld ?_ ?_ ?_
          rotate_left
          · rintro w' ⟨s0, s1⟩; go_simp; with_reducible rfl
          refine wW (i := 0) (N := some 132) (msk 7 7) rfl rfl (zG HT_.out (by kernel_rfl)) (by decide) (fun K hK => ?_)
          refine uN Try.func106 (by kernel_rfl) rfl #[.int .i64 0] (by rfl) rfl rfl (by (try simp only [List.map_toArray, List.map_cons, List.map_nil]); first | done | rfl) ?_
          refine (vY _ _).mono ?_
          rintro e w8 ⟨rfl, hd⟩
          refine ⟨_, rfl, ?_⟩
          have F8 := aq (F.out.step hd)
          clear hd F
          have F := F8
          clear F8
          refine hK.out _ _ ⟨(bq F.out.bx 4).trans rfl, (bq F.out.bx 5).trans rfl⟩ (fun hHeld => ?_)
          clear hK K
          refine xV (a' := ?_) ?_ ?_
          rotate_left
          · show Act.put _ (some 132) _ = _
            simp only [Act.put, sq, iw, jw]
            rfl
          refine wW (i := 3) (N := some 135) (msk 7 15) rfl rfl (zG HT_.out (by kernel_rfl)) (by decide) (fun K hK => ?_)
          refine uN Try.func106 (by kernel_rfl) rfl #[.int .i64 1] (by rfl) rfl rfl (by (try simp only [List.map_toArray, List.map_cons, List.map_nil]); first | done | rfl) ?_
          refine (vY _ _).mono ?_
          rintro e w8 ⟨rfl, hd⟩
          refine ⟨_, rfl, ?_⟩
          have F8 := aq (F.out.step hd)
          clear hd F
          have F := F8
          clear F8
          refine hK.out _ _ ⟨(bq F.out.bx 4).trans rfl, (bq F.out.bx 5).trans rfl⟩ (fun hHeld => ?_)
          clear hK K
          refine xV (a' := ?_) ?_ ?_
          rotate_left
          · show Act.put _ (some 135) _ = _
            simp only [Act.put, sq, iw, jw]
            rfl
          refine pu_ 4 136 (msk 7 31) HT_.out ?_ ?_ ?_ ?_ ?_
          rotate_left
          · intro w'; go_simp; exact eql2 _ _ _ _
          rotate_left
          · simp only [Act.put, sq, iw, jw]; rfl
          refine wW (i := 5) (N := none) (msk 7 63) rfl rfl (zG HT_.out (by kernel_rfl)) (by decide) (fun K hK => ?_)
          refine rQ (p := .tmp 10) (v := .tmp 132) (g := gr) (q := ⟨0, 1⟩) rfl rfl (by rfl) rfl rfl rfl F.out.br rfl (fun W7 hx7 h7 => ?_)
          have F7 := aq (F.out.set h7 hx7)
          clear hx7 h7 F
          have F := F7
          clear F7
          refine hK.out _ _ ⟨(bq F.out.bx 4).trans rfl, (bq F.out.bx 5).trans rfl⟩ (fun hHeld => ?_)
          clear hK K
          refine pU 6 11 (msk 7 127) HT_.out ?_
          refine wX (yG HT_.out (by kernel_rfl)) ?_
          go_wp2
          refine bodyPost_ret (zB rfl _ _ gr 30 _ (0, 0) _ rfl F.out.br Try.underlying30 rfl (by kernel_rfl)) rfl ⟨?_, F.out.B⟩
          rw [HE2.out]
          rfl
        · have HE2 := aq (show fr = ((⟨0, 1⟩, eqQ x.f4 0)) from HE.out.trans (vG hno))
          clear HE hno
          go_wp2
          clear HQ
          have F8 := aq (F.out.step (yX (Below.refl _ _)))
          clear F
          have F := F8
          clear F8
          refine xK (n := 7) (S := fun w' => w'.cell? ⟨gx, 4, none⟩ = some (.int .i64 x.f4.f0) ∧ w'.cell? ⟨gx, 5, none⟩ = some (.int .i64 x.f4.f1)) (ds := []) (msk 7 0) (by kernel_rfl) rfl rfl ⟨(bq F.out.bx 4).trans rfl, (bq F.out.bx 5).trans rfl⟩ (fun hHeld => ?_); refine yO pT.tab7 pT.bits7 (fun HT_ HW_ => ?_)
          generalize w6.drew = w7 at F hHeld ⊢
          refine pU 1 46 (msk 7 2) HT_.out ?_
          refine tU 2 47 (msk 7 6) HT_.out HW_.out hHeld ?_ ?_ ?_
          rotate_left
          · rintro w' ⟨s0, s1⟩; go_simp; with_reducible rfl
          refine wW (i := 0) (N := some 45) (msk 7 7) rfl rfl (zG HT_.out (by kernel_rfl)) (by decide) (fun K hK => ?_)
          refine uN Try.func106 (by kernel_rfl) rfl #[.int .i64 0] (by rfl) rfl rfl (by (try simp only [List.map_toArray, List.map_cons, List.map_nil]); first | done | rfl) ?_
          refine (vY _ _).mono ?_
          rintro e w8 ⟨rfl, hd⟩
          refine ⟨_, rfl, ?_⟩
          have F8 := aq (F.out.step hd)
          clear hd F
          have F := F8
          clear F8
          refine hK.out _ _ ⟨(bq F.out.bx 4).trans rfl, (bq F.out.bx 5).trans rfl⟩ (fun hHeld => ?_)
          clear hK K
          refine xV (a' := ?_) ?_ ?_
          rotate_left
          · show Act.put _ (some 45) _ = _
            simp only [Act.put, sq, iw, jw]
            rfl
          refine wW (i := 3) (N := some 48) (msk 7 15) rfl rfl (zG HT_.out (by kernel_rfl)) (by decide) (fun K hK => ?_)
          refine uN Try.func106 (by kernel_rfl) rfl #[.int .i64 0] (by rfl) rfl rfl (by (try simp only [List.map_toArray, List.map_cons, List.map_nil]); first | done | rfl) ?_
          refine (vY _ _).mono ?_
          rintro e w8 ⟨rfl, hd⟩
          refine ⟨_, rfl, ?_⟩
          have F8 := aq (F.out.step hd)
          clear hd F
          have F := F8
          clear F8
          refine hK.out _ _ ⟨(bq F.out.bx 4).trans rfl, (bq F.out.bx 5).trans rfl⟩ (fun hHeld => ?_)
          clear hK K
          refine xV (a' := ?_) ?_ ?_
          rotate_left
          · show Act.put _ (some 48) _ = _
            simp only [Act.put, sq, iw, jw]
            rfl
          refine pu_ 4 49 (msk 7 31) HT_.out ?_ ?_ ?_ ?_ ?_
          rotate_left
          · intro w'; go_simp; exact eql2 _ _ _ _
          rotate_left
          · simp only [Act.put, sq, iw, jw]; rfl
          refine wW (i := 5) (N := none) (msk 7 63) rfl rfl (zG HT_.out (by kernel_rfl)) (by decide) (fun K hK => ?_)
          refine rQ (p := .tmp 10) (v := .tmp 45) (g := gr) (q := ⟨0, 1⟩) rfl rfl (by rfl) rfl rfl rfl F.out.br rfl (fun W7 hx7 h7 => ?_)
          have F7 := aq (F.out.set h7 hx7)
          clear hx7 h7 F
          have F := F7
          clear F7
          refine hK.out _ _ ⟨(bq F.out.bx 4).trans rfl, (bq F.out.bx 5).trans rfl⟩ (fun hHeld => ?_)
          clear hK K
          refine pU 6 11 (msk 7 127) HT_.out ?_
          refine wX (yG HT_.out (by kernel_rfl)) ?_
          go_wp2
          refine bodyPost_ret (zB rfl _ _ gr 30 _ (0, 0) _ rfl F.out.br Try.underlying30 rfl (by kernel_rfl)) rfl ⟨?_, F.out.B⟩
          rw [HE2.out]
          rfl
        · have HE2 := aq (show fr = ((⟨1, 1⟩, eqQ x.f4 0)) from HE.out.trans (vG hno))
          clear HE hno
          go_wp2
          clear HQ
          have F8 := aq (F.out.step (yX (Below.refl _ _)))
          clear F
          have F := F8
          clear F8
          refine xK (n := 7) (S := fun w' => w'.cell? ⟨gx, 4, none⟩ = some (.int .i64 x.f4.f0) ∧ w'.cell? ⟨gx, 5, none⟩ = some (.int .i64 x.f4.f1)) (ds := []) (msk 7 0) (by kernel_rfl) rfl rfl ⟨(bq F.out.bx 4).trans rfl, (bq F.out.bx 5).trans rfl⟩ (fun hHeld => ?_); refine yO rY.tab24 rY.bits24 (fun HT_ HW_ => ?_)
          generalize w6.drew = w7 at F hHeld ⊢
          refine pU 1 126 (msk 7 2) HT_.out ?_
          refine tU 2 127 (msk 7 6) HT_.out HW_.out hHeld ?_ ?_ ?_
          rotate_left
          · rintro w' ⟨s0, s1⟩; go_simp; with_reducible rfl
          refine wW (i := 0) (N := some 125) (msk 7 7) rfl rfl (zG HT_.out (by kernel_rfl)) (by decide) (fun K hK => ?_)
          refine uN Try.func106 (by kernel_rfl) rfl #[.int .i64 1] (by rfl) rfl rfl (by (try simp only [List.map_toArray, List.map_cons, List.map_nil]); first | done | rfl) ?_
          refine (vY _ _).mono ?_
          rintro e w8 ⟨rfl, hd⟩
          refine ⟨_, rfl, ?_⟩
          have F8 := aq (F.out.step hd)
          clear hd F
          have F := F8
          clear F8
          refine hK.out _ _ ⟨(bq F.out.bx 4).trans rfl, (bq F.out.bx 5).trans rfl⟩ (fun hHeld => ?_)
          clear hK K
          refine xV (a' := ?_) ?_ ?_
          rotate_left
          · show Act.put _ (some 125) _ = _
            simp only [Act.put, sq, iw, jw]
            rfl
          refine wW (i := 3) (N := some 128) (msk 7 15) rfl rfl (zG HT_.out (by kernel_rfl)) (by decide) (fun K hK => ?_)
          refine uN Try.func106 (by kernel_rfl) rfl #[.int .i64 0] (by rfl) rfl rfl (by (try simp only [List.map_toArray, List.map_cons, List.map_nil]); first | done | rfl) ?_
          refine (vY _ _).mono ?_
          rintro e w8 ⟨rfl, hd⟩
          refine ⟨_, rfl, ?_⟩
          have F8 := aq (F.out.step hd)
          clear hd F
          have F := F8
          clear F8
          refine hK.out _ _ ⟨(bq F.out.bx 4).trans rfl, (bq F.out.bx 5).trans rfl⟩ (fun hHeld => ?_)
          clear hK K
          refine xV (a' := ?_) ?_ ?_
          rotate_left
          · show Act.put _ (some 128) _ = _
            simp only [Act.put, sq, iw, jw]
            rfl
          refine pu_ 4 129 (msk 7 31) HT_.out ?_ ?_ ?_ ?_ ?_
          rotate_left
          · intro w'; go_simp; exact eql2 _ _ _ _
          rotate_left
          · simp only [Act.put, sq, iw, jw]; rfl
          refine wW (i := 5) (N := none) (msk 7 63) rfl rfl (zG HT_.out (by kernel_rfl)) (by decide) (fun K hK => ?_)
          refine rQ (p := .tmp 10) (v := .tmp 125) (g := gr) (q := ⟨1, 1⟩) rfl rfl (by rfl) rfl rfl rfl F.out.br rfl (fun W7 hx7 h7 => ?_)
          have F7 := aq (F.out.set h7 hx7)
          clear hx7 h7 F
          have F := F7
          clear F7
          refine hK.out _ _ ⟨(bq F.out.bx 4).trans rfl, (bq F.out.bx 5).trans rfl⟩ (fun hHeld => ?_)
          clear hK K
          refine pU 6 11 (msk 7 127) HT_.out ?_
          refine wX (yG HT_.out (by kernel_rfl)) ?_
          go_wp2
          refine bodyPost_ret (zB rfl _ _ gr 30 _ (0, 0) _ rfl F.out.br Try.underlying30 rfl (by kernel_rfl)) rfl ⟨?_, F.out.B⟩
          rw [HE2.out]
          rfl
        · have HE2 := aq (show fr = ((⟨0, 1⟩, eqQ x.f4 0)) from HE.out.trans (vG hno))
          clear HE hno
          go_wp2
          clear HQ
          have F8 := aq (F.out.step (yX (Below.refl _ _)))
          clear F
          have F := F8
          clear F8
          refine xK (n := 7) (S := fun w' => w'.cell? ⟨gx, 4, none⟩ = some (.int .i64 x.f4.f0) ∧ w'.cell? ⟨gx, 5, none⟩ = some (.int .i64 x.f4.f1)) (ds := []) (msk 7 0) (by kernel_rfl) rfl rfl ⟨(bq F.out.bx 4).trans rfl, (bq F.out.bx 5).trans rfl⟩ (fun hHeld => ?_); refine yO pT.tab7 pT.bits7 (fun HT_ HW_ => ?_)
          generalize w6.drew = w7 at F hHeld ⊢
          refine pU 1 46 (msk 7 2) HT_.out ?_
          refine tU 2 47 (msk 7 6) HT_.out HW_.out hHeld ?_ ?_ ?_
          rotate_left
          · rintro w' ⟨s0, s1⟩; go_simp; with_reducible rfl
          refine wW (i := 0) (N := some 45) (msk 7 7) rfl rfl (zG HT_.out (by kernel_rfl)) (by decide) (fun K hK => ?_)
          refine uN Try.func106 (by kernel_rfl) rfl #[.int .i64 0] (by rfl) rfl rfl (by (try simp only [List.map_toArray, List.map_cons, List.map_nil]); first | done | rfl) ?_
          refine (vY _ _).mono ?_
          rintro e w8 ⟨rfl, hd⟩
          refine ⟨_, rfl, ?_⟩
          have F8 := aq (F.out.step hd)
          clear hd F
          have F := F8
          clear F8
          refine hK.out _ _ ⟨(bq F.out.bx 4).trans rfl, (bq F.out.bx 5).trans rfl⟩ (fun hHeld => ?_)
          clear hK K
          refine xV (a' := ?_) ?_ ?_
          rotate_left
          · show Act.put _ (some 45) _ = _
            simp only [Act.put, sq, iw, jw]
            rfl
          refine wW (i := 3) (N := some 48) (msk 7 15) rfl rfl (zG HT_.out (by kernel_rfl)) (by decide) (fun K hK => ?_)
          refine uN Try.func106 (by kernel_rfl) rfl #[.int .i64 0] (by rfl) rfl rfl (by (try simp only [List.map_toArray, List.map_cons, List.map_nil]); first | done | rfl) ?_
          refine (vY _ _).mono ?_
          rintro e w8 ⟨rfl, hd⟩
          refine ⟨_, rfl, ?_⟩
          have F8 := aq (F.out.step hd)
          clear hd F
          have F := F8
          clear F8
          refine hK.out _ _ ⟨(bq F.out.bx 4).trans rfl, (bq F.out.bx 5).trans rfl⟩ (fun hHeld => ?_)
          clear hK K
          refine xV (a' := ?_) ?_ ?_
          rotate_left
          · show Act.put _ (some 48) _ = _
            simp only [Act.put, sq, iw, jw]
            rfl
          refine pu_ 4 49 (msk 7 31) HT_.out ?_ ?_ ?_ ?_ ?_
          rotate_left
          · intro w'; go_simp; exact eql2 _ _ _ _
          rotate_left
          · simp only [Act.put, sq, iw, jw]; rfl
          refine wW (i := 5) (N := none) (msk 7 63) rfl rfl (zG HT_.out (by kernel_rfl)) (by decide) (fun K hK => ?_)
          refine rQ (p := .tmp 10) (v := .tmp 45) (g := gr) (q := ⟨0, 1⟩) rfl rfl (by rfl) rfl rfl rfl F.out.br rfl (fun W7 hx7 h7 => ?_)
          have F7 := aq (F.out.set h7 hx7)
          clear hx7 h7 F
          have F := F7
          clear F7
          refine hK.out _ _ ⟨(bq F.out.bx 4).trans rfl, (bq F.out.bx 5).trans rfl⟩ (fun hHeld => ?_)
          clear hK K
          refine pU 6 11 (msk 7 127) HT_.out ?_
          refine wX (yG HT_.out (by kernel_rfl)) ?_
          go_wp2
          refine bodyPost_ret (zB rfl _ _ gr 30 _ (0, 0) _ rfl F.out.br Try.underlying30 rfl (by kernel_rfl)) rfl ⟨?_, F.out.B⟩
          rw [HE2.out]
          rfl
structure GW (base : Nat) (ok : Nat → Prop) (gG gM : Nat) (g : PG) (W0 V : World) : Prop where
  rep : rH base ok gG gM g V
  vI : yB ok W0 V
  fresh : ∀ k, V.heap.size ≤ k → ok k
  bz : base ≤ V.heap.size
section
variable {base : Nat} {ok : Nat → Prop} {gG gM : Nat} {g : PG} {W0 V W V' : World}
theorem GW.step (h : GW base ok gG gM g W0 V) (hd : Below V.heap.size V V') : GW base ok gG gM g W0 V' := ⟨h.rep.step hd, h.vI.step hd, fun k hk => h.fresh k (Nat.le_trans hd.size hk), Nat.le_trans h.bz hd.size⟩
theorem GW.next {g' : PG} (h : GW base ok gG gM g W0 V) (hr : rH base ok gG gM g' V') (hk : yB ok V V') : GW base ok gG gM g' W0 V' := ⟨hr, h.vI.trans hk, fun k h' => h.fresh k (Nat.le_trans hk.size h'), Nat.le_trans h.bz hk.size⟩
theorem put_w (h : GW base ok gG gM g W0 W) (x : S37) (ha : 0 < zI x.f0 → 0 ≤ x.f1 ∧ x.f1 < (g.L.length : Int)) (hb : 1 < zI x.f0 → 0 ≤ x.f2 ∧ x.f2 < (g.L.length : Int)) :
    Calls Try.prog 46 #[.pointer (some ⟨gG, 0, none⟩), .agg (zC x)] W fun e W' => e = .returned (.int .i64 (wJ g x).2) ∧ GW base ok gG gM (wJ g x).1 W0 W' :=
  (put46 h.rep h.fresh h.bz x ha hb).mono fun _ _ ⟨he, hr, hk⟩ => ⟨he, h.next hr hk⟩
theorem oT (h : GW base ok gG gM g W0 W) (q : S30) :
    Calls Try.prog 45 #[.pointer (some ⟨gG, 0, none⟩), aggQ q] W fun e W' => e = .returned (.int .i64 (wJ g (vP q)).2) ∧ GW base ok gG gM (wJ g (vP q)).1 W0 W' :=
  (number45 h.rep h.fresh h.bz q).mono fun _ _ ⟨he, hr, hk⟩ => ⟨he, h.next hr hk⟩
theorem is_w (h : GW base ok gG gM g W0 W) (i n : Int) (h0 : 0 ≤ i) (h1 : i < (g.L.length : Int)) :
    Calls Try.prog 108 #[.pointer (some ⟨gG, 0, none⟩), .int .i64 i, .int .i64 n] W fun e W' => e = .returned (.bool (isN g i n)) ∧ GW base ok gG gM g W0 W' :=
  (oZ h.rep i n h0 h1).mono fun _ _ ⟨he, hd⟩ => ⟨he, h.step hd⟩
theorem whole_w (h : GW base ok gG gM g W0 W) (n : Int) : Calls Try.prog 106 #[.int .i64 n] W fun e W' => e = .returned (aggQ ⟨n, 1⟩) ∧ GW base ok gG gM g W0 W' :=
  (vY n W).mono fun _ _ ⟨he, hd⟩ => ⟨he, h.step hd⟩
theorem args_w (h : GW base ok gG gM g W0 W) (k : Int) : Calls Try.prog 44 #[.int .i64 k] W fun e W' => e = .returned (.int .i64 (zI k)) ∧ GW base ok gG gM g W0 W' :=
  (zD.calls 9 k _ W (tF k)).mono fun _ _ ⟨he, hd⟩ => ⟨he, h.step (wQ hd)⟩
theorem nodeI_q {L : List S37} (hI : ∀ x ∈ L, wM x) {c : Int} (h0 : 0 ≤ c) (h1 : c < (L.length : Int)) : I64q (rT L c).f4 := by
  obtain ⟨m, rfl⟩ := Int.eq_ofNat_of_zero_le h0
  rw [vD (by omega)]
  have := hI _ (List.getElem_mem (l := L) (n := m) (by omega))
  exact ⟨this.1, this.2.1⟩
theorem folded_w (h : GW base ok gG gM g W0 W) (hI : ∀ x ∈ g.L, wM x) (kind a b n : Int) (hk0 : 3 ≤ kind) (hk1 : kind ≤ 14) (a0 : 0 ≤ a) (a1 : a < (g.L.length : Int)) (b0 : 0 ≤ b) (b1 : b < (g.L.length : Int)) :
    Calls Try.prog 71 #[.pointer (some ⟨gG, 0, none⟩), .int .i64 kind, .int .i64 a, .int .i64 b, .int .i64 n] W fun e W' => e = .returned (.tuple #[aggQ (tM yN g kind a b n).1, .bool (tM yN g kind a b n).2]) ∧ GW base ok gG gM g W0 W' :=
  (folded71 h.rep kind a b n hk0 hk1 a0 a1 b0 b1 (nodeI_q hI a0 a1) (nodeI_q hI b0 b1)).mono fun _ _ ⟨he, hd⟩ => ⟨he, h.step hd⟩
theorem GW.cell (h : GW base ok gG gM g W0 V) {i : Int} (h0 : 0 ≤ i) (h1 : i < (g.L.length : Int)) : ∃ gN cn, V.cell? ⟨gG, 0, none⟩ = some (.slice (some ⟨gN, 0, none⟩) g.L.length cn) ∧ ∀ (j : Nat) v, (wY (rT g.L i))[j]? = some v → V.cell? ⟨gN, i.toNat * 22 + j, none⟩ = some v := by
  obtain ⟨An, cn, At, ct, hx1, hx2, _⟩ := h.rep.blk
  obtain ⟨gN, rfl, hc⟩ := sS hx2 i h0 h1
  exact ⟨gN, cn, (bq hx1 0).trans rfl, hc⟩
theorem GW.tot (h : GW base ok gG gM g W0 V) {i : Int} (h0 : 0 ≤ i) (h1 : i < (g.L.length : Int)) : ∃ gT ct, V.cell? ⟨gG, 1, none⟩ = some (.slice (some ⟨gT, 0, none⟩) g.T.length ct) ∧ V.cell? ⟨gT, i.toNat, none⟩ = some (.bool (zJ false g.T i)) := by
  obtain ⟨An, cn, At, ct, hx1, _, hx3⟩ := h.rep.blk
  obtain ⟨gT, rfl, hc⟩ := oV hx3 i h0 (by rw [h.rep.len]; exact h1)
  exact ⟨gT, ct, (bq hx1 1).trans rfl, hc⟩
theorem GW.longc (h : GW base ok gG gM g W0 V) : V.cell? ⟨gG, 3, none⟩ = some (.bool g.xD) := by
  obtain ⟨An, cn, At, ct, hx1, _, _⟩ := h.rep.blk
  exact (bq hx1 3).trans rfl
end
section
variable {base : Nat} {ok : Nat → Prop} {gG gM : Nat} {g : PG} {W0 W : World}
theorem simple7 (h : GW base ok gG gM g W0 W) (a b n : Int) (a0 : 0 ≤ a) (a1 : a < (g.L.length : Int)) :
    Calls Try.prog 72 #[.pointer (some ⟨gG, 0, none⟩), .int .i64 7, .int .i64 a, .int .i64 b, .int .i64 n] W fun e W' => e = .returned (.int .i64 (if (rT g.L a).f0 = 7 then (rT g.L a).f1 else -1)) ∧ GW base ok gG gM g W0 W' := by
  have F := aq h
  have hu71 := Try.underlying71
  have hu22 := Try.underlying22
  obtain ⟨gN, cn, z0, hc⟩ := h.cell a0 a1
  have zk : W.cell? ⟨gN, a.toNat * 22, none⟩ = some (.int .i64 (rT g.L a).f0) := hc 0 _ rfl
  have za := hc 1 _ rfl
  have hlen := h.rep.le
  clear hc h
  by_cases hk : (rT g.L a).f0 = 7
  · rw [if_pos hk]
    rw [hk] at zk
    go_enter Try.func72, Try.ntmps72
    go_wp2
    go_ret
    exact ⟨rfl, F.out⟩
  · rw [if_neg hk]
    have hkb : ((rT g.L a).f0 == 7) = false := beq_eq_false_iff_ne.mpr hk
    go_enter Try.func72, Try.ntmps72
    go_wp2
    go_ret
    exact ⟨rfl, F.out⟩
theorem wV {a : Act} {W : World} {ops : Array Oper} {Q : Exit → Act → World → Prop} {rest : List Oper} {ty : TypeId} {pos : String} {after : Array Edge} {p v : Tmp} {g : Nat} {cur : Array Value} {x : S37} (hp : a.eval (.tmp p) = .pointer (some ⟨g, 0, none⟩)) (hv : a.eval (.tmp v) = .agg (zC x)) (hx : W.heap[g]? = some (.cells cur 37 (0, 0))) (hs : cur.size = 22)
    (h : ∀ W', W'.heap[g]? = some (.cells (zC x) 37 (0, 0)) → rJ g W W' → wpList Try.prog ops Q rest a W') : wpList Try.prog ops Q (⟨none, .store 37 (.tmp p) (.tmp v), ty, pos, after, none⟩ :: rest) a W :=
  uR (t0 := 37) (c' := zC x) (cur' := zC x) hp hv hx (by kernel_rfl) (by rw [xX]; omega) (by kernel_rfl) (by rw [List.drop_eq_nil_of_le (by rw [xX, Array.length_toList]; omega)]; simp) h
theorem uT {a : Act} {W : World} {ops : Array Oper} {Q : Exit → Act → World → Prop} {rest : List Oper} {d : Option Tmp} {ty : TypeId} {pos : String} {after : Array Edge} {p : Operand} {g : Nat} {x : S37} (hp : a.eval p = .pointer (some ⟨g, 0, none⟩)) (hx : W.heap[g]? = some (.cells (zC x) 37 (0, 0)))
    (h : wpList Try.prog ops Q rest (a.put d (.agg (zC x))) W) : wpList Try.prog ops Q (⟨d, .load 37 p, ty, pos, after, none⟩ :: rest) a W :=
  xC (t := 37) (ad := ⟨g, 0, none⟩) (cs := wY x) hp (by kernel_rfl) (by kernel_rfl) (vL hx 0 (wY x) rfl) h
abbrev nodeH (kind a n : Int) : S37 := ⟨kind, a, 0, n, z30, z32, z35⟩
theorem nodeO_one {kind a b n : Int} (h : zI kind ≠ 2) : wF kind a b n = nodeH kind a n := by unfold wF; rw [if_neg h]
theorem nodeO_two {kind a b n : Int} (h : zI kind = 2) : wF kind a b n = ⟨kind, a, b, n, z30, z32, z35⟩ := by unfold wF; rw [if_pos h]
end
section
variable {base : Nat} {ok : Nat → Prop} {gG gM : Nat} {g : PG} {W0 W : World}
def AnsG (base : Nat) (ok : Nat → Prop) (gG gM : Nat) (W0 : World) (r : PG × Int) (e : Ending) (W' : World) : Prop := e = .returned (.int .i64 r.2) ∧ GW base ok gG gM r.1 W0 W'
theorem make_of (h : GW base ok gG gM g W0 W) (hI : ∀ x ∈ g.L, wM x) (kind a b n : Int) (hk0 : 3 ≤ kind) (hk1 : kind ≤ 14) (a0 : 0 ≤ a) (a1 : a < (g.L.length : Int)) (b0 : 0 ≤ b) (b1 : b < (g.L.length : Int)) (rS rA : PG × Int)
    (hS : ∀ W, GW base ok gG gM g W0 W → Calls Try.prog 72 #[.pointer (some ⟨gG, 0, none⟩), .int .i64 kind, .int .i64 a, .int .i64 b, .int .i64 n] W fun e W' => e = .returned (.int .i64 rS.2) ∧ GW base ok gG gM rS.1 W0 W')
    (hlen : g.L.length ≤ rS.1.L.length)
    (hA : rA = if g.xD = true then (g, 0) else if (tM yN g kind a b n).2 = true then wJ g (vP (tM yN g kind a b n).1) else if 0 ≤ rS.2 then rS else wJ rS.1 (wF kind a b n)) :
    Calls Try.prog 47 #[.pointer (some ⟨gG, 0, none⟩), .int .i64 kind, .int .i64 a, .int .i64 b, .int .i64 n] W (AnsG base ok gG gM W0 rA) := by
  have F := aq h
  have HS := aq hS
  have HI := aq hI
  have HL := aq hlen
  have hu71 := Try.underlying71
  have z3 := h.longc
  cases hlong : g.xD with
  | true =>
    rw [if_pos hlong] at hA
    rw [hlong] at z3
    have HA := aq hA
    clear hA hS h hI hlen hlong
    go_enter Try.func47, Try.ntmps47
    go_wp2
    go_ret
    exact ⟨by rw [HA.out] <;> rfl, by rw [HA.out]; exact F.out⟩
  | false =>
    rw [if_neg (by rw [hlong]; decide)] at hA
    rw [hlong] at z3
    have HF := aq (fun (W : World) (h : GW base ok gG gM g W0 W) => folded_w h hI kind a b n hk0 hk1 a0 a1 b0 b1)
    clear hS h hI hlen hlong HI
    generalize tM yN g kind a b n = fr at HF hA
    obtain ⟨q, fo⟩ := fr
    go_enter Try.func47, Try.ntmps47
    go_upto_region 4 with (first | (go_at_call 71; refine (HF.out _ F.out).mono ?_; rintro e w5 ⟨rfl, hF⟩; clear F z3; have F := aq hF; clear hF) | ((with_reducible refine gD (N := 11) rfl ?_); refine bE ?hg (N := 11) ?hd (cs := numA ⟨0, 0⟩) (t := 30) ?hr ?_; (case hd => rfl); (case hg => rfl); (case hr => first | (go_simp; done) | (go_simp; rfl)); intro gq hgq w6 hbox hb; have F6 := aq (F.out.step hb); have HQ := aq hbox; have GQ := aq hgq; clear hbox hgq) | ((with_reducible refine xN 11 ?_); refine wT (g := gq) (q := q) rfl rfl HQ.out rfl ?_; intro w7 hx7 h7; have F7 := aq (F.out.step ((Below.trans hb (h7.below (by rw [GQ.out]; exact Nat.le_refl _))))); clear hb F F6 HQ h7; have F := F7; clear F7; have zq0 := (bq hx7 0).trans (show _ = some (.int .i64 q.f0) from rfl); have zq1 := (bq hx7 1).trans (show _ = some (.int .i64 q.f1) from rfl); clear hx7 GQ))
    cases fo with
    | true =>
      rw [if_pos rfl] at hA
      have HA := aq hA
      clear hA
      go_wp2_with (first | (go_at_call 45; refine (oT F.out q).mono ?_; rintro e w8 ⟨rfl, hF⟩; clear F; have F := aq hF; clear hF))
      go_ret
      exact ⟨by rw [HA.out] <;> rfl, by rw [HA.out]; exact F.out⟩
    | false =>
      rw [if_neg (by decide)] at hA
      obtain ⟨gS, iS⟩ := rS
      by_cases hi : 0 ≤ iS
      · rw [if_pos (show 0 ≤ (gS, iS).2 from hi)] at hA
        have HA := aq hA
        clear hA zq0 zq1
        go_wp2_with (first | (go_at_call 72; refine (HS.out _ F.out).mono ?_; rintro e w8 ⟨rfl, hF⟩; clear F; have F := aq hF; clear hF))
        go_ret
        exact ⟨by rw [HA.out] <;> rfl, by rw [HA.out]; exact F.out⟩
      · rw [if_neg (show ¬ 0 ≤ (gS, iS).2 from hi)] at hA
        have HA := aq hA
        have HLS := aq (show g.L.length ≤ gS.L.length from HL.out)
        clear hA zq0 zq1 HL
        go_upto_region 10 with (first | (go_at_call 72; refine (HS.out _ F.out).mono ?_; rintro e w8 ⟨rfl, hF⟩; clear F; have F := aq hF; clear hF) | ((with_reducible refine gD (N := 14) rfl ?_); refine bE ?hg (N := 14) ?hd (cs := zC z37) (t := 37) ?hr ?_; (case hd => rfl); (case hg => rfl); (case hr => first | (go_simp; done) | (go_simp; rfl)); intro gx hgx w9 hbox hb; have HX := aq hbox; have HB := aq hb; have GX := aq (show w8.heap.size ≤ gx by rw [hgx]; exact Nat.le_refl _); clear hbox hgx hb) | ((with_reducible refine xN 14 ?_); refine wV (g := gx) (x := nodeH kind a n) rfl rfl HX.out (xX _) ?_; intro w10 hx10 h10; have HB2 := aq (HB.out.trans (h10.below GX.out)); clear HB HX h10; have HB := HB2; have HX := aq hx10; clear HB2 hx10))
        have HP := aq (fun W' (hb : Below w8.heap.size w8 W') => put_w (F.out.step hb) (wF kind a b n) (fun _ => ⟨a0, by have := HLS.out; show a < _; omega⟩) (fun h1 => by
          have := HLS.out
          have h2 : zI kind = 2 := by have : 1 < zI kind := h1; rcases sD kind with h | h | h | h <;> omega
          rw [nodeO_two h2]
          exact ⟨b0, by show b < _; omega⟩))
        have hu37 := Try.underlying37
        by_cases h2 : zI kind = 2
        · have HN := aq (nodeO_two (a := a) (b := b) (n := n) h2)
          have HK := aq ((tF kind).trans (by rw [h2]))
          clear h2 hu71
          go_wp2_with (first | (go_at_call 44; refine (zD.calls 9 kind 2 _ HK.out).mono ?_; rintro e w11 ⟨rfl, hd⟩; have HB2 := aq (bt_ HB.out (wQ hd)); have HX2 := aq (bb_ HX.out (wQ hd)); clear hd HB HX; have HB := HB2; have HX := HX2; clear HB2 HX2; have z := (bq HX.out 2).trans (show _ = some (.int .i64 0) from rfl); have f := bf_ HX.out 2) | ((with_reducible refine yY 37 ?_); refine uT (g := gx) (x := wF kind a b n) rfl (by rw [HN.out]; exact yP HX.out 2 (.int .i64 b)) ?_) | (go_at_call 46; refine (HP.out _ (bs_ HB.out GX.out)).mono ?_; rintro e w12 ⟨rfl, hF⟩; clear F z f; have F := aq hF; clear hF))
          go_ret
          exact ⟨by rw [HA.out] <;> rfl, by rw [HA.out]; exact F.out⟩
        · have HN := aq (nodeO_one (a := a) (b := b) (n := n) h2)
          have hk2 : (zI kind == 2) = false := beq_eq_false_iff_ne.mpr h2
          have HK := aq (tF kind)
          generalize zI kind = kN at hk2 HK
          clear h2 hu71
          go_wp2_with (first | (go_at_call 44; refine (zD.calls 9 kind kN _ HK.out).mono ?_; rintro e w11 ⟨rfl, hd⟩; have HB2 := aq (bt_ HB.out (wQ hd)); have HX2 := aq (bb_ HX.out (wQ hd)); clear hd HB HX; have HB := HB2; have HX := HX2; clear HB2 HX2) | ((with_reducible refine yY 37 ?_); refine uT (g := gx) (x := wF kind a b n) rfl (by rw [HN.out]; exact HX.out) ?_) | (go_at_call 46; refine (HP.out _ HB.out).mono ?_; rintro e w12 ⟨rfl, hF⟩; clear F; have F := aq hF; clear hF))
          go_ret
          exact ⟨by rw [HA.out] <;> rfl, by rw [HA.out]; exact F.out⟩
theorem neg7_fold {g : PG} {a : Int} : neg7 yN g a = (if g.xD = true then (g, 0) else if (tM yN g 7 a a 0).2 = true then wJ g (vP (tM yN g 7 a a 0).1) else if 0 ≤ (g, if (rT g.L a).f0 = 7 then (rT g.L a).f1 else -1).2 then (g, if (rT g.L a).f0 = 7 then (rT g.L a).f1 else -1) else wJ (g, if (rT g.L a).f0 = 7 then (rT g.L a).f1 else -1).1 (wF 7 a a 0)) := by
  unfold neg7
  by_cases h : (rT g.L a).f0 = 7
  · simp [h]
  · simp [h]
theorem make7 (h : GW base ok gG gM g W0 W) (hI : ∀ x ∈ g.L, wM x) (a : Int) (a0 : 0 ≤ a) (a1 : a < (g.L.length : Int)) :
    Calls Try.prog 47 #[.pointer (some ⟨gG, 0, none⟩), .int .i64 7, .int .i64 a, .int .i64 a, .int .i64 0] W (AnsG base ok gG gM W0 (neg7 yN g a)) :=
  make_of h hI 7 a a 0 (by omega) (by omega) a0 a1 a0 a1 (g, if (rT g.L a).f0 = 7 then (rT g.L a).f1 else -1) _ (fun W h => simple7 h a a 0 a0 a1) (Nat.le_refl _) neg7_fold
theorem one7 (h : GW base ok gG gM g W0 W) (hI : ∀ x ∈ g.L, wM x) (a : Int) (a0 : 0 ≤ a) (a1 : a < (g.L.length : Int)) :
    Calls Try.prog 109 #[.pointer (some ⟨gG, 0, none⟩), .int .i64 7, .int .i64 a] W (AnsG base ok gG gM W0 (neg7 yN g a)) := by
  have HM := aq (make7 h hI a a0 a1)
  clear h hI
  generalize neg7 yN g a = r at HM ⊢
  go_enter Try.func109, Try.ntmps109
  go_wp2_with (first | (go_at_call 47; refine HM.out.mono ?_; rintro e w8 ⟨rfl, hF⟩; have F := aq hF; clear hF))
  go_ret
  exact ⟨rfl, F.out⟩
end
section
variable {base : Nat} {ok : Nat → Prop} {gG gM : Nat} {g : PG} {W0 W : World}
theorem GW.tot2 {a b : Int} {va vb : Bool} (h : GW base ok gG gM g W0 W) (a0 : 0 ≤ a) (a1 : a < (g.L.length : Int)) (b0 : 0 ≤ b) (b1 : b < (g.L.length : Int)) (ha : zJ false g.T a = va) (hb : zJ false g.T b = vb) : ∃ gT ct, W.cell? ⟨gG, 1, none⟩ = some (.slice (some ⟨gT, 0, none⟩) g.L.length ct) ∧ W.cell? ⟨gT, a.toNat, none⟩ = some (.bool va) ∧ W.cell? ⟨gT, b.toNat, none⟩ = some (.bool vb) := by
  obtain ⟨An, cn, At, ct, hx1, _, hx3⟩ := h.rep.blk
  obtain ⟨gT, rfl, hc⟩ := oV hx3 a a0 (by rw [h.rep.len]; exact a1)
  obtain ⟨gT', he, hc'⟩ := oV hx3 b b0 (by rw [h.rep.len]; exact b1)
  obtain rfl : gT = gT' := by cases he; rfl
  refine ⟨gT, ct, ?_, by rw [hc, ha], by rw [hc', hb]⟩
  rw [← h.rep.len]
  exact (bq hx1 1).trans rfl
theorem product110 (h : GW base ok gG gM g W0 W) (hI : ∀ x ∈ g.L, wM x) (a b : Int) (a0 : 0 ≤ a) (a1 : a < (g.L.length : Int)) (b0 : 0 ≤ b) (b1 : b < (g.L.length : Int)) :
    Calls Try.prog 110 #[.pointer (some ⟨gG, 0, none⟩), .int .i64 a, .int .i64 b] W (AnsG base ok gG gM W0 (wP yN g a b)) := by
  have F := aq h
  have HI := aq hI
  have HT := aq (fun (va vb : Bool) (W : World) (h : GW base ok gG gM g W0 W) (ha : zJ false g.T a = va) (hb : zJ false g.T b = vb) => h.tot2 a0 a1 b0 b1 ha hb)
  have hlen := h.rep.le
  have hu71 := Try.underlying71
  have hu55 := Try.underlying55
  clear h hI
  cases h1 : isN g a 1 with
  | true =>
    have HE := aq (show wP yN g a b = (g, b) by unfold wP; rw [h1]; rfl)
    go_enter Try.func110, Try.ntmps110
    go_wp2_with (first | (go_at_call 108; refine (is_w F.out _ _ (by assumption) (by assumption)).mono ?_; rintro e w8 ⟨rfl, hF⟩; clear F; have F := aq hF; clear hF))
    go_ret
    exact ⟨by rw [HE.out] <;> rfl, by rw [HE.out]; exact F.out⟩
  | false =>
  cases h2 : isN g b 1 with
  | true =>
    have HE := aq (show wP yN g a b = (g, a) by unfold wP; rw [h1, h2]; rfl)
    go_enter Try.func110, Try.ntmps110
    go_wp2_with (first | (go_at_call 108; refine (is_w F.out _ _ (by assumption) (by assumption)).mono ?_; rintro e w8 ⟨rfl, hF⟩; clear F; have F := aq hF; clear hF))
    go_ret
    exact ⟨by rw [HE.out] <;> rfl, by rw [HE.out]; exact F.out⟩
  | false =>
  obtain ⟨z1, hz1⟩ : ∃ z1, z1 = (isN g a 0 && zJ false g.T b) := ⟨_, rfl⟩
  obtain ⟨zv, hzv⟩ : ∃ zv, zv = (z1 || (isN g b 0 && zJ false g.T a)) := ⟨_, rfl⟩
  have HZ := aq (show zv = ((isN g a 0 && zJ false g.T b) || (isN g b 0 && zJ false g.T a)) by rw [hzv, hz1])
  have HZ1 := aq hz1
  have HZV := aq hzv
  have H1 := aq h1
  have H2 := aq h2
  clear hzv hz1
  go_enter Try.func110, Try.ntmps110
  go_upto_region 5 with (first | (go_at_call 108; refine (is_w F.out _ _ (by assumption) (by assumption)).mono ?_; rintro e w8 ⟨rfl, hF⟩; clear F; have F := aq hF; clear hF))
  clear h1 h2
  go_cut [17] (fun s17 wx => s17 = .bool z1 ∧ GW base ok gG gM g W0 wx)
  case first =>
    cases h3 : isN g a 0 with
    | true =>
      cases t1 : zJ false g.T b with
      | true =>
        have T1 := aq t1
        have HZ2 := aq (show z1 = true by rw [HZ1.out, h3, t1]; rfl)
        clear t1 HZ HZ1 HZV
        go_wp2_with (first | (go_at_call 108; refine (is_w F.out _ _ (by assumption) (by assumption)).mono ?_; rintro e w8 ⟨rfl, hF⟩; clear F; have F := aq hF; clear hF; obtain ⟨gT, ct, y0, y1, y2⟩ := HT.out _ true _ F.out rfl T1.out; generalize zJ false g.T a = va at y1))
        go_meet
        exact ⟨by rw [HZ2.out] <;> rfl, F.out⟩
      | false =>
        have T1 := aq t1
        have HZ2 := aq (show z1 = false by rw [HZ1.out, h3, t1]; rfl)
        clear t1 HZ HZ1 HZV
        go_wp2_with (first | (go_at_call 108; refine (is_w F.out _ _ (by assumption) (by assumption)).mono ?_; rintro e w8 ⟨rfl, hF⟩; clear F; have F := aq hF; clear hF; obtain ⟨gT, ct, y0, y1, y2⟩ := HT.out _ false _ F.out rfl T1.out; generalize zJ false g.T a = va at y1))
        go_meet
        exact ⟨by rw [HZ2.out] <;> rfl, F.out⟩
    | false =>
      have HZ2 := aq (show z1 = false by rw [HZ1.out, h3]; rfl)
      clear HZ HZ1 HZV
      go_wp2_with (first | (go_at_call 108; refine (is_w F.out _ _ (by assumption) (by assumption)).mono ?_; rintro e w8 ⟨rfl, hF⟩; clear F; have F := aq hF; clear hF))
      go_meet
      exact ⟨by rw [HZ2.out] <;> rfl, F.out⟩
  case rest =>
  obtain ⟨rfl, hF⟩ := hcut
  clear F
  have F := aq hF
  clear hF
  go_upto_if 17 with fail
  go_cut [17] (fun s17 wx => s17 = .bool zv ∧ GW base ok gG gM g W0 wx)
  case first =>
    cases z1 with
    | true =>
      have HZ2 := aq (show zv = true by rw [HZV.out]; rfl)
      clear HZ HZ1 HZV
      go_wp2
      go_meet
      exact ⟨by rw [HZ2.out] <;> rfl, F.out⟩
    | false =>
    cases h4 : isN g b 0 with
    | true =>
      cases t2 : zJ false g.T a with
      | true =>
        have T2 := aq t2
        have HZ2 := aq (show zv = true by rw [HZV.out, h4, t2]; rfl)
        clear t2 HZ HZ1 HZV
        go_wp2_with (first | (go_at_call 108; refine (is_w F.out _ _ (by assumption) (by assumption)).mono ?_; rintro e w8 ⟨rfl, hF⟩; clear F; have F := aq hF; clear hF; obtain ⟨gT, ct, y0, y1, y2⟩ := HT.out true _ _ F.out T2.out rfl; generalize zJ false g.T b = vb at y2))
        go_meet
        exact ⟨by rw [HZ2.out] <;> rfl, F.out⟩
      | false =>
        have T2 := aq t2
        have HZ2 := aq (show zv = false by rw [HZV.out, h4, t2]; rfl)
        clear t2 HZ HZ1 HZV
        go_wp2_with (first | (go_at_call 108; refine (is_w F.out _ _ (by assumption) (by assumption)).mono ?_; rintro e w8 ⟨rfl, hF⟩; clear F; have F := aq hF; clear hF; obtain ⟨gT, ct, y0, y1, y2⟩ := HT.out false _ _ F.out T2.out rfl; generalize zJ false g.T b = vb at y2))
        go_meet
        exact ⟨by rw [HZ2.out] <;> rfl, F.out⟩
    | false =>
      have HZ2 := aq (show zv = false by rw [HZV.out, h4]; rfl)
      clear HZ HZ1 HZV
      go_wp2_with (first | (go_at_call 108; refine (is_w F.out _ _ (by assumption) (by assumption)).mono ?_; rintro e w8 ⟨rfl, hF⟩; clear F; have F := aq hF; clear hF))
      go_meet
      exact ⟨by rw [HZ2.out] <;> rfl, F.out⟩
  case rest =>
    obtain ⟨rfl, hF⟩ := hcut
    clear F HZ1 HZV
    have F := aq hF
    clear hF
    cases zv with
    | true =>
      have HE := aq (show wP yN g a b = wJ g (vP ⟨0, 1⟩) by unfold wP; rw [H1.out, H2.out, ← HZ.out]; rfl)
      clear HZ H1 H2
      go_wp2_with (first | (go_at_call 106; refine (whole_w F.out _).mono ?_; rintro e w8 ⟨rfl, hF⟩; clear F; have F := aq hF; clear hF) | (go_at_call 45; refine (oT F.out ⟨0, 1⟩).mono ?_; rintro e w8 ⟨rfl, hF⟩; clear F; have F := aq hF; clear hF))
      go_ret
      exact ⟨by rw [HE.out] <;> rfl, by rw [HE.out]; exact F.out⟩
    | false =>
    cases h5 : isN g a (-1) with
    | true =>
      have HE := aq (show wP yN g a b = neg7 yN g b by unfold wP; rw [H1.out, H2.out, ← HZ.out, h5]; rfl)
      clear HZ H1 H2
      go_wp2_with (first | (go_at_call 108; refine (is_w F.out _ _ (by assumption) (by assumption)).mono ?_; rintro e w8 ⟨rfl, hF⟩; clear F; have F := aq hF; clear hF) | (go_at_call 109; refine (one7 F.out HI.out b b0 b1).mono ?_; rintro e w8 ⟨rfl, hF⟩; clear F; have F := aq hF; clear hF))
      go_ret
      exact ⟨by rw [HE.out] <;> rfl, by rw [HE.out]; exact F.out⟩
    | false =>
    cases h6 : isN g b (-1) with
    | true =>
      have HE := aq (show wP yN g a b = neg7 yN g a by unfold wP; rw [H1.out, H2.out, ← HZ.out, h5, h6]; rfl)
      clear HZ H1 H2
      go_wp2_with (first | (go_at_call 108; refine (is_w F.out _ _ (by assumption) (by assumption)).mono ?_; rintro e w8 ⟨rfl, hF⟩; clear F; have F := aq hF; clear hF) | (go_at_call 109; refine (one7 F.out HI.out a a0 a1).mono ?_; rintro e w8 ⟨rfl, hF⟩; clear F; have F := aq hF; clear hF))
      go_ret
      exact ⟨by rw [HE.out] <;> rfl, by rw [HE.out]; exact F.out⟩
    | false =>
      have HE := aq (show wP yN g a b = (g, -1) by unfold wP; rw [H1.out, H2.out, ← HZ.out, h5, h6]; rfl)
      clear HZ H1 H2
      go_wp2_with (first | (go_at_call 108; refine (is_w F.out _ _ (by assumption) (by assumption)).mono ?_; rintro e w8 ⟨rfl, hF⟩; clear F; have F := aq hF; clear hF))
      go_ret
      exact ⟨by rw [HE.out] <;> rfl, by rw [HE.out]; exact F.out⟩
theorem putG_len (g : PG) (x : S37) : g.L.length ≤ (wJ g x).1.L.length := by
  unfold wJ
  split
  · exact Nat.le_refl _
  · split
    · exact Nat.le_refl _
    · simp
theorem neg7_len (R : xH) (g : PG) (a : Int) : g.L.length ≤ (neg7 R g a).1.L.length := by
  unfold neg7
  repeat' split
  all_goals first | exact Nat.le_refl _ | exact putG_len _ _
theorem simpleG_len (R : xH) (g : PG) (kind a b n : Int) : g.L.length ≤ (yR R g kind a b n).1.L.length := by
  unfold yR wP
  repeat' split
  all_goals first | exact Nat.le_refl _ | exact putG_len _ _ | exact neg7_len _ _ _
theorem simple72 (h : GW base ok gG gM g W0 W) (hI : ∀ x ∈ g.L, wM x) (kind a b n : Int) (hk0 : 3 ≤ kind) (hk1 : kind ≤ 14) (a0 : 0 ≤ a) (a1 : a < (g.L.length : Int)) (b0 : 0 ≤ b) (b1 : b < (g.L.length : Int)) :
    Calls Try.prog 72 #[.pointer (some ⟨gG, 0, none⟩), .int .i64 kind, .int .i64 a, .int .i64 b, .int .i64 n] W (AnsG base ok gG gM W0 (yR yN g kind a b n)) := by
  have hlen := h.rep.le
  have hu71 := Try.underlying71
  have hu55 := Try.underlying55
  rcases (show kind = 3 ∨ kind = 4 ∨ kind = 5 ∨ kind = 6 ∨ kind = 7 ∨ kind = 8 ∨ kind = 9 ∨ kind = 10 ∨ kind = 11 ∨ kind = 12 ∨ kind = 13 ∨ kind = 14 by omega) with rfl | rfl | rfl | rfl | rfl | rfl | rfl | rfl | rfl | rfl | rfl | rfl
  · have F := aq h
    have HI := aq hI
    clear h hI hk0 hk1
    cases h1 : isN g a 0 with
    | true =>
      have HE := aq (show yR yN g 3 a b n = (g, b) by unfold yR; rw [if_pos rfl, h1]; rfl)
      go_enter Try.func72, Try.ntmps72
      go_wp2_with (first | (go_at_call 108; refine (is_w F.out _ _ (by assumption) (by assumption)).mono ?_; rintro e w8 ⟨rfl, hF⟩; clear F; have F := aq hF; clear hF))
      go_ret
      exact ⟨by rw [HE.out] <;> rfl, by rw [HE.out]; exact F.out⟩
    | false =>
      cases h2 : isN g b 0 with
      | true =>
        have HE := aq (show yR yN g 3 a b n = (g, a) by unfold yR; rw [if_pos rfl, h1, h2]; rfl)
        go_enter Try.func72, Try.ntmps72
        go_wp2_with (first | (go_at_call 108; refine (is_w F.out _ _ (by assumption) (by assumption)).mono ?_; rintro e w8 ⟨rfl, hF⟩; clear F; have F := aq hF; clear hF))
        go_ret
        exact ⟨by rw [HE.out] <;> rfl, by rw [HE.out]; exact F.out⟩
      | false =>
        have HE := aq (show yR yN g 3 a b n = (g, -1) by unfold yR; rw [if_pos rfl, h1, h2]; rfl)
        go_enter Try.func72, Try.ntmps72
        go_wp2_with (first | (go_at_call 108; refine (is_w F.out _ _ (by assumption) (by assumption)).mono ?_; rintro e w8 ⟨rfl, hF⟩; clear F; have F := aq hF; clear hF))
        go_ret
        exact ⟨by rw [HE.out] <;> rfl, by rw [HE.out]; exact F.out⟩
  · have F := aq h
    have HI := aq hI
    clear h hI hk0 hk1
    cases h1 : isN g b 0 with
    | true =>
      have HE := aq (show yR yN g 4 a b n = (g, a) by unfold yR; rw [if_neg (by decide), if_pos rfl, h1]; rfl)
      go_enter Try.func72, Try.ntmps72
      go_wp2_with (first | (go_at_call 108; refine (is_w F.out _ _ (by assumption) (by assumption)).mono ?_; rintro e w8 ⟨rfl, hF⟩; clear F; have F := aq hF; clear hF))
      go_ret
      exact ⟨by rw [HE.out] <;> rfl, by rw [HE.out]; exact F.out⟩
    | false =>
      cases h2 : isN g a 0 with
      | true =>
        have HE := aq (show yR yN g 4 a b n = neg7 yN g b by unfold yR; rw [if_neg (by decide), if_pos rfl, h1, h2]; rfl)
        go_enter Try.func72, Try.ntmps72
        go_wp2_with (first | (go_at_call 108; refine (is_w F.out _ _ (by assumption) (by assumption)).mono ?_; rintro e w8 ⟨rfl, hF⟩; clear F; have F := aq hF; clear hF) | (go_at_call 109; refine (one7 F.out HI.out b b0 b1).mono ?_; rintro e w8 ⟨rfl, hF⟩; clear F; have F := aq hF; clear hF))
        go_ret
        exact ⟨by rw [HE.out] <;> rfl, by rw [HE.out]; exact F.out⟩
      | false =>
        by_cases hab : a = b
        · subst hab
          cases t1 : zJ false g.T a with
          | true =>
            have HT := aq (fun (W : World) (h : GW base ok gG gM g W0 W) => h.tot2 a0 a1 a0 a1 t1 t1)
            have HE := aq (show yR yN g 4 a a n = wJ g (vP ⟨0, 1⟩) by unfold yR; rw [if_neg (by decide), if_pos rfl, h1]; rw [if_neg (by decide), if_neg (by decide), if_pos ⟨rfl, t1⟩])
            clear t1
            go_enter Try.func72, Try.ntmps72
            go_wp2_with (first | (go_at_call 108; refine (is_w F.out _ _ (by assumption) (by assumption)).mono ?_; rintro e w8 ⟨rfl, hF⟩; clear F; have F := aq hF; clear hF; obtain ⟨gT, ct, y0, y1, y2⟩ := (HT.out _ F.out)) | (go_at_call 106; refine (whole_w F.out _).mono ?_; rintro e w8 ⟨rfl, hF⟩; clear F; have F := aq hF; clear hF) | (go_at_call 45; refine (oT F.out ⟨0, 1⟩).mono ?_; rintro e w8 ⟨rfl, hF⟩; clear F; have F := aq hF; clear hF))
            go_ret
            exact ⟨by rw [HE.out] <;> rfl, by rw [HE.out]; exact F.out⟩
          | false =>
            have HT := aq (fun (W : World) (h : GW base ok gG gM g W0 W) => h.tot2 a0 a1 a0 a1 t1 t1)
            have HE := aq (show yR yN g 4 a a n = (g, -1) by unfold yR; rw [if_neg (by decide), if_pos rfl, h1]; simp only [Bool.false_eq_true, if_false]; rw [if_neg (fun h => by rw [t1] at h; exact absurd h.2 (by decide))])
            clear t1
            go_enter Try.func72, Try.ntmps72
            go_wp2_with (first | (go_at_call 108; refine (is_w F.out _ _ (by assumption) (by assumption)).mono ?_; rintro e w8 ⟨rfl, hF⟩; clear F; have F := aq hF; clear hF; obtain ⟨gT, ct, y0, y1, y2⟩ := (HT.out _ F.out)))
            go_ret
            exact ⟨by rw [HE.out] <;> rfl, by rw [HE.out]; exact F.out⟩
        · have hab' : (a == b) = false := beq_eq_false_iff_ne.mpr hab
          have HE := aq (show yR yN g 4 a b n = (g, -1) by unfold yR; rw [if_neg (by decide), if_pos rfl, h1, h2]; simp only [Bool.false_eq_true, if_false]; rw [if_neg (fun h => hab h.1)])
          clear hab
          go_enter Try.func72, Try.ntmps72
          go_wp2_with (first | (go_at_call 108; refine (is_w F.out _ _ (by assumption) (by assumption)).mono ?_; rintro e w8 ⟨rfl, hF⟩; clear F; have F := aq hF; clear hF))
          go_ret
          exact ⟨by rw [HE.out] <;> rfl, by rw [HE.out]; exact F.out⟩
  · have HE := aq (show yR yN g 5 a b n = wP yN g a b by unfold yR; rw [if_neg (by decide), if_neg (by decide), if_pos rfl])
    have HP := aq (fun (W : World) (h : GW base ok gG gM g W0 W) => product110 h hI a b a0 a1 b0 b1)
    have F := aq h
    have HI := aq hI
    clear h hI hk0 hk1
    go_enter Try.func72, Try.ntmps72
    go_wp2_with (first | (go_at_call 110; refine (HP.out _ F.out).mono ?_; rintro e w8 ⟨rfl, hF⟩; clear F; have F := aq hF; clear hF))
    go_ret
    exact ⟨by rw [HE.out] <;> rfl, by rw [HE.out]; exact F.out⟩
  · have F := aq h
    have HI := aq hI
    clear h hI hk0 hk1
    cases h1 : isN g b 1 with
    | true =>
      have HE := aq (show yR yN g 6 a b n = (g, a) by unfold yR; rw [if_neg (by decide), if_neg (by decide), if_neg (by decide), if_pos rfl, h1]; rfl)
      go_enter Try.func72, Try.ntmps72
      go_wp2_with (first | (go_at_call 108; refine (is_w F.out _ _ (by assumption) (by assumption)).mono ?_; rintro e w8 ⟨rfl, hF⟩; clear F; have F := aq hF; clear hF))
      go_ret
      exact ⟨by rw [HE.out] <;> rfl, by rw [HE.out]; exact F.out⟩
    | false =>
      have HE := aq (show yR yN g 6 a b n = (g, -1) by unfold yR; rw [if_neg (by decide), if_neg (by decide), if_neg (by decide), if_pos rfl, h1]; rfl)
      go_enter Try.func72, Try.ntmps72
      go_wp2_with (first | (go_at_call 108; refine (is_w F.out _ _ (by assumption) (by assumption)).mono ?_; rintro e w8 ⟨rfl, hF⟩; clear F; have F := aq hF; clear hF))
      go_ret
      exact ⟨by rw [HE.out] <;> rfl, by rw [HE.out]; exact F.out⟩
  · have HE := aq (show yR yN g 7 a b n = (g, if (rT g.L a).f0 = 7 then (rT g.L a).f1 else -1) by unfold yR; rw [if_neg (by decide), if_neg (by decide), if_neg (by decide), if_neg (by decide), if_pos rfl]; split <;> rfl)
    rw [HE.out]
    exact simple7 h a b n a0 a1
  · have F := aq h
    have HI := aq hI
    clear h hI hk0 hk1
    by_cases h1 : n = 1
    · subst h1
      have HE := aq (show yR yN g 8 a b 1 = (g, a) by unfold yR; rw [if_neg (by decide), if_neg (by decide), if_neg (by decide), if_neg (by decide), if_neg (by decide), if_pos rfl, if_pos rfl])
      go_enter Try.func72, Try.ntmps72
      go_wp2
      go_ret
      exact ⟨by rw [HE.out] <;> rfl, by rw [HE.out]; exact F.out⟩
    · have h1b : (n == 1) = false := beq_eq_false_iff_ne.mpr h1
      by_cases h2 : n = 0
      · subst h2
        cases t1 : zJ false g.T a with
        | true =>
          obtain ⟨gT, ct, y0, y1, y2⟩ := F.out.tot2 a0 a1 a0 a1 t1 t1
          have HE := aq (show yR yN g 8 a b 0 = wJ g (vP ⟨1, 1⟩) by unfold yR; rw [if_neg (by decide), if_neg (by decide), if_neg (by decide), if_neg (by decide), if_neg (by decide), if_pos rfl, if_neg h1, if_pos ⟨rfl, t1⟩])
          clear t1 h1 h1b
          go_enter Try.func72, Try.ntmps72
          go_wp2_with (first | (go_at_call 106; refine (whole_w F.out _).mono ?_; rintro e w8 ⟨rfl, hF⟩; clear F; have F := aq hF; clear hF) | (go_at_call 45; refine (oT F.out ⟨1, 1⟩).mono ?_; rintro e w8 ⟨rfl, hF⟩; clear F; have F := aq hF; clear hF))
          go_ret
          exact ⟨by rw [HE.out] <;> rfl, by rw [HE.out]; exact F.out⟩
        | false =>
          obtain ⟨gT, ct, y0, y1, y2⟩ := F.out.tot2 a0 a1 a0 a1 t1 t1
          have HE := aq (show yR yN g 8 a b 0 = (g, -1) by unfold yR; rw [if_neg (by decide), if_neg (by decide), if_neg (by decide), if_neg (by decide), if_neg (by decide), if_pos rfl, if_neg h1, if_neg (fun h => by rw [t1] at h; exact absurd h.2 (by decide))])
          clear t1 h1 h1b
          go_enter Try.func72, Try.ntmps72
          go_wp2
          go_ret
          exact ⟨by rw [HE.out] <;> rfl, by rw [HE.out]; exact F.out⟩
      · have h2b : (n == 0) = false := beq_eq_false_iff_ne.mpr h2
        have HE := aq (show yR yN g 8 a b n = (g, -1) by unfold yR; rw [if_neg (by decide), if_neg (by decide), if_neg (by decide), if_neg (by decide), if_neg (by decide), if_pos rfl, if_neg h1, if_neg (fun h => h2 h.1)])
        clear h1 h2
        go_enter Try.func72, Try.ntmps72
        go_wp2
        go_ret
        exact ⟨by rw [HE.out] <;> rfl, by rw [HE.out]; exact F.out⟩
  · have F := aq h
    have HI := aq hI
    clear h hI hk0 hk1
    have HE := aq (show yR yN g 9 a b n = (g, -1) by unfold yR; rw [if_neg (by decide), if_neg (by decide), if_neg (by decide), if_neg (by decide), if_neg (by decide), if_neg (by decide)])
    go_enter Try.func72, Try.ntmps72
    go_wp2
    go_ret
    exact ⟨by rw [HE.out] <;> rfl, by rw [HE.out]; exact F.out⟩
  · have F := aq h
    have HI := aq hI
    clear h hI hk0 hk1
    have HE := aq (show yR yN g 10 a b n = (g, -1) by unfold yR; rw [if_neg (by decide), if_neg (by decide), if_neg (by decide), if_neg (by decide), if_neg (by decide), if_neg (by decide)])
    go_enter Try.func72, Try.ntmps72
    go_wp2
    go_ret
    exact ⟨by rw [HE.out] <;> rfl, by rw [HE.out]; exact F.out⟩
  · have F := aq h
    have HI := aq hI
    clear h hI hk0 hk1
    have HE := aq (show yR yN g 11 a b n = (g, -1) by unfold yR; rw [if_neg (by decide), if_neg (by decide), if_neg (by decide), if_neg (by decide), if_neg (by decide), if_neg (by decide)])
    go_enter Try.func72, Try.ntmps72
    go_wp2
    go_ret
    exact ⟨by rw [HE.out] <;> rfl, by rw [HE.out]; exact F.out⟩
  · have F := aq h
    have HI := aq hI
    clear h hI hk0 hk1
    have HE := aq (show yR yN g 12 a b n = (g, -1) by unfold yR; rw [if_neg (by decide), if_neg (by decide), if_neg (by decide), if_neg (by decide), if_neg (by decide), if_neg (by decide)])
    go_enter Try.func72, Try.ntmps72
    go_wp2
    go_ret
    exact ⟨by rw [HE.out] <;> rfl, by rw [HE.out]; exact F.out⟩
  · have F := aq h
    have HI := aq hI
    clear h hI hk0 hk1
    have HE := aq (show yR yN g 13 a b n = (g, -1) by unfold yR; rw [if_neg (by decide), if_neg (by decide), if_neg (by decide), if_neg (by decide), if_neg (by decide), if_neg (by decide)])
    go_enter Try.func72, Try.ntmps72
    go_wp2
    go_ret
    exact ⟨by rw [HE.out] <;> rfl, by rw [HE.out]; exact F.out⟩
  · have F := aq h
    have HI := aq hI
    clear h hI hk0 hk1
    have HE := aq (show yR yN g 14 a b n = (g, -1) by unfold yR; rw [if_neg (by decide), if_neg (by decide), if_neg (by decide), if_neg (by decide), if_neg (by decide), if_neg (by decide)])
    go_enter Try.func72, Try.ntmps72
    go_wp2
    go_ret
    exact ⟨by rw [HE.out] <;> rfl, by rw [HE.out]; exact F.out⟩
theorem make47 (h : GW base ok gG gM g W0 W) (hI : ∀ x ∈ g.L, wM x) (kind a b n : Int) (hk0 : 3 ≤ kind) (hk1 : kind ≤ 14) (a0 : 0 ≤ a) (a1 : a < (g.L.length : Int)) (b0 : 0 ≤ b) (b1 : b < (g.L.length : Int)) :
    Calls Try.prog 47 #[.pointer (some ⟨gG, 0, none⟩), .int .i64 kind, .int .i64 a, .int .i64 b, .int .i64 n] W (AnsG base ok gG gM W0 (tT yN g kind a b n)) :=
  make_of h hI kind a b n hk0 hk1 a0 a1 b0 b1 (yR yN g kind a b n) _ (fun W h => simple72 h hI kind a b n hk0 hk1 a0 a1 b0 b1) (simpleG_len _ _ _ _ _ _) rfl
theorem two48 (h : GW base ok gG gM g W0 W) (hI : ∀ x ∈ g.L, wM x) (kind a b : Int) (hk0 : 3 ≤ kind) (hk1 : kind ≤ 14) (a0 : 0 ≤ a) (a1 : a < (g.L.length : Int)) (b0 : 0 ≤ b) (b1 : b < (g.L.length : Int)) :
    Calls Try.prog 48 #[.pointer (some ⟨gG, 0, none⟩), .int .i64 kind, .int .i64 a, .int .i64 b] W (AnsG base ok gG gM W0 (tT yN g kind a b 0)) := by
  have HM := aq (make47 h hI kind a b 0 hk0 hk1 a0 a1 b0 b1)
  clear h hI
  generalize tT yN g kind a b 0 = r at HM ⊢
  go_enter Try.func48, Try.ntmps48
  go_wp2_with (first | (go_at_call 47; refine HM.out.mono ?_; rintro e w8 ⟨rfl, hF⟩; have F := aq hF; clear hF))
  go_ret
  exact ⟨rfl, F.out⟩
end
end Go.Proofs.Ytoonahobmlnflaa.PC
