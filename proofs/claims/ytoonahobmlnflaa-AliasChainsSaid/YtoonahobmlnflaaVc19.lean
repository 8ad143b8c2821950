/- Texts of this claim, one behind the other. -/
import Derived.Test.YtoonahobmlnflaaVc18
set_option linter.unusedVariables false
set_option linter.unusedSimpArgs false
set_option maxRecDepth 100000
set_option maxHeartbeats 16000000
namespace Go.Proofs.Ytoonahobmlnflaa.PC
open Go.RowKit Go.Shelf A B C
theorem plain60 {base : Nat} {ok : Nat → Prop} (nodes : List S37) (A : Option Addr) (c g : Nat) (W : World) (hR : Kd.R k37 37 W base ok (.slice A nodes.length c) nodes) (hg : W.heap[g]? = some (.cells #[.slice A nodes.length c] 22 (0, 0))) (i : Int) (h0 : 0 ≤ i) (h1 : i < (nodes.length : Int)) :
    Calls Try.prog 60 #[.int .i64 i, .pointer (some ⟨g, 0, none⟩)] W fun e w' => e = .returned (.bool (sQ (rT nodes i))) ∧ Below W.heap.size W w' := by
  have hz := (bq hg 0).trans (show _ = some (.slice A nodes.length c) from rfl)
  have HB := aq (Below.refl W.heap.size W)
  obtain ⟨gN, rfl, hc⟩ := sS hR i h0 h1
  have y0 : W.cell? ⟨gN, i.toNat * 22, none⟩ = _ := hc 0 _ rfl
  have y7 : W.cell? ⟨gN, i.toNat * 22 + 6 + 1, none⟩ = _ := hc 7 _ rfl
  rw [show sQ (rT nodes i) = ((rT nodes i).f0 == 2 && (rT nodes i).f5.f1 == 0) from rfl]
  generalize (rT nodes i).f0 = k0 at y0 ⊢
  generalize (rT nodes i).f5.f1 = k1 at y7 ⊢
  clear hR hc hg
  by_cases c1 : k0 = 2
  · have d1 : (k0 == 2) = true := beq_iff_eq.2 c1
    have HE := aq (show (k0 == 2 && k1 == 0) = (k1 == 0) by rw [d1]; rfl)
    rw [HE.out]
    go_enter Try.func60, Try.ntmps60
    go_wp2
    refine bodyPost_ret (results_tmp rfl _ _ _) rfl ⟨rfl, HB.out⟩
  · have d1 : (k0 == 2) = false := beq_eq_false_iff_ne.2 c1
    have HE := aq (show (k0 == 2 && k1 == 0) = false by rw [d1]; rfl)
    rw [HE.out]
    go_enter Try.func60, Try.ntmps60
    go_wp2
    refine bodyPost_ret (results_tmp rfl _ _ _) rfl ⟨rfl, HB.out⟩
def sa35.T7 : Bool × List (List Nat × List Nat) := (true, [([], []), ([0], [0]), ([1], [1]), ([], []), ([], []), ([3, 4], [3, 4]), ([2, 5, 0, 1, 2], [2]), ([6, 0, 1, 2, 6], []), ([7, 0, 1, 2, 6, 7], []), ([5, 8, 0, 1, 2, 3, 4, 5, 6, 7, 8], [5])])
def sa35.B7 : List Nat := [0, 1, 3, 0, 0, 24, 63, 127, 255, 511]
theorem sa35.tab7 : wD .any (opsOf Try.f35 7) = sa35.T7 := by kernel_rfl
theorem sa35.bits7 : xR sa35.T7.2 sa35.B7 = true := by kernel_rfl
def sa35.T14 : Bool × List (List Nat × List Nat) := (true, [([], []), ([], []), ([1], [1]), ([0, 2], [0, 2]), ([3], [3]), ([4], [4]), ([5], [5]), ([], []), ([], []), ([8], [8]), ([7, 9], [7, 9]), ([10], [10]), ([11], [11]), ([12], [12]), ([], []), ([6, 0, 1, 2, 3, 4, 5, 6], [6]), ([13, 15, 0, 1, 2, 3, 4, 5, 6, 7, 8, 9, 10, 11, 12, 13, 15], [13]), ([14, 16, 0, 1, 2, 3, 4, 5, 6, 7, 8, 9, 10, 11, 12, 13, 14, 15, 16], [14]), ([17, 0, 1, 2, 3, 4, 5, 6, 7, 8, 9, 10, 11, 12, 13, 14, 15, 16, 17], [])])
def sa35.B14 : List Nat := [0, 0, 2, 7, 15, 31, 63, 0, 0, 256, 896, 1920, 3968, 8064, 0, 127, 49151, 131071, 262143]
theorem sa35.tab14 : wD .any (opsOf Try.f35 14) = sa35.T14 := by kernel_rfl
theorem sa35.bits14 : xR sa35.T14.2 sa35.B14 = true := by kernel_rfl
structure SaF (base n c : Nat) (ok : Nat → Prop) (A : Option Addr) (nodes : List S37) (gb : Nat) (W V : World) : Prop where
  R : Kd.R k37 37 V base ok (.slice A n c) nodes
  bx : V.heap[gb]? = some (.cells #[.slice A n c] 22 (0, 0))
  B : Below W.heap.size W V
theorem SaF.step {base n c : Nat} {ok : Nat → Prop} {A : Option Addr} {nodes : List S37} {gb : Nat} {W V V' : World} (h : SaF base n c ok A nodes gb W V) (hd : Below V.heap.size V V') : SaF base n c ok A nodes gb W V' := ⟨Kd.zL h.R hd, bb_ h.bx hd, bt_ h.B hd⟩
structure SaG (base n c : Nat) (ok : Nat → Prop) (A : Option Addr) (nodes : List S37) (gb g9 : Nat) (m : S37) (W V : World) : Prop where
  f : SaF base n c ok A nodes gb W V
  b9 : V.heap[g9]? = some (.cells (zC m) 37 (0, 0))
theorem SaG.step {base n c : Nat} {ok : Nat → Prop} {A : Option Addr} {nodes : List S37} {gb g9 : Nat} {m : S37} {W V V' : World} (h : SaG base n c ok A nodes gb g9 m W V) (hd : Below V.heap.size V V') : SaG base n c ok A nodes gb g9 m W V' := ⟨h.f.step hd, bb_ h.b9 hd⟩
theorem nd_load {base : Nat} {ok : Nat → Prop} {W : World} {An : Option Addr} {cn : Nat} {L : List S37} (h : Kd.R k37 37 W base ok (.slice An L.length cn) L) (i : Int) (h0 : 0 ≤ i) (h1 : i < (L.length : Int)) :
    ∃ gN, An = some ⟨gN, 0, none⟩ ∧ ∀ (jj : Nat) v, (wY (rT L i))[jj]? = some v → W.cell? ((⟨gN, i.toNat * 22, none⟩ : Addr).add jj) = some v := by
  obtain ⟨gN, e, hc⟩ := sS h i h0 h1
  exact ⟨gN, e, fun jj v hv => by rw [add_off]; exact hc jj v hv⟩
theorem en60 (args : Array Value) (w : World) : (callFunc 60 args).run Try.prog w = .ok (.enter 60 args) w := enters_of Try.func60 (by kernel_rfl) rfl args w
def sayE (s : Say) : Ending := .returned (.tuple #[.int .i64 s.x, .int .i64 s.y, .int .i64 s.s, .bool s.is])
theorem said35 {base : Nat} {ok : Nat → Prop} (nodes : List S37) (A : Option Addr) (c : Nat) (W : World) (hR : Kd.R k37 37 W base ok (.slice A nodes.length c) nodes) (ha : OpsOK nodes) (e : Int) (h0 : 0 ≤ e) (h1 : e < (nodes.length : Int)) :
    Calls Try.prog 35 #[.slice A nodes.length c, .int .i64 e] W fun en w' => en = sayE (wH nodes e) ∧ Below W.heap.size W w' := by
  have hE := en60
  have HCL := aq (fun (V : World) (i : Int) (F : SaF base nodes.length c ok A nodes W.heap.size W V) (i0 : 0 ≤ i) (i1 : i < (nodes.length : Int)) => plain60 nodes A c W.heap.size V F.R F.bx i i0 i1)
  have F := aq (show SaF base nodes.length c ok A nodes W.heap.size W (W.alloc (.cells #[.slice A nodes.length c] 22)) from ⟨Kd.tV hR _, heap_alloc_last W _, zY (Below.refl _ _) _⟩)
  obtain ⟨gN, rfl, hc⟩ := sS F.out.R e h0 h1
  have y0 : (W.alloc (.cells #[.slice (some ⟨gN, 0, none⟩) nodes.length c] 22)).cell? ⟨gN, e.toNat * 22, none⟩ = _ := hc 0 _ rfl
  have y1 : (W.alloc (.cells #[.slice (some ⟨gN, 0, none⟩) nodes.length c] 22)).cell? ⟨gN, e.toNat * 22 + 1, none⟩ = _ := hc 1 _ rfl
  have y9 := (bq F.out.bx 0).trans (show _ = some (.slice (some ⟨gN, 0, none⟩) nodes.length c) from rfl)
  have HE2 : ∃ e2, eqOf nodes e = e2 ∧ 0 ≤ e2 ∧ e2 < (nodes.length : Int) ∧ ((rT nodes e).f0 = 7 → (rT nodes e).f1 = e2) ∧ (¬ (rT nodes e).f0 = 7 → e2 = e) := by
    refine ⟨_, rfl, ?_⟩
    unfold eqOf
    by_cases k : (rT nodes e).f0 = 7
    · rw [if_pos k]
      have := (ha e h0 h1).1 (by rw [k]; decide)
      exact ⟨this.1, this.2, fun _ => rfl, fun h => absurd k h⟩
    · rw [if_neg k]; exact ⟨h0, h1, fun h => absurd h k, fun _ => rfl⟩
  obtain ⟨e2, he, e20, e21, e22, e23⟩ := HE2
  obtain ⟨S, hS⟩ : ∃ S, wH nodes e = S := ⟨_, rfl⟩
  rw [hS]
  have HSAY := aq (show S = sayN nodes (rT nodes e2) by rw [← hS]; unfold wH; rw [he])
  clear hS
  have HE0 := aq e20
  have HE1 := aq e21
  have HOPS := aq (ha e2 e20 e21)
  generalize (rT nodes e).f0 = k0 at y0 e22 e23
  generalize (rT nodes e).f1 = k1 at y1 e22
  have E22 := aq e22
  have E23 := aq e23
  generalize hV : W.alloc (.cells #[.slice (some ⟨gN, 0, none⟩) nodes.length c] 22) = V at F y0 y1 y9
  have HV := aq hV
  clear e20 e21 e22 e23 he ha hc hR hV
  go_enter Try.func35, Try.ntmps35
  go_upto_region 2 with fail
  rw [HV.out]
  clear HV
  by_cases ck : k0 = 7
  case' pos =>
    have ek := (E22.out ck).symm
    subst ek
    clear E22 E23
    go_upto_region 4 with fail
  case' neg =>
    have ek := E23.out ck
    subst ek
    clear E22 E23
    go_upto_region 4 with fail
  all_goals
    clear y0 y1 ck
    have r0 := HE0.out
    have r1 := HE1.out
    obtain ⟨_, eg, hnd⟩ := nd_load F.out.R _ r0 r1
    injection eg with eg
    injection eg with eg
    subst eg
    obtain ⟨m, hm⟩ : ∃ m, rT nodes e2 = m := ⟨_, rfl⟩
    rw [hm] at hnd HSAY HOPS
    have HM := aq hm
    have HND := aq hnd
    clear hnd hm
    go_upto_region 5 with (first | ((with_reducible refine yY 37 ?_); refine xC (t := 37) (cs := wY m) rfl (by kernel_rfl) (by kernel_rfl) HND.out ?_) | ((with_reducible refine gD (N := 9) rfl ?_); refine bE ?hg (N := 9) ?hd (cs := zC z37) (t := 37) ?hr ?_; (case hd => rfl); (case hg => rfl); (case hr => first | (go_simp; done) | (go_simp; rfl)); intro g9 hgn w5 hbox hb; have HX := aq hbox; have HB5 := aq hb; have GN := aq (show V.heap.size ≤ g9 by rw [hgn]; exact Nat.le_refl _); clear hbox hb hgn) | ((with_reducible refine xN 9 ?_); refine wV (g := g9) (x := m) rfl rfl HX.out (xX _) ?_; intro w6 hx6 h6; have G := aq (show SaG base nodes.length c ok (some ⟨_, 0, none⟩) nodes W.heap.size g9 m W w6 from ⟨F.out.step (HB5.out.trans (h6.below GN.out)), hx6⟩); clear hx6 h6 HX HB5 GN))
    clear F HND y9
    have zk := (bq G.out.b9 0).trans (show _ = some (.int .i64 m.f0) from rfl)
    have za := (bq G.out.b9 1).trans (show _ = some (.int .i64 m.f1) from rfl)
    have zb := (bq G.out.b9 2).trans (show _ = some (.int .i64 m.f2) from rfl)
    have hS := HSAY.out
    unfold sayN at hS
    clear HSAY
    by_cases m2 : m.f0 = 2
    · rw [if_pos m2] at hS
      have HS := aq hS
      clear hS
      go_upto_region 7 with fail
      have G2 := aq (G.out.step (yX (Below.refl _ _)))
      clear G za zb zk HOPS
      refine xK (n := 10) (S := fun w' => w'.cell? ⟨g9, 6, none⟩ = some (.int .i64 m.f5.f0)) (ds := []) (msk 10 0) (by kernel_rfl) rfl rfl (by exact (bq G2.out.b9 6).trans rfl) (fun hHeld => ?_); refine yO sa35.tab7 sa35.bits7 (fun HT_ HW_ => ?_)
      generalize w6.drew = w4 at G2 hHeld ⊢
      refine pU 0 31 (msk 10 1) HT_.out ?_
      refine pU 1 32 (msk 10 3) HT_.out ?_
      refine tU 2 33 (msk 10 7) HT_.out HW_.out hHeld ?_ ?_ ?_
      rotate_left
      · rintro w' s0; go_simp; with_reducible rfl
      refine pU 3 34 (msk 10 15) HT_.out ?_
      refine pU 4 35 (msk 10 31) HT_.out ?_
      refine wW (i := 5) (N := some 36) (msk 10 63) rfl rfl (zG HT_.out (by kernel_rfl)) (by decide) (fun K hK => ?_)
      refine call_ 60 #[.int .i64 e2, .pointer (some ⟨W.heap.size, 0, none⟩)] (by rfl) rfl (by unfold execOp; simp [resolve, Deferred.ofValue, invoke, Act.eval, en60]) ?_
      refine (HCL.out _ _ G2.out.f HE0.out HE1.out).mono ?_
      rintro en w5 ⟨rfl, hd⟩
      refine ⟨_, rfl, ?_⟩
      have G3 := aq (G2.out.step hd)
      clear hd G2
      refine hK.out _ _ (by exact (bq G3.out.b9 6).trans rfl) (fun hHeld => ?_)
      clear hK K
      refine xV (a' := ?_) ?_ ?_
      rotate_left
      · show Act.put _ (some 36) _ = _
        simp only [Act.put, sq, iw, jw]
        rfl
      refine pU 6 4 (msk 10 127) HT_.out ?_
      refine pU 7 5 (msk 10 255) HT_.out ?_
      refine pU 8 6 (msk 10 511) HT_.out ?_
      refine pU 9 7 (msk 10 1023) HT_.out ?_
      refine wX (yG HT_.out (by kernel_rfl)) ?_
      go_wp2
      rw [HM.out]
      refine bodyPost_ret (v := .tuple #[.int .i64 m.f5.f0, .int .i64 0, .int .i64 0, .bool (sQ m)]) (by simp [results]) rfl ⟨by rw [HS.out]; rfl, G3.out.f.B⟩
    rw [if_neg m2] at hS
    by_cases m34 : m.f0 = 4 ∨ m.f0 = 3
    · have hops : (0 ≤ m.f1 ∧ m.f1 < (nodes.length : Int)) ∧ (0 ≤ m.f2 ∧ m.f2 < (nodes.length : Int)) := by
        rcases m34 with k | k <;> exact ⟨HOPS.out.1 (by rw [k]; decide), HOPS.out.2 (by rw [k]; decide)⟩
      have HCA := aq (fun V F => HCL.out V m.f1 F hops.1.1 hops.1.2)
      have HCB := aq (fun V F => HCL.out V m.f2 F hops.2.1 hops.2.2)
      have CA := aq (fun (V : World) (h : Kd.R k37 37 V base ok (.slice (some ⟨gN, 0, none⟩) nodes.length c) nodes) => show V.cell? ⟨gN, m.f1.toNat * 22 + 6, none⟩ = some (.int .i64 (rT nodes m.f1).f5.f0) by
        obtain ⟨_, eg, hc⟩ := sS h m.f1 hops.1.1 hops.1.2
        injection eg with eg
        injection eg with eg
        subst eg
        exact hc 6 _ rfl)
      have CB := aq (fun (V : World) (h : Kd.R k37 37 V base ok (.slice (some ⟨gN, 0, none⟩) nodes.length c) nodes) => show V.cell? ⟨gN, m.f2.toNat * 22 + 6, none⟩ = some (.int .i64 (rT nodes m.f2).f5.f0) by
        obtain ⟨_, eg, hc⟩ := sS h m.f2 hops.2.1 hops.2.2
        injection eg with eg
        injection eg with eg
        subst eg
        exact hc 6 _ rfl)
      obtain ⟨⟨o10, o11⟩, o20, o21⟩ := hops
      generalize sQ (rT nodes m.f1) = pa at HCA hS
      generalize sQ (rT nodes m.f2) = pb at HCB hS
      generalize (rT nodes m.f1).f5.f0 = va at CA hS
      generalize (rT nodes m.f2).f5.f0 = vb at CB hS
      clear HCL HOPS HM
      by_cases hal : pa = true ∧ pb = true ∧ m.f1 ≠ m.f2
      · rw [if_pos ⟨m34, hal⟩] at hS
        obtain ⟨rfl, rfl, hne⟩ := hal
        have HS := aq hS
        clear hS
        have dne : (m.f1 != m.f2) = true := by rw [bne_iff_ne]; exact hne
        rcases m34 with mk | mk
        all_goals
          rw [mk] at zk HS m2
          go_upto_region 14 with (first | (go_at_call 60; (with_reducible refine (HCA.out _ G.out.f).mono ?_); rintro en w7 ⟨rfl, hd⟩; have G7 := aq (G.out.step hd); clear hd G za zb zk; have G := G7; clear G7; have zk := (bq G.out.b9 0).trans (show _ = some (.int .i64 _) from rfl); have za := (bq G.out.b9 1).trans (show _ = some (.int .i64 m.f1) from rfl); have zb := (bq G.out.b9 2).trans (show _ = some (.int .i64 m.f2) from rfl)) | (go_at_call 60; (with_reducible refine (HCB.out _ G.out.f).mono ?_); rintro en w7 ⟨rfl, hd⟩; have G7 := aq (G.out.step hd); clear hd G za zb zk; have G := G7; clear G7; have zk := (bq G.out.b9 0).trans (show _ = some (.int .i64 _) from rfl); have za := (bq G.out.b9 1).trans (show _ = some (.int .i64 m.f1) from rfl); have zb := (bq G.out.b9 2).trans (show _ = some (.int .i64 m.f2) from rfl)))
          have G2 := aq (G.out.step (yX (Below.refl _ _)))
          clear G za zb zk HCA HCB
          refine xK (n := 19) (S := fun w' => w'.cell? ⟨W.heap.size, 0, none⟩ = some (.slice (some ⟨gN, 0, none⟩) nodes.length c) ∧ w'.cell? ⟨g9, 1, none⟩ = some (.int .i64 m.f1) ∧ w'.cell? ⟨g9, 2, none⟩ = some (.int .i64 m.f2) ∧ w'.cell? ⟨gN, m.f1.toNat * 22 + 6, none⟩ = some (.int .i64 va) ∧ w'.cell? ⟨gN, m.f2.toNat * 22 + 6, none⟩ = some (.int .i64 vb)) (ds := []) (msk 19 0) (by kernel_rfl) rfl rfl ⟨(bq G2.out.f.bx 0).trans rfl, (bq G2.out.b9 1).trans rfl, (bq G2.out.b9 2).trans rfl, CA.out _ G2.out.f.R, CB.out _ G2.out.f.R⟩ (fun hHeld => ?_); refine yO sa35.tab14 sa35.bits14 (fun HT_ HW_ => ?_)
          generalize w7.drew = w4 at G2 hHeld ⊢
          refine tU 0 60 (msk 19 1) HT_.out HW_.out hHeld ?_ ?_ ?_
          rotate_left
          · rintro w' ⟨s0, s1, s2, s3, s4⟩; go_simp; with_reducible rfl
          refine pU 1 61 (msk 19 3) HT_.out ?_
          refine tU 2 62 (msk 19 7) HT_.out HW_.out hHeld ?_ ?_ ?_
          rotate_left
          · rintro w' ⟨s0, s1, s2, s3, s4⟩; go_simp; with_reducible rfl
          refine pU 3 63 (msk 19 15) HT_.out ?_
          refine pU 4 64 (msk 19 31) HT_.out ?_
          refine pU 5 65 (msk 19 63) HT_.out ?_
          refine tU 6 66 (msk 19 127) HT_.out HW_.out hHeld ?_ ?_ ?_
          rotate_left
          · rintro w' ⟨s0, s1, s2, s3, s4⟩; go_simp; with_reducible rfl
          refine tU 7 67 (msk 19 255) HT_.out HW_.out hHeld ?_ ?_ ?_
          rotate_left
          · rintro w' ⟨s0, s1, s2, s3, s4⟩; go_simp; with_reducible rfl
          refine pU 8 68 (msk 19 511) HT_.out ?_
          refine tU 9 69 (msk 19 1023) HT_.out HW_.out hHeld ?_ ?_ ?_
          rotate_left
          · rintro w' ⟨s0, s1, s2, s3, s4⟩; go_simp; with_reducible rfl
          refine pU 10 70 (msk 19 2047) HT_.out ?_
          refine pU 11 71 (msk 19 4095) HT_.out ?_
          refine pU 12 72 (msk 19 8191) HT_.out ?_
          refine tU 13 73 (msk 19 16383) HT_.out HW_.out hHeld ?_ ?_ ?_
          rotate_left
          · rintro w' ⟨s0, s1, s2, s3, s4⟩; go_simp; with_reducible rfl
          refine pU 14 74 (msk 19 32767) HT_.out ?_
          refine pU 15 4 (msk 19 65535) HT_.out ?_
          refine pU 16 5 (msk 19 131071) HT_.out ?_
          refine pU 17 6 (msk 19 262143) HT_.out ?_
          refine pU 18 7 (msk 19 524287) HT_.out ?_
          refine wX (yG HT_.out (by kernel_rfl)) ?_
          go_wp2
          refine bodyPost_ret (v := .tuple #[.int .i64 va, .int .i64 vb, .int .i64 _, .bool true]) (by simp [results]; rfl) rfl ⟨by rw [HS.out]; rfl, G2.out.f.B⟩
      · have HS := aq (hS.trans (if_neg (fun h => hal h.2)))
        clear hS
        have hal2 : pa = false ∨ (pa = true ∧ pb = false) ∨ (pa = true ∧ pb = true ∧ m.f1 = m.f2) := by
          cases pa
          · exact .inl rfl
          · cases pb
            · exact .inr (.inl ⟨rfl, rfl⟩)
            · refine .inr (.inr ⟨rfl, rfl, ?_⟩)
              by_cases k : m.f1 = m.f2
              · exact k
              · exact absurd ⟨rfl, rfl, k⟩ hal
        clear hal CA CB
        rcases m34 with mk | mk
        all_goals
          rw [mk] at zk m2
          rcases hal2 with rfl | ⟨rfl, rfl⟩ | ⟨rfl, rfl, he⟩
          all_goals
            go_wp2_with (first | (go_at_call 60; (with_reducible refine (HCA.out _ G.out.f).mono ?_); rintro en w7 ⟨rfl, hd⟩; have G7 := aq (G.out.step hd); clear hd G za zb zk; have G := G7; clear G7; have zk := (bq G.out.b9 0).trans (show _ = some (.int .i64 _) from rfl); have za := (bq G.out.b9 1).trans (show _ = some (.int .i64 m.f1) from rfl); have zb := (bq G.out.b9 2).trans (show _ = some (.int .i64 m.f2) from rfl)) | (go_at_call 60; (with_reducible refine (HCB.out _ G.out.f).mono ?_); rintro en w7 ⟨rfl, hd⟩; have G7 := aq (G.out.step hd); clear hd G za zb zk; have G := G7; clear G7; have zk := (bq G.out.b9 0).trans (show _ = some (.int .i64 _) from rfl); have za := (bq G.out.b9 1).trans (show _ = some (.int .i64 m.f1) from rfl); have zb := (bq G.out.b9 2).trans (show _ = some (.int .i64 m.f2) from rfl)))
            refine bodyPost_ret (v := .tuple #[.int .i64 0, .int .i64 0, .int .i64 0, .bool false]) (by simp [results]) rfl ⟨by rw [HS.out]; rfl, G.out.f.B⟩
    · have HS := aq (hS.trans (if_neg (fun h => m34 h.1)))
      have m4 : ¬ m.f0 = 4 := fun h => m34 (.inl h)
      have m3 : ¬ m.f0 = 3 := fun h => m34 (.inr h)
      clear hS m34 HCL HOPS HM
      go_wp2
      refine bodyPost_ret (v := .tuple #[.int .i64 0, .int .i64 0, .int .i64 0, .bool false]) (by simp [results]) rfl ⟨by rw [HS.out]; rfl, G.out.f.B⟩
structure AdF (base : Nat) (ok : Nat → Prop) (go : Nat) (w0 W : World) (L : List S37) (V : World) : Prop where
  bx : ∃ v, V.heap[go]? = some (.cells #[v] 22 (0, 0)) ∧ Kd.R k37 37 V base ok v L
  B : Below base w0 V
  keepT : ∀ (k : Nat) (cells : Array Value) (t : Nat), W.heap[k]? = some (.cells cells t (0, 0)) → t ≠ 37 → t ≠ 22 → V.heap[k]? = some (.cells cells t (0, 0))
  keepO : ∀ (k : Nat) (o : Obj), W.heap[k]? = some o → ¬ ok k → k ≠ go → V.heap[k]? = some o
  size : W.heap.size ≤ V.heap.size
theorem add62 {base : Nat} {ok : Nat → Prop} (w0 : World) (x : S37) (L : List S37) (go : Nat) (v : Value) (W : World) (hx : W.heap[go]? = some (.cells #[v] 22 (0, 0))) (hR : Kd.R k37 37 W base ok v L) (hB : Below base w0 W) (hbs : base ≤ W.heap.size) (hgo : base ≤ go) (hok : ∀ k, W.heap.size ≤ k → ok k) (hl : L.length < 4000) :
    Calls Try.prog 62 #[.agg (zC x), .pointer (some ⟨go, 0, none⟩)] W fun e V => e = .returned (.int .i64 (L.length : Int)) ∧ AdF base ok go w0 W (L ++ [x]) V := by
  obtain ⟨A, c, rfl⟩ := Kd.yT hR
  have z0 := (bq (zM hx (.cells (zC x) 37)) 0).trans (show _ = some (.slice A L.length c) from rfl)
  have q0 := bf_ (zM hx (.cells (zC x) 37)) 0
  have HX := aq hx
  have HR := aq hR
  have HB := aq hB
  clear hx hR hB
  have GO := aq hgo
  have OK := aq hok
  have hlx := heap_alloc_last W (.cells (zC x) 37)
  have HLX := aq hlx
  have HL := aq hl
  have HBS := aq hbs
  clear hlx hgo hok hl hbs
  go_enter Try.func62, Try.ntmps62
  go_wp2_with (first | ((with_reducible refine gD (N := 5) rfl ?_); (with_reducible refine yY 37 ?_); refine uT (g := W.heap.size) (x := x) rfl HLX.out ?_) | ((with_reducible refine gD (N := 6) rfl ?_); refine Kd.xW rfl (vT (x := x) rfl) ?_) | ((with_reducible refine zA (b := .append) (xs := #[.tmp 4, .tmp 6]) rfl ?_); at_builtin; refine Kd.xY k37 (w0 := w0) base rfl (.tmp 4) (.tmp 6) 22 37 _ 176 rfl Try.underlying22 pF rfl (by decide) (by omega) _ L x (wY x) ok (fun _ => False) rfl rfl ?aP (fun _ hk => hk.elim) ?aF ?aO ?aB ?aS ?aL ?_; (case aP => exact rB _ _ _ x); (case aB => exact HB.out.trans ((zY (Below.refl W.heap.size W) _).mono HBS.out)); (case aF => exact fun k hk => OK.out k (by simp at hk; omega)); (case aO => exact Kd.tV HR.out _); (case aS => have := HBS.out; simp; omega); (case aL => have := HL.out; omega); intro v1 w9 ho hb hg hat; obtain ⟨A1, c1, e1⟩ := Kd.yT ho; subst e1; have HO := aq ho; have HB9 := aq hb; have HG := aq (show (W.alloc (.cells (zC x) 37)).grownBy w9 (Value.slice A L.length c).ownBlock from hg); have hx9 := zK (zM HX.out (.cells (zC x) 37)) hg (Kd.uX HR.out HX.out (by decide)); have HX9 := aq hx9; clear ho hb hg hat z0 q0; have z0 := (bq hx9 0).trans (show _ = some (.slice A L.length c) from rfl); have q0 := bf_ hx9 0; clear hx9))
  have hw : wrap64 (L.length : Int) = (L.length : Int) := by unfold wrap64; have := HL.out; omega
  rw [hw]
  have hle : (L ++ [x]).length = L.length + 1 := by simp
  rw [hle] at HO
  refine bodyPost_ret (results_tmp rfl _ _ _) rfl ⟨rfl, ⟨_, yP HX9.out 0 _, Kd.vW HO.out HX9.out (by decide) 0 _⟩, HB9.out.trans ((zR w9 ⟨go, 0, none⟩ _).below GO.out), fun k cells t hk h37 h22 => ?_, fun k o hk hno hgo => ?_, ?_⟩
  · refine (zR w9 ⟨go, 0, none⟩ _).blk (zK (zM hk _) HG.out (fun e => ?_)) (fun e => ?_)
    · obtain ⟨cs, hcs⟩ := Kd.tW HR.out k e.symm
      rw [hk] at hcs
      injection hcs with hcs
      injection hcs with _ ht
      exact h37 ht
    · have e : k = go := e
      subst e
      have hcs := HX.out
      rw [hk] at hcs
      injection hcs with hcs
      injection hcs with _ ht
      exact h22 ht
  · exact (zR w9 ⟨go, 0, none⟩ _).blk (zK (zM hk _) HG.out (fun e => hno (HR.out.1 k e.symm))) hgo
  · have h1 := HG.out.size
    have h2 := (zR w9 ⟨go, 0, none⟩ (.slice A1 (L.length + 1) c1)).size
    rw [show (W.alloc (.cells (zC x) 37)).heap.size = W.heap.size + 1 by simp] at h1
    omega
def pu37.T7 : Bool × List (List Nat × List Nat) := (true, [([], []), ([], []), ([1], [1]), ([0, 2], [0, 2]), ([3], [3]), ([], []), ([], []), ([6], [6]), ([5, 7], [5, 7]), ([8], [8]), ([0, 1, 2, 3, 4, 6, 7], []), ([10, 4, 0, 1, 2, 3, 4, 6, 7], [4, 10]), ([0, 1, 2, 3, 4, 5, 6, 7, 8, 9, 10, 11], []), ([12, 9, 11, 0, 1, 2, 3, 4, 5, 6, 7, 8, 9, 10, 11], [9, 12])])
def pu37.B7 : List Nat := [0, 0, 2, 7, 15, 0, 0, 64, 224, 480, 223, 1247, 4095, 8191]
theorem pu37.tab7 : wD .any (opsOf Try.f37 7) = pu37.T7 := by kernel_rfl
theorem pu37.bits7 : xR pu37.T7.2 pu37.B7 = true := by kernel_rfl
structure PuF (Av : Option Addr) (n cv go : Nat) (w : World) (st : List S37 × List Int) (V : World) : Prop where
  bx : ∃ v, V.heap[go]? = some (.cells #[v] 22 (0, 0)) ∧ Kd.R k37 37 V w.heap.size (fun _ => True) v st.1
  tv : Kd.R (Kd.int .i64) 3 V w.heap.size (fun _ => True) (.slice Av n cv) st.2
  B : Below w.heap.size w V
  ge : w.heap.size ≤ go
structure PuI (Av : Option Addr) (n cv go : Nat) (w : World) (st : List S37 × List Int) (x : S37) (gn : Nat) (V : World) : Prop where
  bx : ∃ v, V.heap[go]? = some (.cells #[v] 22 (0, 0)) ∧ Kd.R k37 37 V w.heap.size (fun k => k ≠ gn) v st.1
  tv : Kd.R (Kd.int .i64) 3 V w.heap.size (fun _ => True) (.slice Av n cv) st.2
  B : Below w.heap.size w V
  ge : w.heap.size ≤ go
  box : V.heap[gn]? = some (.cells (zC x) 37 (0, 0))
  gen : w.heap.size ≤ gn
section
variable {Av : Option Addr} {n cv go : Nat} {w : World} {st : List S37 × List Int} {x : S37} {gn : Nat} {V V' : World}
theorem PuI.ne (h : PuI Av n cv go w st x gn V) : gn ≠ go := by
  obtain ⟨v, hv, _⟩ := h.bx
  intro e
  have := h.box
  rw [e, hv] at this
  injection this with this
  injection this with _ t
  exact absurd t (by decide)
theorem PuF.step (h : PuF Av n cv go w st V) (hd : Below V.heap.size V V') : PuF Av n cv go w st V' := by
  obtain ⟨v, hv, hr⟩ := h.bx
  exact ⟨⟨v, bb_ hv hd, Kd.zL hr hd⟩, Kd.zL h.tv hd, bt_ h.B hd, h.ge⟩
theorem PuI.step (h : PuI Av n cv go w st x gn V) (hd : Below V.heap.size V V') : PuI Av n cv go w st x gn V' := by
  obtain ⟨v, hv, hr⟩ := h.bx
  exact ⟨⟨v, bb_ hv hd, Kd.zL hr hd⟩, Kd.zL h.tv hd, bt_ h.B hd, h.ge, bb_ h.box hd, h.gen⟩
theorem PuI.start (h : PuF Av n cv go w st V) (hd : Below V.heap.size V V') (hg : V.heap.size ≤ gn) (hb : V'.heap[gn]? = some (.cells (zC x) 37 (0, 0))) : PuI Av n cv go w st x gn V' := by
  obtain ⟨v, hv, hr⟩ := h.bx
  exact ⟨⟨v, bb_ hv hd, Kd.zL (Kd.xF (Kd.uP hr) (fun k hk => by have := hk.2.2.1; show k ≠ gn; omega)) hd⟩, Kd.zL h.tv hd, bt_ h.B hd, h.ge, hb, Nat.le_trans h.B.size hg⟩
theorem PuI.set {y : S37} (h : PuI Av n cv go w st x gn V) (j : Nat) (u : Value) (hy : (zC x).setIfInBounds j u = zC y) : PuI Av n cv go w st y gn (V.setCell ⟨gn, j, none⟩ u) := by
  obtain ⟨v, hv, hr⟩ := h.bx
  exact ⟨⟨v, (zR V ⟨gn, j, none⟩ u).blk hv (Ne.symm h.ne), Kd.R_far hr (fun k hk => hk) u⟩, Kd.vW h.tv h.box (by decide) j u, bs_ h.B h.gen, h.ge, by rw [← hy]; exact yP h.box j u, h.gen⟩
theorem PuI.put {gv : Nat} (h : PuI (some ⟨gv, 0, none⟩) n cv go w st x gn V) (j i : Int) : PuI (some ⟨gv, 0, none⟩) n cv go w (st.1, st.2.set j.toNat i) x gn (V.setCell ⟨gv, j.toNat, none⟩ (.int .i64 i)) := by
  obtain ⟨cells, ht⟩ := Kd.tW h.tv gv rfl
  obtain ⟨v, hv, hr⟩ := h.bx
  exact ⟨⟨v, (Below.heap_setCell V ⟨gv, j.toNat, none⟩ _ go (rN hv ht (by decide))).trans hv, Kd.vW hr ht (by decide) _ _⟩, (Kd.R_putg h.tv j i).1, bs_ h.B (Kd.oO h.tv gv rfl), h.ge, (Below.heap_setCell V ⟨gv, j.toNat, none⟩ _ gn (rN h.box ht (by decide))).trans h.box, h.gen⟩
theorem PuI.add {L' : List S37} (h : PuI Av n cv go w st x gn V) (ha : AdF w.heap.size (fun k => k ≠ gn) go w V L' V') : PuI Av n cv go w (L', st.2) x gn V' :=
  ⟨ha.bx, Kd.R_move (Kd.xF (Kd.uP h.tv) (fun k hk => hk.2.2.2)) (fun k hk => by
    obtain ⟨q, hq, cells, hc⟩ := hk
    have e : q = 3 := by simpa [Kd.int, Kd.scalar] using hq
    subst e
    rw [hc]
    exact ha.keepT k cells 3 hc (by decide) (by decide)) |> (Kd.xF · (fun _ _ => trivial)), ha.B, h.ge, ha.keepO gn _ h.box (fun hh => hh rfl) h.ne, h.gen⟩
theorem PuI.done (h : PuI Av n cv go w st x gn V) : PuF Av n cv go w st V := by
  obtain ⟨v, hv, hr⟩ := h.bx
  exact ⟨⟨v, hv, Kd.xF hr (fun _ _ => trivial)⟩, h.tv, h.B, h.ge⟩
theorem PuI.call (h : PuI Av n cv go w st x gn V) (hl : st.1.length < 4000) (y : S37) : Calls Try.prog 62 #[.agg (zC y), .pointer (some ⟨go, 0, none⟩)] V fun e V' => e = .returned (.int .i64 (st.1.length : Int)) ∧ PuI Av n cv go w (st.1 ++ [y], st.2) x gn V' ∧ ∀ (k : Nat) (cells : Array Value), V.heap[k]? = some (.cells cells 53 (0, 0)) → V'.heap[k]? = some (.cells cells 53 (0, 0)) := by
  obtain ⟨v, hv, hr⟩ := h.bx
  refine (add62 (base := w.heap.size) (ok := fun k => k ≠ gn) w y st.1 go v V hv hr h.B h.B.size h.ge (fun k hk => by have := zN h.box; show k ≠ gn; omega) hl).mono ?_
  rintro e V' ⟨rfl, ha⟩
  exact ⟨rfl, h.add ha, fun k cells hk => ha.keepT k cells 53 hk (by decide) (by decide)⟩
end
theorem en62 (args : Array Value) (w : World) : (callFunc 62 args).run Try.prog w = .ok (.enter 62 args) w := enters_of Try.func62 (by kernel_rfl) rfl args w
theorem pRun_succ (nodes : List S37) (l : List S32) (k : Nat) : rP nodes l (k + 1) = putS l (rP nodes l k) k (rT nodes (k : Int)) := rfl
structure PutOKs (nodes : List S37) (l : List S32) : Prop where
  f1 : ∀ i : Int, 0 ≤ i → i < (nodes.length : Int) → 0 ≤ (rT nodes i).f1 ∧ (rT nodes i).f1 < (nodes.length : Int)
  f2 : ∀ i : Int, 0 ≤ i → i < (nodes.length : Int) → 0 ≤ (rT nodes i).f2 ∧ (rT nodes i).f2 < (nodes.length : Int)
  v : ∀ i : Int, 0 ≤ i → i < (nodes.length : Int) → (rT nodes i).f0 = 2 → 0 ≤ (rT nodes i).f5.f0 ∧ (rT nodes i).f5.f0 < (l.length : Int)
theorem putS_len {l : List S32} {st : List S37 × List Int} {k : Nat} {x : S37} : (putS l st k x).2.length = st.2.length ∧ (putS l st k x).1.length ≤ st.1.length + 2 := by
  unfold putS
  split
  · simp
  · split
    · simp
    · split <;> simp
theorem pRun_len (nodes : List S37) (l : List S32) (k : Nat) : (rP nodes l k).2.length = nodes.length ∧ (rP nodes l k).1.length ≤ 2 * k := by
  induction k with
  | zero => simp [rP]
  | succ k ih =>
    rw [pRun_succ]
    have := @putS_len l (rP nodes l k) k (rT nodes (k : Int))
    omega
theorem put37 {base bn : Nat} {ok okn : Nat → Prop} (nodes : List S37) (eqs : List Int) (l : List S32) (A : Option Addr) (c : Nat) (A1 : Option Addr) (c1 : Nat) (A2 : Option Addr) (c2 : Nat) (w : World) (hC : Kd.R k37 37 w bn okn (.slice A nodes.length c) nodes) (hE : Kd.C (Kd.int .i64) w A1 eqs.length eqs) (hc1 : eqs.length ≤ c1) (hR : Kd.R k32 53 w base ok (.slice A2 l.length c2) l) (hf : FOK l) (hp : PutOKs nodes l) (he : ∀ e ∈ eqs, 0 ≤ e ∧ e < (nodes.length : Int)) (hl4 : nodes.length ≤ 1900) (hel : eqs.length ≤ 17592186044416) :
    Calls Try.prog 37 #[.slice A nodes.length c, .slice A1 eqs.length c1, .slice A2 l.length c2] w fun e w' => ∃ vo vr, e = .returned (.tuple #[vo, vr]) ∧ Kd.R k37 37 w' w.heap.size (fun _ => True) vo (putA nodes l).1 ∧ Kd.R (Kd.int .i64) 3 w' w.heap.size (fun _ => True) vr (eqs.map (rd (putA nodes l).2)) ∧ Below w.heap.size w w' := by
  have hu37 := Try.underlying37
  have hE62 := en62
  have HLEN := aq hl4
  have HC := aq hC
  have HE := aq hE
  have HR := aq hR
  have HF := aq hf
  have HP := aq hp
  have HEQ := aq he
  have HEL := aq hel
  have HRL := aq (fun k => pRun_len nodes l k)
  clear hC hE hR hl4 hf hp he hel
  go_enter Try.func37, Try.ntmps37
  go_wp2_with (first | ((with_reducible refine gD (N := 19) rfl ?_); refine Kd.R_make (Kd.int .i64) (w0 := w) w.heap.size 3 rfl (N := 19) rfl 23 _ _ rfl (nodes.length : Int) rfl rfl Try.underlying23 (.int .i64 0) 8 sV rfl (by decide) (by omega) 0 (ok := fun _ => True) (okp := fun _ => True) rfl (fun _ hk => hk) trivial (by omega) (by rw [Int.toNat_natCast]; have := HLEN.out; omega) ?hb0 ?hs0 ?_; (case hb0 => exact zY (Below.refl _ _) _); (case hs0 => simp); intro v3 w3 hr3 hb3 hg_ hnew_; rw [Int.toNat_natCast] at hr3; obtain ⟨Av, cv, ev⟩ := Kd.yT hr3; subst ev; rw [List.length_replicate] at hr3 ⊢; have HT := aq hr3; have HB := aq hb3; have HG := aq hg_; clear hr3 hb3 hg_ hnew_))
  have HRES := aq (show putA nodes l = rP nodes l nodes.length from rfl)
  have H0 := aq (show PuF Av nodes.length cv w.heap.size w (rP nodes l 0) w3 from ⟨⟨.slice none 0 0, zK (heap_alloc_last w _) HG.out (by simp), Kd.rK _ _ _ _ _⟩, HT.out, HB.out, Nat.le_refl _⟩)
  clear HT HB HG
  go_loopw [23] (fun i wr => ∃ (j : Int), 0 ≤ j ∧ j ≤ (nodes.length : Int) ∧ i = .int .i64 j ∧ zT (PuF Av nodes.length cv w.heap.size w (rP nodes l j.toNat) wr)) (fun i _ => nodes.length - (intOf i).toNat)
  case atStart => exact ⟨0, Int.le_refl _, by omega, rfl, H0⟩
  case round =>
    obtain ⟨j, j0, j1, rfl, H⟩ := hrel
    clear H0
    by_cases hlt : j < (nodes.length : Int)
    · have hsu := pRun_succ nodes l j.toNat
      have hjn : ((j.toNat : Nat) : Int) = j := by omega
      rw [hjn] at hsu
      have HW := aq (show wrap64 (j + 1) = j + 1 by unfold wrap64; have := HLEN.out; omega)
      have fin : ∀ (V : World) (st' : List S37 × List Int), rP nodes l (j.toNat + 1) = st' → PuF Av nodes.length cv w.heap.size w st' V →
          (∃ (j_1 : Int), 0 ≤ j_1 ∧ j_1 ≤ (nodes.length : Int) ∧ (Value.int .i64 (wrap64 (j + 1))) = .int .i64 j_1 ∧ zT (PuF Av nodes.length cv w.heap.size w (rP nodes l j_1.toNat) V)) ∧ nodes.length - (intOf (.int .i64 (wrap64 (j + 1)))).toNat < nodes.length - (intOf (.int .i64 j)).toNat := fun V st' hs h => by
        have hw := HW.out
        subst hs
        rw [hw]
        refine ⟨⟨j + 1, by omega, by omega, rfl, ?_⟩, ?_⟩
        · rw [show (j + 1).toNat = j.toNat + 1 by omega]; exact ⟨h⟩
        · simp only [intOf]; omega
      obtain ⟨hrl1, hrl2⟩ := HRL.out j.toNat
      have hops1 := HP.out.f1 j j0 hlt
      have hops2 := HP.out.f2 j j0 hlt
      have hopsv := HP.out.v j j0 hlt
      have HLN := aq (show (rP nodes l j.toNat).1.length + 2 < 4000 by have := HLEN.out; omega)
      generalize rP nodes l j.toNat = st at H hsu hrl1 HLN
      obtain ⟨gv, _, ev, _⟩ := Kd.uK H.out.tv (by rw [hrl1]; omega)
      injection ev with ev e2 e3
      clear e2 e3
      subst ev
      have FIN := aq fin
      have HJ := aq j0
      have HLT := aq hlt
      obtain ⟨gN, eA, hnd⟩ := nd_load (Kd.zL HC.out H.out.B) j j0 hlt
      subst eA
      have HND := aq hnd
      have HOV := aq hopsv
      have HO1 := aq hops1
      have HO2 := aq hops2
      have HSU := aq hsu
      have HTL := aq hrl1
      generalize rT nodes j = x at HND HSU HOV HO1 HO2
      clear fin HW j1 hjn hnd hopsv hops1 hops2 hsu hrl1 hrl2
      have r0 := HO1.out.1
      have r1 := HO1.out.2
      have r2 := HO2.out.1
      have r3 := HO2.out.2
      go_upto_region 7 with (first | ((with_reducible refine yY 37 ?_); refine xC (t := 37) (cs := wY x) rfl (by kernel_rfl) (by kernel_rfl) HND.out ?_) | ((with_reducible refine gD (N := 12) rfl ?_); refine bE ?hg (N := 12) ?hd (cs := zC z37) (t := 37) ?hr ?_; (case hd => rfl); (case hg => rfl); (case hr => first | (go_simp; done) | (go_simp; rfl)); intro gn hgn w5 hbox hb; have HX := aq hbox; have HB5 := aq hb; have GN := aq (show wr.heap.size ≤ gn by rw [hgn]; exact Nat.le_refl _); clear hbox hb hgn) | ((with_reducible refine xN 12 ?_); refine wV (g := gn) (x := x) rfl rfl HX.out (xX _) ?_; intro w6 hx6 h6; have T := aq (PuI.start H.out (HB5.out.trans (h6.below GN.out)) GN.out hx6); clear hx6 h6 HX HB5 GN))
      have CA := aq (fun (V : World) (h : Kd.R (Kd.int .i64) 3 V w.heap.size (fun _ => True) (.slice (some ⟨gv, 0, none⟩) nodes.length cv) st.2) => (Kd.yZ 0 h x.f1 r0 r1).1.trans (show _ = some (.int .i64 (rd st.2 x.f1)) from rfl))
      have CB := aq (fun (V : World) (h : Kd.R (Kd.int .i64) 3 V w.heap.size (fun _ => True) (.slice (some ⟨gv, 0, none⟩) nodes.length cv) st.2) => (Kd.yZ 0 h x.f2 r2 r3).1.trans (show _ = some (.int .i64 (rd st.2 x.f2)) from rfl))
      obtain ⟨ra, hra⟩ : ∃ r, rd st.2 x.f1 = r := ⟨_, rfl⟩
      obtain ⟨rb, hrb⟩ : ∃ r, rd st.2 x.f2 = r := ⟨_, rfl⟩
      rw [hra] at CA
      rw [hrb] at CB
      have HRA := aq hra
      have HRB := aq hrb
      clear hra hrb
      have T2 := aq (T.out.step (yX (Below.refl _ _)))
      clear T HND
      refine xK (n := 14) (S := fun w' => w'.cell? ⟨gn, 2, none⟩ = some (.int .i64 x.f2) ∧ w'.cell? ⟨gv, x.f1.toNat, none⟩ = some (.int .i64 ra) ∧ w'.cell? ⟨gv, x.f2.toNat, none⟩ = some (.int .i64 rb)) (ds := [13]) (msk 14 0) (by kernel_rfl) rfl rfl ⟨(bq T2.out.box 2).trans rfl, CA.out _ T2.out.tv, CB.out _ T2.out.tv⟩ (fun hHeld => ?_); refine yO pu37.tab7 pu37.bits7 (fun HT_ HW_ => ?_)
      generalize w6.drew = w7 at T2 hHeld ⊢
      refine pU 0 28 (msk 14 1) HT_.out ?_
      refine pU 1 29 (msk 14 3) HT_.out ?_
      refine pU 5 33 (msk 14 35) HT_.out ?_
      refine pU 6 34 (msk 14 99) HT_.out ?_
      refine tU 7 35 (msk 14 227) HT_.out HW_.out hHeld ?_ ?_ ?_
      rotate_left
      · rintro w' ⟨s0, s1, s2⟩; go_simp; with_reducible rfl
      refine pU 8 36 (msk 14 483) HT_.out ?_
      refine tU 9 37 (msk 14 995) HT_.out HW_.out hHeld ?_ ?_ ?_
      rotate_left
      · rintro w' ⟨s0, s1, s2⟩; go_simp; with_reducible rfl
      refine wW (i := 2) (N := some 30) (msk 14 999) rfl rfl (zG HT_.out (by kernel_rfl)) (by decide) (fun K hK => ?_)
      have z1 := (bq T2.out.box 1).trans (show _ = some (.int .i64 x.f1) from rfl)
      refine sH (v := .int .i64 x.f1) (w1 := w7) (by rfl) rfl (by go_simp; try rfl) ?_
      clear z1
      refine hK.out _ _ hHeld (fun _ => ?_)
      clear hK K
      refine xV (a' := ?_) ?_ ?_
      rotate_left
      · show Act.put _ (some 30) _ = _
        simp only [Act.put, sq, iw, jw]
        rfl
      refine pU 3 31 (msk 14 1007) HT_.out ?_
      refine tU 4 32 (msk 14 1023) HT_.out HW_.out hHeld ?_ ?_ ?_
      rotate_left
      · rintro w' ⟨s0, s1, s2⟩; go_simp; with_reducible rfl
      refine pU 10 38 (msk 14 2047) HT_.out ?_
      refine wW (i := 11) (N := none) (msk 14 4095) rfl rfl (zG HT_.out (by kernel_rfl)) (by decide) (fun K hK => ?_)
      have z := (bq T2.out.box 1).trans (show _ = some (.int .i64 x.f1) from rfl)
      have f := bf_ T2.out.box 1
      refine sZ (w1 := w7.setCell ⟨gn, 1, none⟩ (.int .i64 ra)) (by rfl) rfl ?_ ?_
      · go_simp
        try rfl
      clear z f
      have T3 := aq (T2.out.set 1 (.int .i64 ra) (y := { x with f1 := ra }) rfl)
      generalize w7.setCell ⟨gn, 1, none⟩ (.int .i64 ra) = w8 at T3 ⊢
      clear T2 hHeld
      refine hK.out _ _ ⟨(bq T3.out.box 2).trans rfl, CA.out _ T3.out.tv, CB.out _ T3.out.tv⟩ (fun hHeld => ?_)
      clear hK K
      refine pU 12 39 (msk 14 8191) HT_.out ?_
      refine uB (i := 13) (N := none) (msk 14 16383) rfl rfl (zG HT_.out (by kernel_rfl)) (by decide) (fun K hK => ?_)
      have z := (bq T3.out.box 2).trans (show _ = some (.int .i64 x.f2) from rfl)
      have f := bf_ T3.out.box 2
      refine sZ (w1 := w8.setCell ⟨gn, 2, none⟩ (.int .i64 rb)) (by rfl) rfl ?_ ?_
      · go_simp
        try rfl
      clear z f
      have T4 := aq (T3.out.set 2 (.int .i64 rb) (y := { x with f1 := ra, f2 := rb }) rfl)
      generalize w8.setCell ⟨gn, 2, none⟩ (.int .i64 rb) = w9 at T4 ⊢
      clear T3 hHeld
      refine hK.out _ _ ?_
      clear hK K
      refine wX (yG HT_.out (by kernel_rfl)) ?_
      have zk := (bq T4.out.box 0).trans (show _ = some (.int .i64 x.f0) from rfl)
      have d0 := eq_true HJ.out
      have d1 := eq_true HLT.out
      by_cases hk : x.f0 = 2
      · obtain ⟨o0, o1⟩ := HOV.out hk
        have z6 := (bq T4.out.box 6).trans (show _ = some (.int .i64 x.f5.f0) from rfl)
        have HOF := aq (fun (V : World) (h : Below w.heap.size w V) => of61 l A2 c2 V (Kd.zL HR.out h) HF.out x.f5.f0 o0 o1)
        have hsu := HSU.out
        unfold putS at hsu
        rw [if_neg (fun h => h hk)] at hsu
        obtain ⟨a, ha⟩ : ∃ a, ofA l x.f5.f0 = a := ⟨_, rfl⟩
        rw [ha] at HOF hsu
        obtain ⟨a0, a1⟩ := a
        have HSU2 := aq hsu
        clear hsu HSU ha o0 o1
        go_upto_region 11 with (first | (go_at_call 61; refine (HOF.out _ T4.out.B).mono ?_; rintro e w10 ⟨rfl, hd⟩; have T5 := aq (T4.out.step hd); clear T4 HOF hd z6 zk; have T4 := T5; clear T5; simp only [aA]))
        have T5 := aq (T4.out.step (zY (Below.refl _ _) (.cells #[.int .i64 a0, .int .i64 a1] 53)))
        have B13 := aq (heap_alloc_last w10 (.cells #[.int .i64 a0, .int .i64 a1] 53))
        clear T4
        have T4 := T5
        clear T5
        generalize w10.alloc (.cells #[.int .i64 a0, .int .i64 a1] 53) = w11 at T4 B13 ⊢
        generalize w10.heap.size = g13 at B13 ⊢
        have y1 := (bq B13.out 1).trans (show _ = some (.int .i64 a1) from rfl)
        by_cases hs0 : a1 = 0
        · have HS := aq (show rP nodes l (j.toNat + 1) = (st.1 ++ [vP ⟨0, 1⟩], st.2.set j.toNat (st.1.length : Int)) by rw [HSU2.out, if_pos hs0])
          clear HSU2
          go_wp2_with (first | (go_at_call 41; refine (plain41 _).mono ?_; rintro e w13 ⟨rfl, hd⟩; have T5 := aq (T4.out.step hd); clear T4; have T4 := T5; clear T5; have B5 := aq (bb_ B13.out hd); clear B13 hd; have B13 := B5; clear B5) | (go_at_call 62; refine (T4.out.call (by have := HLN.out; first | omega | (simp; omega)) (vP ⟨0, 1⟩)).mono ?_; rintro e w12 ⟨rfl, ha, hb⟩; have T5 := aq ha; clear T4; have T4 := T5; clear T5 ha; have B5 := aq (hb _ _ B13.out); clear B13 hb; have B13 := B5; clear B5; have z9 := (Kd.yZ 0 T4.out.tv j HJ.out HLT.out).1; have f9 := (Kd.yZ 0 T4.out.tv j HJ.out HLT.out).2))
          exact FIN.out _ _ HS.out (T4.out.put j _).done
        · have y0 := (bq B13.out 0).trans (show _ = some (.int .i64 a0) from rfl)
          have z7 := (bq T4.out.box 7).trans (show _ = some (.int .i64 x.f5.f1) from rfl)
          go_upto_region 13 with (first | (go_at_call 62; refine (T4.out.call (by have := HLN.out; first | omega | (simp; omega)) (xU ⟨a0, x.f5.f1⟩)).mono ?_; rintro e w12 ⟨rfl, ha, hb⟩; have T5 := aq ha; clear T4; have T4 := T5; clear T5 ha; have B5 := aq (hb _ _ B13.out); clear B13 hb; have B13 := B5; clear B5; have z9 := (Kd.yZ 0 T4.out.tv j HJ.out HLT.out).1; have f9 := (Kd.yZ 0 T4.out.tv j HJ.out HLT.out).2))
          have T5 := aq (T4.out.put j (st.1.length : Int))
          obtain ⟨ct, hct⟩ := Kd.tW T4.out.tv gv rfl
          have B5 := aq ((Below.heap_setCell w12 ⟨gv, j.toNat, none⟩ (.int .i64 (st.1.length : Int)) g13 (rN B13.out hct (by decide))).trans B13.out)
          clear T4 B13 hct y0 y1 z7 z9 f9
          have T4 := T5
          have B13 := B5
          clear T5 B5
          generalize w12.setCell ⟨gv, j.toNat, none⟩ (.int .i64 (st.1.length : Int)) = w14 at T4 B13 ⊢
          have y1 := (bq B13.out 1).trans (show _ = some (.int .i64 a1) from rfl)
          by_cases hs1 : a1 < 0
          · have HS := aq (show rP nodes l (j.toNat + 1) = (st.1 ++ [xU ⟨a0, x.f5.f1⟩] ++ [nodeH 7 (st.1.length : Int) 0], (st.2.set j.toNat (st.1.length : Int)).set j.toNat (((st.1 ++ [xU ⟨a0, x.f5.f1⟩]).length : Nat) : Int)) by
              rw [HSU2.out, if_neg hs0, if_pos hs1, List.append_assoc, List.set_set, List.length_append]; rfl)
            clear HSU2
            have zt := (Kd.yZ 0 T4.out.tv j HJ.out HLT.out).1.trans (show _ = some (.int .i64 (st.1.length : Int)) by
              rw [show zJ 0 (st.2.set j.toNat (st.1.length : Int)) j = (st.1.length : Int) by
                have := sG (l := st.2) (i := j.toNat) (by rw [HTL.out]; have := HJ.out; have := HLT.out; omega) (st.1.length : Int)
                rw [show ((j.toNat : Nat) : Int) = j by have := HJ.out; omega] at this
                exact this])
            go_wp2_with (first | (go_at_call 62; refine (T4.out.call (by have := HLN.out; simp only [List.length_append, List.length_singleton]; omega) (nodeH 7 (st.1.length : Int) 0)).mono ?_; rintro e w12 ⟨rfl, ha, _⟩; have T5 := aq ha; clear T4; have T4 := T5; clear T5 ha; have z9 := (Kd.yZ 0 T4.out.tv j HJ.out HLT.out).1; have f9 := (Kd.yZ 0 T4.out.tv j HJ.out HLT.out).2))
            exact FIN.out _ _ HS.out (by
              have := (T4.out.put j (((st.1 ++ [xU ⟨a0, x.f5.f1⟩]).length : Nat) : Int)).done
              simpa using this)
          · have HS := aq (show rP nodes l (j.toNat + 1) = (st.1 ++ [xU ⟨a0, x.f5.f1⟩], st.2.set j.toNat (st.1.length : Int)) by rw [HSU2.out, if_neg hs0, if_neg hs1])
            clear HSU2
            go_wp2
            exact FIN.out _ _ HS.out T4.out.done
      · have HS := aq (show rP nodes l (j.toNat + 1) = (st.1 ++ [{ x with f1 := ra, f2 := rb }], st.2.set j.toNat (st.1.length : Int)) by rw [HSU.out]; unfold putS; rw [if_pos hk, HRA.out, HRB.out])
        clear HSU
        go_wp2_with (first | ((with_reducible refine gD (N := 46) rfl ?_); (with_reducible refine yY 37 ?_); refine uT (g := gn) (x := { x with f1 := ra, f2 := rb }) rfl T4.out.box ?_) | (go_at_call 62; refine (T4.out.call (by have := HLN.out; omega) { x with f1 := ra, f2 := rb }).mono ?_; rintro e w10 ⟨rfl, ha, _⟩; have T5 := aq ha; clear ha T4; have T4 := T5; clear T5; have z9 := (Kd.yZ 0 T4.out.tv j HJ.out HLT.out).1; have f9 := (Kd.yZ 0 T4.out.tv j HJ.out HLT.out).2))
        exact FIN.out _ _ HS.out (T4.out.put j _).done
    · obtain rfl : j = (nodes.length : Int) := by omega
      rw [Int.toNat_natCast, ← HRES.out] at H
      have d1 := eq_false (show ¬ (nodes.length : Int) < (nodes.length : Int) by omega)
      have htl : (putA nodes l).2.length = nodes.length := (HRL.out nodes.length).1
      obtain ⟨v, hv, hr⟩ := H.out.bx
      have HV := aq hv
      have HRV := aq hr
      have HTV := aq H.out.tv
      have HBW := aq H.out.B
      obtain ⟨res, hres⟩ : ∃ r, putA nodes l = r := ⟨_, rfl⟩
      rw [hres] at HRV HTV htl
      have HPU := aq hres
      clear hres
      have HTL := aq htl
      clear hlt j0 j1 H HRL HC HR HF HP HRES hv hr htl
      go_wp2
      rename World => w1
      have H0 := aq (Kd.rK (Kd.int .i64) 3 w1 w1.heap.size (fun _ => True))
      have HBR := aq (Below.refl w1.heap.size w1)
      go_loopw [14, 94] (fun v14 i w' => ∃ (q : Int), 0 ≤ q ∧ q ≤ (eqs.length : Int) ∧ i = .int .i64 q ∧ zT (Kd.R (Kd.int .i64) 3 w' w1.heap.size (fun _ => True) v14 ((eqs.take q.toNat).map (rd res.2))) ∧ zT (Below w1.heap.size w1 w')) (fun _ i _ => eqs.length - (intOf i).toNat)
      case atStart => exact ⟨0, Int.le_refl _, by omega, rfl, H0, HBR⟩
      case round =>
        clear H0 HBR
        obtain ⟨q, q0, q1, rfl, HO, HBR⟩ := hrel
        by_cases hlt : q < (eqs.length : Int)
        · have hel : rd eqs q = eqs[q.toNat]'(by omega) := by
            unfold rd
            rw [List.getD_eq_getElem?_getD, List.getElem?_eq_getElem (by omega)]; rfl
          have hme := HEQ.out (rd eqs q) (by rw [hel]; exact List.getElem_mem _)
          have htk : (eqs.take (q + 1).toNat).map (rd res.2) = (eqs.take q.toNat).map (rd res.2) ++ [rd res.2 (rd eqs q)] := by
            rw [show (q + 1).toNat = q.toNat + 1 by omega, List.take_succ_eq_append_getElem (by omega), List.map_append, hel]; rfl
          have hwr : wrap64 (q + 1) = q + 1 := by unfold wrap64; have := HEL.out; omega
          have hln : ((eqs.take q.toNat).map (rd res.2)).length = q.toNat := by rw [List.length_map, List.length_take]; omega
          obtain ⟨gv, _, ev, _⟩ := Kd.uK HTV.out (by rw [HTL.out]; omega)
          injection ev with ev e2 e3
          clear e2 e3
          subst ev
          obtain ⟨ad, ea, ya⟩ := Kd.at_int HE.out q q0 hlt
          cases ea
          have ya := bc (bt_ HBW.out HBR.out) ya
          have yb := (Kd.yZ 0 (Kd.zL HTV.out HBR.out) (rd eqs q) hme.1 hme.2).1.trans (show _ = some (.int .i64 (rd res.2 (rd eqs q))) from rfl)
          obtain ⟨m0, m1⟩ := hme
          have HTK := aq htk
          have HWR := aq hwr
          have HLN := aq hln
          generalize rd eqs q = e at ya yb m0 m1 HTK
          generalize (eqs.take q.toNat).map (rd res.2) = xs at HO HTK HLN
          clear htk hwr hln hel
          go_wp2_with (first | ((with_reducible refine zA (b := .append) (xs := #[.tmp 98, .tmp 103]) rfl ?_); at_builtin; refine Kd.xY (Kd.int .i64) (w0 := w1) w1.heap.size rfl (.tmp 98) (.tmp 103) 23 3 (.int .i64 0) 8 rfl Try.underlying23 sV rfl (by decide) (by omega) _ xs (rd res.2 e) [.int .i64 (rd res.2 e)] (fun _ => True) (fun _ => False) rfl rfl ?aP (fun _ hk => hk.elim) ?aF ?aO ?aB ?aS ?aL ?_; (case aP => exact rfl); (case aB => exact HBR.out); (case aF => exact (fun _ _ => trivial)); (case aO => exact HO.out); (case aS => exact HBR.out.size); (case aL => have := HLN.out; have := HEL.out; omega); intro v2 w9 ho hb hg hat; have HO2 := aq ho; have HB2 := aq hb; clear ho hb hg hat HO HBR))
          rw [HWR.out]
          refine ⟨⟨q + 1, by omega, by omega, rfl, ⟨by rw [HTK.out]; exact HO2.out⟩, HB2⟩, ?_⟩
          simp only [intOf]; omega
        · obtain rfl : q = (eqs.length : Int) := by omega
          rw [Int.toNat_natCast, List.take_length] at HO
          have d2 := eq_false (show ¬ (eqs.length : Int) < (eqs.length : Int) by omega)
          have zb := (bq (bb_ HV.out HBR.out) 0).trans (show _ = some v from rfl)
          clear hlt q0 q1
          go_wp2
          refine bodyPost_ret (results_tmp2 rfl _ _ _) rfl ?_
          rw [HPU.out]
          exact ⟨_, _, rfl, Kd.zL HRV.out HBR.out, Kd.vJ HO.out HBW.out.size, bt_ HBW.out HBR.out⟩
end Go.Proofs.Ytoonahobmlnflaa.PC
