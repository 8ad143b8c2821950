/- Texts of this claim, one behind the other. -/
import Derived.Test.YtoonahobmlnflaaVc15
import Derived.Test.YtoonahobmlnflaaVc14
set_option linter.unusedVariables false
set_option linter.unusedSimpArgs false
set_option maxRecDepth 100000
set_option maxHeartbeats 16000000
namespace Go.Proofs.Ytoonahobmlnflaa.PC
open Go.RowKit Go.Shelf A B C
def rU.T1 : Bool × List (List Nat × List Nat) := (true, [([], []), ([], []), ([0, 1, 1], [0, 1]), ([2], [2]), ([3], [3]), ([3], [3]), ([4, 2, 0, 1, 2, 3, 4], [4]), ([5, 6, 0, 1, 2, 3, 4, 5, 6], [5])])
def rU.B1 : List Nat := [0, 0, 3, 7, 15, 15, 31, 127]
theorem rU.tab1 : wD .any (opsOf Try.f20 1) = rU.T1 := by kernel_rfl
theorem rU.oY : xR rU.T1.2 rU.B1 = true := by kernel_rfl
def chkE (nodes : List S37) (roots : List Int) : Int := if wI nodes && !roots.any (outN nodes.length) then 0 else 170
theorem rU (nodes : List S37) (roots : List Int) (A : Option Addr) (c : Nat) (A1 : Option Addr) (c1 : Nat) (w : World) (hC : Kd.C k37 w A nodes.length nodes) (hc : nodes.length ≤ c) (hI : ∀ x ∈ nodes, wM x) (hR : Kd.C (Kd.int .i64) w A1 roots.length roots) (hc1 : roots.length ≤ c1) :
    Calls Try.prog 20 #[.slice A nodes.length c, .slice A1 roots.length c1] w fun e w' => e = .returned (.int .i64 (chkE nodes roots)) ∧ Below w.heap.size w w' := by
  have hmf : ∀ (fn : Fn) (first cap : Array Value) (w : World), (Instr.makeFunc fn first cap).run Try.prog w = .ok (.func fn first cap) w := fun _ _ _ _ => rfl
  have hx := heap_alloc_last w (.cells #[.slice A nodes.length c] 22)
  have hb := zY (Below.refl w.heap.size w) (.cells #[.slice A nodes.length c] 22)
  have HX0 := aq hx
  have HX1 := aq (xJ hx)
  have HB1 := aq (zQ hb)
  have HC := aq hC
  have HI := aq hI
  have HR := aq hR
  clear hx hb hC hI hR
  go_enter Try.func20, Try.ntmps20
  go_wp2
  refine xK (n := 8) (S := fun w' => w'.cell? ⟨w.heap.size, 0, none⟩ = some (.slice A nodes.length c)) (ds := []) (msk 8 0) (by kernel_rfl) rfl rfl (by exact (bq HX1.out 0).trans rfl) (fun hHeld => ?_); refine yO rU.tab1 rU.oY (fun HT_ HW_ => ?_)
  generalize (w.alloc (.cells #[.slice A nodes.length c] 22)).drew = w1 at HX1 HB1 hHeld ⊢
  refine tU 0 8 (msk 8 1) HT_.out HW_.out hHeld ?_ ?_ ?_
  rotate_left
  · rintro w' s0; go_simp; with_reducible rfl
  refine wW (i := 1) (N := some 9) (msk 8 3) rfl rfl (zG HT_.out (by kernel_rfl)) (by decide) (fun K hK => ?_)
  refine uN Try.func41 (by kernel_rfl) rfl #[] (by rfl) rfl rfl (by (try simp only [List.map_toArray, List.map_cons, List.map_nil]); first | done | rfl) ?_
  refine (plain41 _).mono ?_
  rintro e w2 ⟨rfl, hd⟩
  refine ⟨_, rfl, ?_⟩
  have HX2 := aq (bb_ HX1.out hd)
  have HB2 := aq (bt_ HB1.out hd)
  clear hd HX1 HB1
  refine hK.out _ _ (by exact (bq HX2.out 0).trans rfl) (fun hHeld => ?_)
  clear hK K
  refine xV (a' := ?_) ?_ ?_
  rotate_left
  · show Act.put _ (some 9) _ = _
    simp only [Act.put, sq, iw, jw]
    rfl
  refine wW (i := 2) (N := some 10) (msk 8 7) rfl rfl (zG HT_.out (by kernel_rfl)) (by decide) (fun K hK => ?_)
  refine uN Try.func40 (by kernel_rfl) rfl #[.slice A nodes.length c, .slice none 0 0, .slice none 0 0, .slice none 0 0, .agg #[.int .i64 0, .int .i64 1, .int .i64 0, .int .i64 1, .int .i64 0, .int .i64 1, .int .i64 0, .int .i64 1, .int .i64 0, .int .i64 1, .int .i64 0, .int .i64 1, .int .i64 0, .int .i64 1]] (by rfl) rfl rfl (by (try simp only [List.map_toArray, List.map_cons, List.map_nil]); first | done | rfl) ?_
  refine (infer40 nodes A c w2 (Kd.xZ HC.out HB2.out) hc HI.out).mono ?_
  obtain ⟨r, hr⟩ : ∃ r, r = (if wI nodes then (0 : Int) else 170) := ⟨_, rfl⟩
  rw [← hr]
  have HRR := aq hr
  clear hr
  rintro e w3 ⟨⟨A', rfl⟩, hd⟩
  refine ⟨_, rfl, ?_⟩
  have HX3 := aq (bb_ HX2.out hd)
  have HB3 := aq (bt_ HB2.out hd)
  clear hd HX2 HB2
  refine hK.out _ _ (by exact (bq HX3.out 0).trans rfl) (fun hHeld => ?_)
  clear hK K
  refine xV (a' := ?_) ?_ ?_
  rotate_left
  · show Act.put _ (some 10) _ = _
    simp only [Act.put, sq, iw, jw]
    rfl
  refine pU 3 7 (msk 8 15) HT_.out ?_
  refine pU 4 11 (msk 8 31) HT_.out ?_
  refine pU 5 12 (msk 8 63) HT_.out ?_
  refine pU 6 5 (msk 8 127) HT_.out ?_
  refine pU 7 6 (msk 8 255) HT_.out ?_
  refine wX (yG HT_.out (by kernel_rfl)) ?_
  have z3 := (bq HX3.out 0).trans (show _ = some (.slice A nodes.length c) from rfl)
  cases hgb : wI nodes with
  | false =>
    clear z3
    obtain rfl : r = 170 := by rw [HRR.out, hgb]; rfl
    go_wp2
    go_ret
    exact ⟨by rw [show chkE nodes roots = 170 by unfold chkE; rw [hgb]; rfl]; rfl, HB3.out⟩
  | true =>
    obtain rfl : r = 0 := by rw [HRR.out, hgb]; rfl
    have en43 : ∀ args w, (callFunc 43 args).run Try.prog w = .ok (.enter 43 args) w := enters_of Try.func43 (by kernel_rfl) rfl
    have hcon := contF42 43 #[.pointer (some ⟨w.heap.size, 0, none⟩)] (outN nodes.length) en43 A1 c1 roots w3 (Kd.xZ HR.out HB3.out) (fun W x hx hW => out43 x w.heap.size A nodes.length c W (bb_ HX3.out hW))
    have HCON := aq hcon
    clear hcon en43 z3
    cases hany : roots.any (outN nodes.length) with
    | false =>
      rw [hany] at HCON
      go_wp2_with (go_at_call 42; refine HCON.out.mono ?_; rintro e w4 ⟨rfl, hd⟩; have HB4 := aq (bt_ HB3.out hd); clear hd)
      go_ret
      exact ⟨by rw [show chkE nodes roots = 0 by unfold chkE; rw [hgb, hany]; rfl]; rfl, HB4.out⟩
    | true =>
      rw [hany] at HCON
      go_wp2_with (go_at_call 42; refine HCON.out.mono ?_; rintro e w4 ⟨rfl, hd⟩; have HB4 := aq (bt_ HB3.out hd); clear hd)
      go_ret
      exact ⟨by rw [show chkE nodes roots = 170 by unfold chkE; rw [hgb, hany]; rfl]; rfl, HB4.out⟩
end Go.Proofs.Ytoonahobmlnflaa.PC
namespace Go.Proofs.Ytoonahobmlnflaa.PC
open Go.RowKit Go.Shelf A B C
open Go.Lib
def tE (nodes : List S37) (roots : List Int) : Bool := !roots.any (outN nodes.length) && wI nodes
theorem rightB_chk (nodes : List S37) (roots : List Int) : chkE nodes roots = if tE nodes roots then 0 else 170 := by
  unfold chkE tE
  rw [Bool.and_comm]
end Go.Proofs.Ytoonahobmlnflaa.PC
namespace Go.Proofs.Ytoonahobmlnflaa.PC
open Go.RowKit Go.Shelf A B C
theorem rightQ_01 : yU 0 1 = true := by decide
theorem okN_of {R : xH} {L : List S37} {T : List Bool} {i : Nat} {x : S37} (h : pM R L T i x) : okN (i : Int) x = true := by
  have ho := h.ops
  unfold okN
  simp only [Bool.and_eq_true, Bool.or_eq_true, decide_eq_true_eq, bne_iff_ne, ne_eq]
  have h1 : zI x.f0 ≤ 0 ∨ 0 ≤ x.f1 ∧ x.f1 < (i : Int) := by
    by_cases k : 0 < zI x.f0
    · exact .inr (ho.1 k)
    · exact .inl (by omega)
  have h2 : zI x.f0 ≤ 1 ∨ 0 ≤ x.f2 ∧ x.f2 < (i : Int) := by
    by_cases k : 1 < zI x.f0
    · exact .inr (ho.2 k)
    · exact .inl (by omega)
  refine ⟨⟨⟨⟨⟨?_, h1⟩, h2⟩, ?_⟩, ?_⟩, ?_⟩
  · rcases h with ⟨q, rfl, hq⟩ | ⟨v, rfl, hv⟩ | rfl | ⟨kind, a, b, n, rfl, hk, _⟩
    · show 0 ≤ zI 1; decide
    · show 0 ≤ zI 2; decide
    · show 0 ≤ zI 15; decide
    · show 0 ≤ zI kind; omega
  · by_cases k : x.f0 = 1
    · right
      obtain ⟨e, hq⟩ := h.num k
      refine ⟨hq.1, ?_⟩
      rw [e]
      show dimQ 0 1 0 1 0 1 0 1 0 1 0 1 0 1 = true
      unfold dimQ
      simp only [rightQ_01, Bool.and_true]
    · exact .inl k
  · by_cases k : x.f0 = 2
    · right
      rcases h with ⟨q, rfl, hq⟩ | ⟨v, rfl, hv⟩ | rfl | ⟨kind, a, b, n, rfl, hk, _⟩
      · exact absurd k (by show ¬ (1 : Int) = 2; decide)
      · exact ⟨⟨hv.1, hv.2.1⟩, hv.2.2⟩
      · exact absurd k (by show ¬ (15 : Int) = 2; decide)
      · have k : kind = 2 := k
        subst k; exact absurd hk (by decide)
    · exact .inl k
  · by_cases k : x.f0 = 8
    · right
      rcases h with ⟨q, rfl, hq⟩ | ⟨v, rfl, hv⟩ | rfl | ⟨kind, a, b, n, rfl, hk, _, _, _, _, h3, h4, _⟩
      · exact absurd k (by show ¬ (1 : Int) = 8; decide)
      · exact absurd k (by show ¬ (2 : Int) = 8; decide)
      · exact absurd k (by show ¬ (15 : Int) = 8; decide)
      · exact ⟨h3, h4⟩
    · exact .inl k
theorem I64_z : I64 0 ∧ I64 1 := ⟨⟨by decide, by decide⟩, ⟨by decide, by decide⟩⟩
theorem NodeI_of {R : xH} {L : List S37} {T : List Bool} {i : Nat} {x : S37} (h : pM R L T i x) : wM x := by
  obtain ⟨z, o⟩ := I64_z
  rcases h with ⟨q, rfl, hq⟩ | ⟨v, rfl, hv⟩ | rfl | ⟨kind, a, b, n, rfl, _⟩
  · exact ⟨hq.2.1, hq.2.2, z, o, z, o, z, o, z, o, z, o, z, o, z, o⟩
  · exact ⟨z, z, z, z, z, z, z, z, z, z, z, z, z, z, z, z⟩
  · exact ⟨z, z, z, z, z, z, z, z, z, z, z, z, z, z, z, z⟩
  · exact ⟨z, z, z, z, z, z, z, z, z, z, z, z, z, z, z, z⟩
theorem sJ.nodeI {R : xH} {L : List S37} {T : List Bool} (h : sJ R L T) : ∀ x ∈ L, wM x := by
  intro x hx
  obtain ⟨i, hi, rfl⟩ := List.mem_iff_getElem.1 hx
  have := h.ok i hi
  rw [vD hi] at this
  exact NodeI_of this
theorem sJ.graph {R : xH} {L : List S37} {T : List Bool} (h : sJ R L T) (h4 : L.length ≤ 4000) : wI L = true := graphB_mk h4 fun i hi => okN_of (h.ok i hi)
theorem wK {nodes : List S37} {roots : List Int} : tE nodes roots = true ↔ (∀ r ∈ roots, 0 ≤ r ∧ r < (nodes.length : Int)) ∧ wI nodes = true := by
  unfold tE outN
  simp only [Bool.and_eq_true, Bool.not_eq_true', List.any_eq_false, Bool.or_eq_true, decide_eq_true_eq, not_or, Int.not_lt, Int.not_le]
theorem sU {nodes : List S37} (h : wI nodes = true) : qK nodes := fun i hi => by
  have := uW ((vO h).2 i hi)
  exact ⟨this.2.1, this.2.2.1⟩
theorem atL_eq {roots : List Int} {tv : List Int} {p : Int → Int} (h : ∀ r ∈ roots, rd tv r = p r) : atL roots tv = roots.map p := List.map_congr_left h
structure BuildIs (R : xH) (nodes : List S37) (roots : List Int) (L : List S37) (T : List Bool) (r : List Int) (tv : List Int) : Prop where
  run : xT R nodes (yH nodes roots) nodes.length = (⟨L, T, false⟩, tv)
  inv : sJ R L T
  le : L.length ≤ nodes.length
  at_ : r = roots.map (rd tv)
  ok : ∀ q ∈ r, 0 ≤ q ∧ q < (L.length : Int)
  build : xA R nodes roots = (clrL L (yH L r), r.map (pI (yH L r)))
  tv : ∀ i : Nat, i < nodes.length → zJ false (yH nodes roots) (i : Int) = true → 0 ≤ rd tv (i : Int) ∧ rd tv (i : Int) < (L.length : Int)
theorem clearedG_eq {L : List S37} {r : List Int} (ha : qK L) (hr : ∀ q ∈ r, 0 ≤ q ∧ q < (L.length : Int)) : (wO L r).1 = clrL L (yH L r) ∧ (wO L r).2.length = L.length ∧ ∀ q : Int, 0 ≤ q → q < (L.length : Int) → zJ false (yH L r) q = true → rd (wO L r).2 q = pI (yH L r) q := by
  obtain ⟨h1, h2, h3⟩ := cRun_ok ha (uU ha hr) L.length (Nat.le_refl _)
  refine ⟨h1, h2, fun q q0 q1 hu => ?_⟩
  obtain ⟨m, rfl⟩ := Int.eq_ofNat_of_zero_le q0
  exact h3 m (by omega) hu
theorem build_is {R : xH} (hR : tR R) {nodes : List S37} {roots : List Int} (hg : tE nodes roots = true) (hI : ∀ x ∈ nodes, wM x) : ∃ L T r tv, BuildIs R nodes roots L T r tv := by
  obtain ⟨hr, hG⟩ := wK.1 hg
  have ha := sU hG
  have hs := uU ha hr
  obtain ⟨h4, hok⟩ := vO hG
  have hb := bRun_ok hR hok hI hs nodes.length (Nat.le_refl _) h4
  cases he : xT R nodes (yH nodes roots) nodes.length with
  | mk g tv =>
  obtain ⟨L, T, xD⟩ := g
  rw [he] at hb
  obtain rfl : xD = false := hb.xD
  have hrr : ∀ q ∈ roots.map (rd tv), 0 ≤ q ∧ q < (L.length : Int) := fun q hq => by
    obtain ⟨c, hc, rfl⟩ := List.mem_map.1 hq
    obtain ⟨m, e⟩ := Int.eq_ofNat_of_zero_le (hr c hc).1
    have h1 := (hr c hc).2
    have h2 := (qA ha hr).rts c hc
    rw [e] at h1 h2 ⊢
    exact hb.tv m (by omega) h2
  refine ⟨L, T, roots.map (rd tv), tv, ⟨he, hb.inv, hb.le, rfl, hrr, ?_, hb.tv⟩⟩
  obtain ⟨c1, c2, c3⟩ := clearedG_eq hb.inv.ahead hrr
  unfold xA builtG
  rw [he]
  show ((wO L (roots.map (rd tv))).1, atL (roots.map (rd tv)) (wO L (roots.map (rd tv))).2) = _
  rw [c1, atL_eq (p := pI (yH L (roots.map (rd tv)))) (fun q hq => c3 q (hrr q hq).1 (hrr q hq).2 ((qA hb.inv.ahead hrr).rts q hq))]
structure Neat (R : xH) (g : List S37) (r : List Int) : Prop where
  inv : ∃ T, sJ R g T
  used : AllUsed g (yH g r)
  ok : ∀ q ∈ r, 0 ≤ q ∧ q < (g.length : Int)
  le : g.length ≤ 4000
theorem Neat.right {R : xH} {g : List S37} {r : List Int} (h : Neat R g r) : tE g r = true := by
  obtain ⟨T, hT⟩ := h.inv
  exact wK.2 ⟨h.ok, hT.graph h.le⟩
theorem Neat.nodup {R : xH} {g : List S37} {r : List Int} (h : Neat R g r) : g.Nodup := by
  obtain ⟨T, hT⟩ := h.inv
  exact hT.nodup
theorem Neat.nodeI {R : xH} {g : List S37} {r : List Int} (h : Neat R g r) : ∀ x ∈ g, wM x := by
  obtain ⟨T, hT⟩ := h.inv
  exact hT.nodeI
theorem build_neat {R : xH} (hR : tR R) {nodes : List S37} {roots : List Int} (hg : tE nodes roots = true) (hI : ∀ x ∈ nodes, wM x) : Neat R (xA R nodes roots).1 (xA R nodes roots).2 ∧ (xA R nodes roots).1.length ≤ nodes.length := by
  obtain ⟨L, T, r, tv, h⟩ := build_is hR hg hI
  have h4 := (vO (wK.1 hg).2).1
  rw [h.build]
  have ha := h.inv.ahead
  have hs := uU ha h.ok
  have hl : (clrL L (yH L r)).length ≤ nodes.length := by
    have := List.length_filter_le (fun i => zJ false (yH L r) ((i : Nat) : Int)) (List.range L.length)
    rw [List.length_range] at this
    have e : (clrL L (yH L r)).length = _ := sM
    have := h.le
    rw [e]
    unfold posN uE
    omega
  exact ⟨⟨⟨_, clr_inv h.inv hs⟩, clr_used ha h.ok, clr_roots ha h.ok, by show (clrL L (yH L r)).length ≤ 4000; omega⟩, hl⟩
def okG (gG gM B0 : Nat) (k : Nat) : Prop := k = gG ∨ k = gM ∨ B0 ≤ k
def okS (gG gM B0 : Nat) (k : Nat) : Prop := k < B0 ∧ k ≠ gG ∧ k ≠ gM
theorem okS_not {gG gM B0 k : Nat} (h : okS gG gM B0 k) : ¬ okG gG gM B0 k := fun h2 => by
  rcases h2 with e | e | e
  · exact h.2.1 e
  · exact h.2.2 e
  · have := h.1; omega
structure BuF (gG gM B0 : Nat) (Av : Option Addr) (n cv : Nat) (Au : Option Addr) (cu : Nat) (use : List Bool) (w : World) (st : PG × List Int) (V : World) : Prop where
  gw : rH w.heap.size (okG gG gM B0) gG gM st.1 V
  tv : Kd.R (Kd.int .i64) 3 V w.heap.size (okS gG gM B0) (.slice Av n cv) st.2
  us : Kd.R Kd.bool 4 V w.heap.size (okS gG gM B0) (.slice Au n cu) use
  B : Below w.heap.size w V
  sz : B0 ≤ V.heap.size
  b0 : w.heap.size ≤ gG ∧ w.heap.size ≤ gM ∧ w.heap.size ≤ B0
structure BuI (gG gM B0 : Nat) (Av : Option Addr) (n cv : Nat) (Au : Option Addr) (cu : Nat) (use : List Bool) (w : World) (st : PG × List Int) (x : S37) (gn : Nat) (V5 : World) : Prop where
  f : BuF gG gM B0 Av n cv Au cu use w st V5
  gw : rH w.heap.size (fun k => okG gG gM B0 k ∧ k ≠ gn) gG gM st.1 V5
  box : V5.heap[gn]? = some (.cells (zC x) 37 (0, 0))
  ge : B0 ≤ gn
section
variable {base gG gM B0 : Nat} {Av : Option Addr} {n cv : Nat} {Au : Option Addr} {cu : Nat} {use : List Bool} {w : World} {st : PG × List Int} {x : S37} {gn : Nat} {V V5 V8 V' : World} {g : PG}
theorem BuF.step (h : BuF gG gM B0 Av n cv Au cu use w st V) (hd : Below V.heap.size V V') : BuF gG gM B0 Av n cv Au cu use w st V' :=
  ⟨h.gw.step hd, Kd.zL h.tv hd, Kd.zL h.us hd, bt_ h.B hd, Nat.le_trans h.sz hd.size, h.b0⟩
theorem BuI.start (h : BuF gG gM B0 Av n cv Au cu use w st V) (hd : Below V.heap.size V V5) (hg : V.heap.size ≤ gn) (hb : V5.heap[gn]? = some (.cells (zC x) 37 (0, 0))) : BuI gG gM B0 Av n cv Au cu use w st x gn V5 :=
  ⟨h.step hd, (h.gw.avoid hg).step hd, hb, Nat.le_trans h.sz hg⟩
theorem BuI.first (h : BuI gG gM B0 Av n cv Au cu use w st x gn V5) : GW w.heap.size (fun k => okG gG gM B0 k ∧ k ≠ gn) gG gM st.1 V5 V5 :=
  ⟨h.gw, yB.refl _ _, fun k hk => ⟨.inr (.inr (Nat.le_trans h.f.sz hk)), by have := zN h.box; omega⟩, Nat.le_trans h.f.b0.2.2 h.f.sz⟩
theorem BuI.at_ (h : BuI gG gM B0 Av n cv Au cu use w st x gn V5) (F : GW w.heap.size (fun k => okG gG gM B0 k ∧ k ≠ gn) gG gM g V5 V8) : V8.heap[gn]? = some (.cells (zC x) 37 (0, 0)) :=
  F.vI.blk h.box (fun hk => hk.2 rfl)
theorem BuI.row (h : BuI gG gM B0 Av n cv Au cu use w st x gn V5) (F : GW w.heap.size (fun k => okG gG gM B0 k ∧ k ≠ gn) gG gM g V5 V8) : Kd.R (Kd.int .i64) 3 V8 w.heap.size (okS gG gM B0) (.slice Av n cv) st.2 :=
  F.vI.R h.f.tv (fun k hk hk2 => okS_not hk hk2.1)
theorem rH.setint {ok : Nat → Prop} (h : rH base ok gG gM g V) {gv : Nat} {cs : Array Value} (hv : V.heap[gv]? = some (.cells cs 3 (0, 0))) (j : Nat) (u : Value) : rH base ok gG gM g (V.setCell ⟨gv, j, none⟩ u) := by
  obtain ⟨An, cn, At, ct, h1, h2, h3⟩ := h.blk
  obtain ⟨es, cl, h4, h5⟩ := h.map
  have vI : ∀ {k : Nat}, k ≠ gv → (V.setCell ⟨gv, j, none⟩ u).heap[k]? = V.heap[k]? := fun hk => Below.heap_setCell V ⟨gv, j, none⟩ u _ hk
  exact ⟨⟨An, cn, At, ct, (vI (rN h1 hv (by decide))).trans h1, Kd.vW h2 hv (by decide) j u, Kd.vW h3 hv (by decide) j u⟩, ⟨es, cl, (vI (fun e => by rw [e, hv] at h4; cases h4)).trans h4, h5⟩, h.len, h.le, h.okG, h.okM, h.bG, h.bM⟩
theorem BuI.fin {gv : Nat} (h : BuI gG gM B0 (some ⟨gv, 0, none⟩) n cv Au cu use w st x gn V5) (F : GW w.heap.size (fun k => okG gG gM B0 k ∧ k ≠ gn) gG gM g V5 V8) (j i : Int) : BuF gG gM B0 (some ⟨gv, 0, none⟩) n cv Au cu use w (g, st.2.set j.toNat i) (V8.setCell ⟨gv, j.toNat, none⟩ (.int .i64 i)) := by
  have hr := h.row F
  obtain ⟨cells, ht⟩ := Kd.tW hr gv rfl
  have hbs := Kd.oO hr gv rfl
  have hu := F.vI.R h.f.us (fun k hk hk2 => okS_not hk hk2.1)
  have hB : Below w.heap.size w V8 := h.f.B.trans (F.vI.below (Nat.le_trans h.f.b0.2.2 h.f.sz) (fun k hk hk2 => by
    have hb := h.f.b0
    rcases hk2.1 with e | e | e <;> omega))
  exact ⟨(F.rep.setint ht j.toNat _).mono (fun _ hk => hk.1), (Kd.R_putg hr j i).1, Kd.vW hu ht (by decide) _ _, bs_ hB hbs, Nat.le_trans (Nat.le_trans h.f.sz F.vI.size) (by simp [World.setCell]), h.f.b0⟩
end
theorem ahead_ops {nodes : List S37} (h : qK nodes) : OpsOK nodes := fun i h0 h1 => by
  obtain ⟨m, rfl⟩ := Int.eq_ofNat_of_zero_le h0
  have := h m (by omega)
  exact ⟨fun k => ⟨(this.1 k).1, by have := (this.1 k).2; omega⟩, fun k => ⟨(this.2 k).1, by have := (this.2 k).2; omega⟩⟩
theorem node_at {nodes : List S37} {A : Option Addr} {w W : World} {n : Nat} (hC : Kd.C k37 w A nodes.length nodes) (hB : Below n w W) (hn : w.heap.size ≤ n) (j : Int) (p0 : 0 ≤ j) (q0 : j < (nodes.length : Int)) :
    ∃ ad, A = some ad ∧ ∀ (jj : Nat) v, (wY (rT nodes j))[jj]? = some v → W.cell? ((ad.add (j.toNat * 22)).add jj) = some v :=
  node_cells hC (hB.mono hn) j p0 q0
theorem okN_kinds {i : Int} {x : S37} (h : okN i x = true) : x.f0 = 1 ∨ x.f0 = 2 ∨ x.f0 = 15 ∨ (zI x.f0 = 1 ∧ 7 ≤ x.f0 ∧ x.f0 ≤ 14) ∨ (zI x.f0 = 2 ∧ 3 ≤ x.f0 ∧ x.f0 ≤ 6) := by
  have := (uW h).1
  rcases sD x.f0 with h | h | h | h <;> omega
def rR.T21 : Bool × List (List Nat × List Nat) := (true, [([], []), ([], []), ([], []), ([], []), ([3], [3]), ([], []), ([], []), ([6], [6]), ([5, 7], [5, 7]), ([8], [8]), ([], []), ([], []), ([11], [11]), ([10, 12], [10, 12]), ([13], [13]), ([], []), ([2, 4, 9, 14, 15], [2, 4, 9, 14, 15]), ([0, 1, 0, 1, 2, 3, 4, 5, 6, 7, 8, 9, 10, 11, 12, 13, 14, 15, 16], [0, 1]), ([17, 16, 16, 0, 1, 2, 3, 4, 5, 6, 7, 8, 9, 10, 11, 12, 13, 14, 15, 16], [16, 17])])
def rR.B21 : List Nat := [0, 0, 0, 0, 8, 0, 0, 64, 224, 480, 0, 0, 2048, 7168, 15360, 0, 65532, 131071, 262143]
theorem rR.tab21 : wD .any (opsOf Try.f21 21) = rR.T21 := by kernel_rfl
theorem rR.bits21 : xR rR.T21.2 rR.B21 = true := by kernel_rfl
def oR.T9 : Bool × List (List Nat × List Nat) := (true, [([], []), ([], []), ([], []), ([], []), ([3], [3]), ([], []), ([], []), ([6], [6]), ([5, 7], [5, 7]), ([8], [8]), ([], []), ([], []), ([11], [11]), ([10, 12], [10, 12]), ([13], [13]), ([2, 4, 9, 14], [2, 4, 9, 14]), ([0, 1, 0, 1, 2, 3, 4, 5, 6, 7, 8, 9, 10, 11, 12, 13, 14, 15], [0, 1]), ([16, 15, 15, 0, 1, 2, 3, 4, 5, 6, 7, 8, 9, 10, 11, 12, 13, 14, 15], [15, 16])])
def oR.B9 : List Nat := [0, 0, 0, 0, 8, 0, 0, 64, 224, 480, 0, 0, 2048, 7168, 15360, 32764, 65535, 131071]
theorem oR.tab9 : wD .any (opsOf Try.f21 9) = oR.T9 := by kernel_rfl
theorem oR.bits9 : xR oR.T9.2 oR.B9 = true := by kernel_rfl
theorem oF (nodes : List S37) (roots : List Int) : (yH nodes roots).length = nodes.length := by unfold yH; rw [qP, uM, List.length_replicate]
theorem bRun_succ (R : xH) (nodes : List S37) (use : List Bool) (k : Nat) : xT R nodes use (k + 1) = if zJ false use (k : Int) = true then ((uQ R (xT R nodes use k).1 (xT R nodes use k).2 (rT nodes (k : Int))).1, (xT R nodes use k).2.set k (uQ R (xT R nodes use k).1 (xT R nodes use k).2 (rT nodes (k : Int))).2) else xT R nodes use k := rfl
theorem args_v {base : Nat} {ok : Nat → Prop} {gG gM : Nat} {g : PG} {W0 W : World} {v : Int} (h : GW base ok gG gM g W0 W) (k : Int) (hv : zI k = v) : Calls Try.prog 44 #[.int .i64 k] W fun e W' => e = .returned (.int .i64 v) ∧ GW base ok gG gM g W0 W' := by subst hv; exact args_w h k
theorem ev_makeMap {a : Act} {W : World} {P : Program} {ops : Array Oper} {Q : Exit → Act → World → Prop} {rest : List Oper} {d : Option Tmp} {t ty : TypeId} {pos : String} {after : Array Edge} (h : ∀ gM W', gM = W.heap.size → W'.heap[gM]? = some (.map #[] 0) → Below W.heap.size W W' → wpList P ops Q rest (a.put d (.map (some gM))) W') : wpList P ops Q (⟨d, .makeMap t none, ty, pos, after, none⟩ :: rest) a W :=
  Kd.xW rfl (v := .map (some W.heap.size)) (w1 := W.alloc (.map #[] 0)) (by unfold execOp; rfl) (h _ _ rfl (blk_new W _) (zY (Below.refl _ _) _))
theorem built21 (nodes : List S37) (roots : List Int) (A : Option Addr) (c : Nat) (A1 : Option Addr) (c1 : Nat) (w : World) (hC : Kd.C k37 w A nodes.length nodes) (hc : nodes.length ≤ c) (hI : ∀ x ∈ nodes, wM x) (hR : Kd.C (Kd.int .i64) w A1 roots.length roots) (hc1 : roots.length ≤ c1) (hg : tE nodes roots = true) :
    Calls Try.prog 21 #[.slice A nodes.length c, .slice A1 roots.length c1] w fun e w' => ∃ gG gM B0 Av cv Au cu, e = .returned (.tuple #[.pointer (some ⟨gG, 0, none⟩), .slice Av nodes.length cv]) ∧ BuF gG gM B0 Av nodes.length cv Au cu (yH nodes roots) w (builtG yN nodes roots) w' := by
  have hu71 := Try.underlying71
  have hu37 := Try.underlying37
  obtain ⟨hroots, hgr⟩ := wK.1 hg
  obtain ⟨hl4, hok⟩ := vO hgr
  have ha := sU hgr
  have hsh := uU ha hroots
  have HROOTS := aq hroots
  have HOK := aq (show OpsOK nodes from ahead_ops ha)
  have HLEN := aq hl4
  have HC := aq hC
  have HR := aq hR
  have HNI := aq hI
  have HON := aq hok
  have HAH := aq ha
  have HSH := aq hsh
  have HRUN := aq (fun k hk => bRun_ok qG hok hI hsh k hk (by omega))
  clear hC hR hI hroots hgr hl4 hok ha hsh hg
  go_enter Try.func21, Try.ntmps21
  go_wp2_with (first | ((with_reducible refine gD (N := 12) rfl ?_); refine ev_makeMap ?_; intro gM w1 hgM hx hb; have HM := aq hx; have GM := aq hgM; have HB := aq hb; clear hx hgM hb) | ((with_reducible refine gD (N := 14) rfl ?_); refine bE ?hg (N := 14) ?hd (cs := #[.slice none 0 0, .slice none 0 0, .map (some gM), .bool false]) (t := 71) ?hr ?_; (case hd => rfl); (case hg => rfl); (case hr => first | (go_simp; done) | (go_simp; rfl)); intro gG hgG w2 hbox hb; have HG := aq hbox; have GG := aq hgG; have HM0 := HM; have HM2 := aq (bb_ HM.out hb); have HB2 := aq (bt_ HB.out hb); clear hbox hgG hb HM HB; have HM1 := aq HM0.out; have HM := HM2; have HB := HB2; clear HM2 HB2) | ((with_reducible refine gD (N := 17) rfl ?_); refine Kd.R_make (Kd.int .i64) (w0 := w2) w2.heap.size 3 rfl (N := 17) rfl 23 _ _ rfl (nodes.length : Int) rfl rfl Try.underlying23 (.int .i64 0) 8 sV rfl (by decide) (by omega) 0 (ok := fun _ => True) (okp := fun _ => True) rfl (fun _ hk => hk) trivial (by omega) (by rw [Int.toNat_natCast]; have := HLEN.out; omega) (Below.refl _ _) (Nat.le_refl _) ?_; intro v3 w3 hr3 hb3 hg_ hnew_; clear hg_ hnew_; rw [Int.toNat_natCast] at hr3; obtain ⟨Av, cv, ev⟩ := Kd.yT hr3; subst ev; rw [List.length_replicate] at hr3; have HT := aq hr3; have HG3 := aq (bb_ HG.out hb3); have HM3 := aq (bb_ HM.out hb3); have HB3 := aq (bt_ HB.out hb3); have LT2 := aq (show gM < w2.heap.size ∧ gG < w2.heap.size ∧ gM < gG from ⟨zN HM.out, zN HG.out, by rw [GG.out]; exact zN HM1.out⟩); clear HM HG HB hr3; have hsz3 : w2.heap.size ≤ w3.heap.size := hb3.size; clear hb3; have HM := HM3; have HG := HG3; have HB := HB3; clear HM3 HG3 HB3; rw [List.length_replicate]) | (go_at_call 25; refine (needed25 nodes roots A c A1 c1 _ (Kd.xZ HC.out HB.out) hc (Kd.xZ HR.out HB.out) hc1 HROOTS.out HOK.out (by have := HLEN.out; omega)).mono ?_; rintro e w4 ⟨v4, rfl, hr4, hb4⟩; obtain ⟨Au, cu, eu⟩ := Kd.yT hr4; subst eu; rw [oF] at hr4 ⊢; have HU := aq hr4; have HT4 := aq (Kd.zL HT.out hb4); have HG4 := aq (bb_ HG.out hb4); have HM4 := aq (bb_ HM.out hb4); have HB4 := aq (bt_ HB.out hb4); have LT3 := aq (show w2.heap.size ≤ w3.heap.size from hsz3); clear hr4 hb4 HT HG HM HB; have HT := HT4; have HG := HG4; have HM := HM4; have HB := HB4; clear HT4 HG4 HM4 HB4))
  have hb0 : w.heap.size ≤ w2.heap.size := by have := LT2.out; have := GM.out; omega
  have HUL := aq (oF nodes roots)
  have H0 := aq (show BuF gG gM w4.heap.size Av nodes.length cv Au cu (yH nodes roots) w (xT yN nodes (yH nodes roots) 0) w4 from
    ⟨⟨⟨none, 0, none, 0, HG.out, Kd.rK _ _ _ _ _, Kd.rK _ _ _ _ _⟩, ⟨#[], 0, HM.out, rC.nil⟩, rfl, Nat.zero_le _, .inl rfl, .inr (.inl rfl), by have := GM.out; have := LT2.out; omega, by have := GM.out; omega⟩,
      Kd.vJ (Kd.xF (Kd.uP HT.out) (fun k hk => ⟨hk.2.2.1, by have := hk.2.1; have := LT2.out; omega, by have := hk.2.1; have := LT2.out; omega⟩)) hb0,
      Kd.vJ (Kd.xF (Kd.uP HU.out) (fun k hk => ⟨hk.2.2.1, by have := hk.2.1; have := LT2.out; omega, by have := hk.2.1; have := LT2.out; omega⟩)) (by omega),
      HB.out, Nat.le_refl _, by have := GM.out; have := LT2.out; omega, by have := GM.out; omega, HB.out.size⟩)
  clear HG HM HT HU HB GM GG HM0 HM1 LT2 LT3 hsz3 hb0
  have HRU := HRUN
  clear HRUN
  have HRES := aq (show builtG yN nodes roots = xT yN nodes (yH nodes roots) nodes.length from rfl)
  obtain ⟨res, hres⟩ : ∃ res, builtG yN nodes roots = res := ⟨_, rfl⟩
  rw [hres] at HRES
  have HRS := aq hres
  clear hres
  obtain ⟨use, hus⟩ : ∃ use, yH nodes roots = use := ⟨_, rfl⟩
  rw [hus] at H0 HSH HRU HUL HRES
  have HUS := aq hus
  clear hus
  generalize w4.heap.size = B0 at H0
  go_loopw [22] (fun i wr => ∃ (j : Int), 0 ≤ j ∧ j ≤ (nodes.length : Int) ∧ i = .int .i64 j ∧ zT (BuF gG gM B0 Av nodes.length cv Au cu use w (xT yN nodes use j.toNat) wr)) (fun i _ => nodes.length - (intOf i).toNat)
  case atStart => exact ⟨0, Int.le_refl _, by omega, rfl, H0⟩
  case round =>
    obtain ⟨j, j0, j1, rfl, H⟩ := hrel
    clear H0
    by_cases hlt : j < (nodes.length : Int)
    · have hst := HRU.out j.toNat (by omega)
      have hsu := bRun_succ yN nodes use j.toNat
      have hjn : ((j.toNat : Nat) : Int) = j := by omega
      rw [hjn] at hsu
      have HW := aq (show wrap64 (j + 1) = j + 1 by unfold wrap64; have := HLEN.out; omega)
      have fin : ∀ (V : World) (st' : PG × List Int), xT yN nodes use (j.toNat + 1) = st' → BuF gG gM B0 Av nodes.length cv Au cu use w st' V →
          (∃ (j_1 : Int), 0 ≤ j_1 ∧ j_1 ≤ (nodes.length : Int) ∧ (Value.int .i64 (wrap64 (j + 1))) = .int .i64 j_1 ∧ zT (BuF gG gM B0 Av nodes.length cv Au cu use w (xT yN nodes use j_1.toNat) V)) ∧ nodes.length - (intOf (.int .i64 (wrap64 (j + 1)))).toNat < nodes.length - (intOf (.int .i64 j)).toNat := fun V st' hs h => by
        have hw := HW.out
        subst hs
        rw [hw]
        refine ⟨⟨j + 1, by omega, by omega, rfl, ?_⟩, ?_⟩
        · rw [show (j + 1).toNat = j.toNat + 1 by omega]; exact ⟨h⟩
        · simp only [intOf]; omega
      have hon := HON.out j.toNat (by omega)
      have hah := HAH.out j.toNat (by omega)
      have hsh := HSH.out j.toNat (by omega)
      have hni := HNI.out (rT nodes j) (by rw [← hjn, vD (by omega)]; exact List.getElem_mem _)
      rw [hjn] at hon hah hsh
      generalize xT yN nodes use j.toNat = st at H hst hsu
      have hv : ∀ c : Int, 0 ≤ c → c < j → zJ false use c = true → 0 ≤ rd st.2 c ∧ rd st.2 c < (st.1.L.length : Int) := fun c c0 c1 cu => by
        obtain ⟨m, rfl⟩ := Int.eq_ofNat_of_zero_le c0
        exact hst.tv m (by omega) cu
      obtain ⟨gv, _, ev, _⟩ := Kd.uK H.out.tv (by rw [hst.len]; omega)
      obtain ⟨gu, _, eu, _⟩ := Kd.uK H.out.us (by rw [HUL.out]; omega)
      injection ev with ev e2 e3
      clear e2 e3
      injection eu with eu e2 e3
      clear e2 e3
      subst ev
      subst eu
      obtain ⟨hx1, hf1⟩ := Kd.yZ false H.out.us j j0 hlt
      have FIN := aq fin
      have HSU0 := aq hsu
      have HJ := aq j0
      have HLT := aq hlt
      have j0t := eq_true j0
      have hltt := eq_true hlt
      clear fin hsu HRU HW j1 hjn
      cases hb : zJ false use j with
      | false =>
        rw [hb] at hx1
        have HS := aq (show xT yN nodes use (j.toNat + 1) = st from HSU0.out.trans (by rw [hb]; rfl))
        clear hst hon hah hsh hni hv HSU0 hb j0 hlt
        go_wp2
        exact FIN.out _ _ HS.out H.out
      | true =>
        rw [hb] at hx1
        have HSU := aq (show xT yN nodes use (j.toNat + 1) = ((uQ yN st.1 st.2 (rT nodes j)).1, st.2.set j.toNat (uQ yN st.1 st.2 (rT nodes j)).2) from HSU0.out.trans (by rw [hb]; rfl))
        obtain ⟨ad, eA, hnd⟩ := node_at HC.out H.out.B (Nat.le_refl _) j j0 hlt
        subst eA
        have HND := aq hnd
        have HI2 := aq hst.inv.nodeI
        have hsh2 := hsh hb
        have hkinds := okN_kinds hon
        generalize rT nodes j = x at HND HSU hah hsh2 hkinds
        have HP := aq (show (0 < zI x.f0 → (0 ≤ x.f1 ∧ x.f1 < (nodes.length : Int)) ∧ 0 ≤ rd st.2 x.f1 ∧ rd st.2 x.f1 < (st.1.L.length : Int)) ∧ (1 < zI x.f0 → (0 ≤ x.f2 ∧ x.f2 < (nodes.length : Int)) ∧ 0 ≤ rd st.2 x.f2 ∧ rd st.2 x.f2 < (st.1.L.length : Int)) from
          ⟨fun k => ⟨⟨(hah.1 k).1, by have := (hah.1 k).2; omega⟩, hv _ (hah.1 k).1 (hah.1 k).2 (hsh2.1 k)⟩, fun k => ⟨⟨(hah.2 k).1, by have := (hah.2 k).2; omega⟩, hv _ (hah.2 k).1 (hah.2 k).2 (hsh2.2 k)⟩⟩)
        clear hst hon hah hsh hsh2 hni hv HSU0 hb hnd j0 hlt
        rcases hkinds with hk | hk | hk | ⟨hk, hk1, hk2⟩ | ⟨hk, hk1, hk2⟩
        · have HK := aq hk
          clear hk
          have HARG := aq (show zI x.f0 = 0 by rw [HK.out]; rfl)
          have HS := aq (show xT yN nodes use (j.toNat + 1) = ((wJ st.1 (vP x.f4)).1, st.2.set j.toNat (wJ st.1 (vP x.f4)).2) from HSU.out.trans (by unfold uQ; rw [if_pos HK.out]))
          go_wp2_with (first | ((with_reducible refine yY 37 ?_); refine xC (t := 37) (cs := wY x) rfl (by kernel_rfl) (by kernel_rfl) HND.out ?_) | ((with_reducible refine gD (N := 10) rfl ?_); refine bE ?hg (N := 10) ?hd (cs := zC z37) (t := 37) ?hr ?_; (case hd => rfl); (case hg => rfl); (case hr => first | (go_simp; done) | (go_simp; rfl)); intro gn hgn w5 hbox hb; have HX := aq hbox; have HB5 := aq hb; have GN := aq (show wr.heap.size ≤ gn by rw [hgn]; exact Nat.le_refl _); clear hbox hb hgn) | ((with_reducible refine xN 10 ?_); refine wV (g := gn) (x := x) rfl rfl HX.out (xX _) ?_; intro w6 hx6 h6; have T := aq (BuI.start H.out (HB5.out.trans (h6.below GN.out)) GN.out hx6); clear hx6 h6 HX HB5 GN; have F := aq T.out.first; have zk := (bq (T.out.at_ F.out) 0).trans (show _ = some (.int .i64 x.f0) from rfl)) | (go_at_call 44; refine (args_v F.out _ HARG.out).mono ?_; rintro e w7 ⟨rfl, hF⟩; clear F zk; have F := aq hF; clear hF; have z0 := (bq (T.out.at_ F.out) 0).trans (show _ = some (.int .i64 1) from by rw [← HK.out]; rfl); have z4 := (bq (T.out.at_ F.out) 4).trans (show _ = some (.int .i64 x.f4.f0) from rfl); have z5 := (bq (T.out.at_ F.out) 5).trans (show _ = some (.int .i64 x.f4.f1) from rfl)) | (go_at_call 45; refine (oT F.out x.f4).mono ?_; rintro e w8 ⟨rfl, hF⟩; clear F; have F := aq hF; clear hF; have T8 := aq (T.out.row F.out); obtain ⟨zt, ft⟩ := Kd.yZ 0 T8.out j HJ.out HLT.out; clear T8))
          go_wp2
          exact FIN.out _ _ HS.out (T.out.fin F.out j _)
        · have HK := aq hk
          clear hk
          have HARG := aq (show zI x.f0 = 0 by rw [HK.out]; rfl)
          have HS := aq (show xT yN nodes use (j.toNat + 1) = ((wJ st.1 (xU x.f5)).1, st.2.set j.toNat (wJ st.1 (xU x.f5)).2) from HSU.out.trans (by unfold uQ; rw [if_neg (by rw [HK.out]; decide), if_pos HK.out]))
          go_wp2_with (first | ((with_reducible refine yY 37 ?_); refine xC (t := 37) (cs := wY x) rfl (by kernel_rfl) (by kernel_rfl) HND.out ?_) | ((with_reducible refine gD (N := 10) rfl ?_); refine bE ?hg (N := 10) ?hd (cs := zC z37) (t := 37) ?hr ?_; (case hd => rfl); (case hg => rfl); (case hr => first | (go_simp; done) | (go_simp; rfl)); intro gn hgn w5 hbox hb; have HX := aq hbox; have HB5 := aq hb; have GN := aq (show wr.heap.size ≤ gn by rw [hgn]; exact Nat.le_refl _); clear hbox hb hgn) | ((with_reducible refine xN 10 ?_); refine wV (g := gn) (x := x) rfl rfl HX.out (xX _) ?_; intro w6 hx6 h6; have T := aq (BuI.start H.out (HB5.out.trans (h6.below GN.out)) GN.out hx6); clear hx6 h6 HX HB5 GN; have F := aq T.out.first; have zk := (bq (T.out.at_ F.out) 0).trans (show _ = some (.int .i64 x.f0) from rfl)) | (go_at_call 44; refine (args_v F.out _ HARG.out).mono ?_; rintro e w7 ⟨rfl, hF⟩; clear F zk; have F := aq hF; clear hF; have z0 := (bq (T.out.at_ F.out) 0).trans (show _ = some (.int .i64 2) from by rw [← HK.out]; rfl); have z6 := (bq (T.out.at_ F.out) 6).trans (show _ = some (.int .i64 x.f5.f0) from rfl); have z7 := (bq (T.out.at_ F.out) 7).trans (show _ = some (.int .i64 x.f5.f1) from rfl)) | (go_at_call 46; refine (put_w F.out (xU x.f5) (fun h => absurd h (show ¬ 0 < zI 2 by decide)) (fun h => absurd h (show ¬ 1 < zI 2 by decide))).mono ?_; rintro e w8 ⟨rfl, hF⟩; clear F; have F := aq hF; clear hF; have T8 := aq (T.out.row F.out); obtain ⟨zt, ft⟩ := Kd.yZ 0 T8.out j HJ.out HLT.out; clear T8))
          go_wp2
          exact FIN.out _ _ HS.out (T.out.fin F.out j _)
        · have HK := aq hk
          clear hk
          have HARG := aq (show zI x.f0 = 0 by rw [HK.out]; rfl)
          have HS := aq (show xT yN nodes use (j.toNat + 1) = ((wJ st.1 nodeT).1, st.2.set j.toNat (wJ st.1 nodeT).2) from HSU.out.trans (by unfold uQ; rw [if_neg (by rw [HK.out]; decide), if_neg (by rw [HK.out]; decide), if_pos HK.out]))
          go_wp2_with (first | ((with_reducible refine yY 37 ?_); refine xC (t := 37) (cs := wY x) rfl (by kernel_rfl) (by kernel_rfl) HND.out ?_) | ((with_reducible refine gD (N := 10) rfl ?_); refine bE ?hg (N := 10) ?hd (cs := zC z37) (t := 37) ?hr ?_; (case hd => rfl); (case hg => rfl); (case hr => first | (go_simp; done) | (go_simp; rfl)); intro gn hgn w5 hbox hb; have HX := aq hbox; have HB5 := aq hb; have GN := aq (show wr.heap.size ≤ gn by rw [hgn]; exact Nat.le_refl _); clear hbox hb hgn) | ((with_reducible refine xN 10 ?_); refine wV (g := gn) (x := x) rfl rfl HX.out (xX _) ?_; intro w6 hx6 h6; have T := aq (BuI.start H.out (HB5.out.trans (h6.below GN.out)) GN.out hx6); clear hx6 h6 HX HB5 GN; have F := aq T.out.first; have zk := (bq (T.out.at_ F.out) 0).trans (show _ = some (.int .i64 x.f0) from rfl)) | (go_at_call 44; refine (args_v F.out _ HARG.out).mono ?_; rintro e w7 ⟨rfl, hF⟩; clear F zk; have F := aq hF; clear hF; have z0 := (bq (T.out.at_ F.out) 0).trans (show _ = some (.int .i64 15) from by rw [← HK.out]; rfl)) | (go_at_call 46; refine (put_w F.out (nodeT) (fun h => absurd h (show ¬ 0 < zI 15 by decide)) (fun h => absurd h (show ¬ 1 < zI 15 by decide))).mono ?_; rintro e w8 ⟨rfl, hF⟩; clear F; have F := aq hF; clear hF; have T8 := aq (T.out.row F.out); obtain ⟨zt, ft⟩ := Kd.yZ 0 T8.out j HJ.out HLT.out; clear T8))
          go_wp2
          exact FIN.out _ _ HS.out (T.out.fin F.out j _)
        · by_cases hk8 : x.f0 = 8
          · have HK8 := aq hk8
            clear hk8
            have HARG := aq hk
            obtain ⟨⟨o10, o11⟩, v10, v11⟩ := HP.out.1 (by omega)
            have HO1 := aq (show 0 ≤ x.f1 ∧ x.f1 < (nodes.length : Int) from ⟨o10, o11⟩)
            have HV1 := aq (show 0 ≤ rd st.2 x.f1 ∧ rd st.2 x.f1 < (st.1.L.length : Int) from ⟨v10, v11⟩)
            have HKK := aq (show 3 ≤ x.f0 ∧ x.f0 ≤ 14 from ⟨by omega, hk2⟩)
            have HS := aq (show xT yN nodes use (j.toNat + 1) = ((tT yN st.1 x.f0 (rd st.2 x.f1) (rd st.2 x.f1) x.f3).1, st.2.set j.toNat (tT yN st.1 x.f0 (rd st.2 x.f1) (rd st.2 x.f1) x.f3).2) from HSU.out.trans (by unfold uQ; rw [if_neg (by omega), if_neg (by omega), if_neg (by omega), if_pos hk, if_pos HK8.out]))
            clear HSU hk hk1 hk2 v10 v11 HP
            go_upto_region 21 with (first | ((with_reducible refine yY 37 ?_); refine xC (t := 37) (cs := wY x) rfl (by kernel_rfl) (by kernel_rfl) HND.out ?_) | ((with_reducible refine gD (N := 10) rfl ?_); refine bE ?hg (N := 10) ?hd (cs := zC z37) (t := 37) ?hr ?_; (case hd => rfl); (case hg => rfl); (case hr => first | (go_simp; done) | (go_simp; rfl)); intro gn hgn w5 hbox hb; have HX := aq hbox; have HB5 := aq hb; have GN := aq (show wr.heap.size ≤ gn by rw [hgn]; exact Nat.le_refl _); clear hbox hb hgn) | ((with_reducible refine xN 10 ?_); refine wV (g := gn) (x := x) rfl rfl HX.out (xX _) ?_; intro w6 hx6 h6; have T := aq (BuI.start H.out (HB5.out.trans (h6.below GN.out)) GN.out hx6); clear hx6 h6 HX HB5 GN; have F := aq T.out.first; have zk := (bq (T.out.at_ F.out) 0).trans (show _ = some (.int .i64 x.f0) from rfl)) | (go_at_call 44; refine (args_v F.out _ HARG.out).mono ?_; rintro e w7 ⟨rfl, hF⟩; clear F zk; have F := aq hF; clear hF; have z0 := (bq (T.out.at_ F.out) 0).trans (show _ = some (.int .i64 8) from by rw [← HK8.out]; rfl); have z3 := (bq (T.out.at_ F.out) 3).trans (show _ = some (.int .i64 x.f3) from rfl)))
            have F8 := aq (F.out.step (yX (Below.refl _ _)))
            clear F
            have F := F8
            clear F8
            refine xK (n := 19) (S := fun w' => w'.cell? ⟨gn, 0, none⟩ = some (.int .i64 x.f0) ∧ w'.cell? ⟨gn, 1, none⟩ = some (.int .i64 x.f1) ∧ w'.cell? ⟨gv, x.f1.toNat, none⟩ = some (.int .i64 (rd st.2 x.f1))) (ds := [16, 18]) (msk 19 0) (by kernel_rfl) rfl rfl ⟨(bq (T.out.at_ F.out) 0).trans rfl, (bq (T.out.at_ F.out) 1).trans rfl, (Kd.yZ 0 (T.out.row F.out) x.f1 HO1.out.1 HO1.out.2).1⟩ (fun hHeld => ?_); refine yO rR.tab21 rR.bits21 (fun HT_ HW_ => ?_)
            generalize w7.drew = w7 at F hHeld ⊢
            refine pU 0 89 (msk 19 1) HT_.out ?_
            refine pU 1 90 (msk 19 3) HT_.out ?_
            refine pU 2 91 (msk 19 7) HT_.out ?_
            refine pU 3 92 (msk 19 15) HT_.out ?_
            refine tU 4 93 (msk 19 31) HT_.out HW_.out hHeld ?_ ?_ ?_
            rotate_left
            · rintro w' ⟨s0, s1, s2⟩; go_simp; with_reducible rfl
            refine pU 5 94 (msk 19 63) HT_.out ?_
            refine pU 6 95 (msk 19 127) HT_.out ?_
            refine tU 7 96 (msk 19 255) HT_.out HW_.out hHeld ?_ ?_ ?_
            rotate_left
            · rintro w' ⟨s0, s1, s2⟩; go_simp; with_reducible rfl
            refine pU 8 97 (msk 19 511) HT_.out ?_
            refine tU 9 98 (msk 19 1023) HT_.out HW_.out hHeld ?_ ?_ ?_
            rotate_left
            · rintro w' ⟨s0, s1, s2⟩; go_simp; with_reducible rfl
            refine pU 10 99 (msk 19 2047) HT_.out ?_
            refine pU 11 100 (msk 19 4095) HT_.out ?_
            refine tU 12 101 (msk 19 8191) HT_.out HW_.out hHeld ?_ ?_ ?_
            rotate_left
            · rintro w' ⟨s0, s1, s2⟩; go_simp; with_reducible rfl
            refine pU 13 102 (msk 19 16383) HT_.out ?_
            refine tU 14 103 (msk 19 32767) HT_.out HW_.out hHeld ?_ ?_ ?_
            rotate_left
            · rintro w' ⟨s0, s1, s2⟩; go_simp; with_reducible rfl
            refine pU 15 104 (msk 19 65535) HT_.out ?_
            refine uB (i := 16) (N := some 105) (msk 19 131071) rfl rfl (zG HT_.out (by kernel_rfl)) (by decide) (fun K hK => ?_)
            refine uN Try.func47 (by kernel_rfl) rfl #[.pointer (some ⟨gG, 0, none⟩), .int .i64 x.f0, .int .i64 (rd st.2 x.f1), .int .i64 (rd st.2 x.f1), .int .i64 x.f3] (by rfl) rfl rfl (by (try simp only [List.map_toArray, List.map_cons, List.map_nil]); first | done | rfl) ?_
            refine (make47 F.out HI2.out x.f0 _ _ x.f3 HKK.out.1 HKK.out.2 HV1.out.1 HV1.out.2 HV1.out.1 HV1.out.2).mono ?_
            rintro e w8 ⟨rfl, hF⟩
            refine ⟨_, rfl, ?_⟩
            clear F
            have F := aq hF
            clear hF
            refine hK.out _ _ ?_
            clear hK K hHeld
            refine xV (a' := ?_) ?_ ?_
            rotate_left
            · show Act.put _ (some 105) _ = _
              simp only [Act.put, sq, iw, jw]
              rfl
            have T8 := aq (T.out.row F.out)
            obtain ⟨zt, ft⟩ := Kd.yZ 0 T8.out j HJ.out HLT.out
            clear T8
            refine pU 17 106 (msk 19 262143) HT_.out ?_
            refine uB (i := 18) (N := none) (msk 19 524287) rfl rfl (zG HT_.out (by kernel_rfl)) (by decide) (fun K hK => ?_)
            refine sZ (w1 := w8.setCell ⟨gv, j.toNat, none⟩ (.int .i64 (tT yN st.1 x.f0 (rd st.2 x.f1) (rd st.2 x.f1) x.f3).2)) (by rfl) rfl ?_ ?_
            · go_simp
              try rfl
            refine hK.out _ _ ?_
            clear hK K
            refine wX (yG HT_.out (by kernel_rfl)) ?_
            go_wp2
            exact FIN.out _ _ HS.out (T.out.fin F.out j _)
          · have HK8 := aq (show (x.f0 == 8) = false from beq_eq_false_iff_ne.mpr hk8)
            have hk8n := hk8
            have hk8b := HK8.out
            clear hk8
            have HARG := aq hk
            obtain ⟨⟨o10, o11⟩, v10, v11⟩ := HP.out.1 (by omega)
            have HO1 := aq (show 0 ≤ x.f1 ∧ x.f1 < (nodes.length : Int) from ⟨o10, o11⟩)
            have HV1 := aq (show 0 ≤ rd st.2 x.f1 ∧ rd st.2 x.f1 < (st.1.L.length : Int) from ⟨v10, v11⟩)
            have HKK := aq (show 3 ≤ x.f0 ∧ x.f0 ≤ 14 from ⟨by omega, hk2⟩)
            have HS := aq (show xT yN nodes use (j.toNat + 1) = ((tT yN st.1 x.f0 (rd st.2 x.f1) (rd st.2 x.f1) 0).1, st.2.set j.toNat (tT yN st.1 x.f0 (rd st.2 x.f1) (rd st.2 x.f1) 0).2) from HSU.out.trans (by unfold uQ; rw [if_neg (by omega), if_neg (by omega), if_neg (by omega), if_pos hk, if_neg hk8n]))
            clear HSU hk hk1 hk2 v10 v11 HP hk8n
            go_upto_region 21 with (first | ((with_reducible refine yY 37 ?_); refine xC (t := 37) (cs := wY x) rfl (by kernel_rfl) (by kernel_rfl) HND.out ?_) | ((with_reducible refine gD (N := 10) rfl ?_); refine bE ?hg (N := 10) ?hd (cs := zC z37) (t := 37) ?hr ?_; (case hd => rfl); (case hg => rfl); (case hr => first | (go_simp; done) | (go_simp; rfl)); intro gn hgn w5 hbox hb; have HX := aq hbox; have HB5 := aq hb; have GN := aq (show wr.heap.size ≤ gn by rw [hgn]; exact Nat.le_refl _); clear hbox hb hgn) | ((with_reducible refine xN 10 ?_); refine wV (g := gn) (x := x) rfl rfl HX.out (xX _) ?_; intro w6 hx6 h6; have T := aq (BuI.start H.out (HB5.out.trans (h6.below GN.out)) GN.out hx6); clear hx6 h6 HX HB5 GN; have F := aq T.out.first; have zk := (bq (T.out.at_ F.out) 0).trans (show _ = some (.int .i64 x.f0) from rfl)) | (go_at_call 44; refine (args_v F.out _ HARG.out).mono ?_; rintro e w7 ⟨rfl, hF⟩; clear F zk; have F := aq hF; clear hF; have z0 := (bq (T.out.at_ F.out) 0).trans (show _ = some (.int .i64 x.f0) from rfl)))
            have F8 := aq (F.out.step (yX (Below.refl _ _)))
            clear F
            have F := F8
            clear F8
            refine xK (n := 19) (S := fun w' => w'.cell? ⟨gn, 0, none⟩ = some (.int .i64 x.f0) ∧ w'.cell? ⟨gn, 1, none⟩ = some (.int .i64 x.f1) ∧ w'.cell? ⟨gv, x.f1.toNat, none⟩ = some (.int .i64 (rd st.2 x.f1))) (ds := [16, 18]) (msk 19 0) (by kernel_rfl) rfl rfl ⟨(bq (T.out.at_ F.out) 0).trans rfl, (bq (T.out.at_ F.out) 1).trans rfl, (Kd.yZ 0 (T.out.row F.out) x.f1 HO1.out.1 HO1.out.2).1⟩ (fun hHeld => ?_); refine yO rR.tab21 rR.bits21 (fun HT_ HW_ => ?_)
            generalize w7.drew = w7 at F hHeld ⊢
            refine pU 0 89 (msk 19 1) HT_.out ?_
            refine pU 1 90 (msk 19 3) HT_.out ?_
            refine pU 2 91 (msk 19 7) HT_.out ?_
            refine pU 3 92 (msk 19 15) HT_.out ?_
            refine tU 4 93 (msk 19 31) HT_.out HW_.out hHeld ?_ ?_ ?_
            rotate_left
            · rintro w' ⟨s0, s1, s2⟩; go_simp; with_reducible rfl
            refine pU 5 94 (msk 19 63) HT_.out ?_
            refine pU 6 95 (msk 19 127) HT_.out ?_
            refine tU 7 96 (msk 19 255) HT_.out HW_.out hHeld ?_ ?_ ?_
            rotate_left
            · rintro w' ⟨s0, s1, s2⟩; go_simp; with_reducible rfl
            refine pU 8 97 (msk 19 511) HT_.out ?_
            refine tU 9 98 (msk 19 1023) HT_.out HW_.out hHeld ?_ ?_ ?_
            rotate_left
            · rintro w' ⟨s0, s1, s2⟩; go_simp; with_reducible rfl
            refine pU 10 99 (msk 19 2047) HT_.out ?_
            refine pU 11 100 (msk 19 4095) HT_.out ?_
            refine tU 12 101 (msk 19 8191) HT_.out HW_.out hHeld ?_ ?_ ?_
            rotate_left
            · rintro w' ⟨s0, s1, s2⟩; go_simp; with_reducible rfl
            refine pU 13 102 (msk 19 16383) HT_.out ?_
            refine tU 14 103 (msk 19 32767) HT_.out HW_.out hHeld ?_ ?_ ?_
            rotate_left
            · rintro w' ⟨s0, s1, s2⟩; go_simp; with_reducible rfl
            refine pU 15 104 (msk 19 65535) HT_.out ?_
            refine uB (i := 16) (N := some 105) (msk 19 131071) rfl rfl (zG HT_.out (by kernel_rfl)) (by decide) (fun K hK => ?_)
            refine uN Try.func47 (by kernel_rfl) rfl #[.pointer (some ⟨gG, 0, none⟩), .int .i64 x.f0, .int .i64 (rd st.2 x.f1), .int .i64 (rd st.2 x.f1), .int .i64 0] (by rfl) rfl rfl (by (try simp only [List.map_toArray, List.map_cons, List.map_nil]); first | done | rfl) ?_
            refine (make47 F.out HI2.out x.f0 _ _ 0 HKK.out.1 HKK.out.2 HV1.out.1 HV1.out.2 HV1.out.1 HV1.out.2).mono ?_
            rintro e w8 ⟨rfl, hF⟩
            refine ⟨_, rfl, ?_⟩
            clear F
            have F := aq hF
            clear hF
            refine hK.out _ _ ?_
            clear hK K hHeld
            refine xV (a' := ?_) ?_ ?_
            rotate_left
            · show Act.put _ (some 105) _ = _
              simp only [Act.put, sq, iw, jw]
              rfl
            have T8 := aq (T.out.row F.out)
            obtain ⟨zt, ft⟩ := Kd.yZ 0 T8.out j HJ.out HLT.out
            clear T8
            refine pU 17 106 (msk 19 262143) HT_.out ?_
            refine uB (i := 18) (N := none) (msk 19 524287) rfl rfl (zG HT_.out (by kernel_rfl)) (by decide) (fun K hK => ?_)
            refine sZ (w1 := w8.setCell ⟨gv, j.toNat, none⟩ (.int .i64 (tT yN st.1 x.f0 (rd st.2 x.f1) (rd st.2 x.f1) 0).2)) (by rfl) rfl ?_ ?_
            · go_simp
              try rfl
            refine hK.out _ _ ?_
            clear hK K
            refine wX (yG HT_.out (by kernel_rfl)) ?_
            go_wp2
            exact FIN.out _ _ HS.out (T.out.fin F.out j _)
        · have HARG := aq hk
          obtain ⟨⟨o10, o11⟩, v10, v11⟩ := HP.out.1 (by omega)
          obtain ⟨⟨o20, o21⟩, v20, v21⟩ := HP.out.2 (by omega)
          have HO1 := aq (show 0 ≤ x.f1 ∧ x.f1 < (nodes.length : Int) from ⟨o10, o11⟩)
          have HV1 := aq (show 0 ≤ rd st.2 x.f1 ∧ rd st.2 x.f1 < (st.1.L.length : Int) from ⟨v10, v11⟩)
          have HO2 := aq (show 0 ≤ x.f2 ∧ x.f2 < (nodes.length : Int) from ⟨o20, o21⟩)
          have HV2 := aq (show 0 ≤ rd st.2 x.f2 ∧ rd st.2 x.f2 < (st.1.L.length : Int) from ⟨v20, v21⟩)
          have HKK := aq (show 3 ≤ x.f0 ∧ x.f0 ≤ 14 from ⟨hk1, by omega⟩)
          have HS := aq (show xT yN nodes use (j.toNat + 1) = ((tT yN st.1 x.f0 (rd st.2 x.f1) (rd st.2 x.f2) 0).1, st.2.set j.toNat (tT yN st.1 x.f0 (rd st.2 x.f1) (rd st.2 x.f2) 0).2) from HSU.out.trans (by unfold uQ; rw [if_neg (by omega), if_neg (by omega), if_neg (by omega), if_neg (by omega)]))
          clear HSU hk hk1 hk2 v10 v11 v20 v21 HP
          go_upto_region 9 with (first | ((with_reducible refine yY 37 ?_); refine xC (t := 37) (cs := wY x) rfl (by kernel_rfl) (by kernel_rfl) HND.out ?_) | ((with_reducible refine gD (N := 10) rfl ?_); refine bE ?hg (N := 10) ?hd (cs := zC z37) (t := 37) ?hr ?_; (case hd => rfl); (case hg => rfl); (case hr => first | (go_simp; done) | (go_simp; rfl)); intro gn hgn w5 hbox hb; have HX := aq hbox; have HB5 := aq hb; have GN := aq (show wr.heap.size ≤ gn by rw [hgn]; exact Nat.le_refl _); clear hbox hb hgn) | ((with_reducible refine xN 10 ?_); refine wV (g := gn) (x := x) rfl rfl HX.out (xX _) ?_; intro w6 hx6 h6; have T := aq (BuI.start H.out (HB5.out.trans (h6.below GN.out)) GN.out hx6); clear hx6 h6 HX HB5 GN; have F := aq T.out.first; have zk := (bq (T.out.at_ F.out) 0).trans (show _ = some (.int .i64 x.f0) from rfl)) | (go_at_call 44; refine (args_v F.out _ HARG.out).mono ?_; rintro e w7 ⟨rfl, hF⟩; clear F zk; have F := aq hF; clear hF))
          have F8 := aq (F.out.step (yX (Below.refl _ _)))
          clear F
          have F := F8
          clear F8
          refine xK (n := 18) (S := fun w' => w'.cell? ⟨gn, 0, none⟩ = some (.int .i64 x.f0) ∧ w'.cell? ⟨gn, 1, none⟩ = some (.int .i64 x.f1) ∧ w'.cell? ⟨gn, 2, none⟩ = some (.int .i64 x.f2) ∧ w'.cell? ⟨gv, x.f1.toNat, none⟩ = some (.int .i64 (rd st.2 x.f1)) ∧ w'.cell? ⟨gv, x.f2.toNat, none⟩ = some (.int .i64 (rd st.2 x.f2))) (ds := [15, 17]) (msk 18 0) (by kernel_rfl) rfl rfl ⟨(bq (T.out.at_ F.out) 0).trans rfl, (bq (T.out.at_ F.out) 1).trans rfl, (bq (T.out.at_ F.out) 2).trans rfl, (Kd.yZ 0 (T.out.row F.out) x.f1 HO1.out.1 HO1.out.2).1, (Kd.yZ 0 (T.out.row F.out) x.f2 HO2.out.1 HO2.out.2).1⟩ (fun hHeld => ?_); refine yO oR.tab9 oR.bits9 (fun HT_ HW_ => ?_)
          generalize w7.drew = w7 at F hHeld ⊢
          refine pU 0 36 (msk 18 1) HT_.out ?_
          refine pU 1 37 (msk 18 3) HT_.out ?_
          refine pU 2 38 (msk 18 7) HT_.out ?_
          refine pU 3 39 (msk 18 15) HT_.out ?_
          refine tU 4 40 (msk 18 31) HT_.out HW_.out hHeld ?_ ?_ ?_
          rotate_left
          · rintro w' ⟨s0, s1, s2, s3, s4⟩; go_simp; with_reducible rfl
          refine pU 5 41 (msk 18 63) HT_.out ?_
          refine pU 6 42 (msk 18 127) HT_.out ?_
          refine tU 7 43 (msk 18 255) HT_.out HW_.out hHeld ?_ ?_ ?_
          rotate_left
          · rintro w' ⟨s0, s1, s2, s3, s4⟩; go_simp; with_reducible rfl
          refine pU 8 44 (msk 18 511) HT_.out ?_
          refine tU 9 45 (msk 18 1023) HT_.out HW_.out hHeld ?_ ?_ ?_
          rotate_left
          · rintro w' ⟨s0, s1, s2, s3, s4⟩; go_simp; with_reducible rfl
          refine pU 10 46 (msk 18 2047) HT_.out ?_
          refine pU 11 47 (msk 18 4095) HT_.out ?_
          refine tU 12 48 (msk 18 8191) HT_.out HW_.out hHeld ?_ ?_ ?_
          rotate_left
          · rintro w' ⟨s0, s1, s2, s3, s4⟩; go_simp; with_reducible rfl
          refine pU 13 49 (msk 18 16383) HT_.out ?_
          refine tU 14 50 (msk 18 32767) HT_.out HW_.out hHeld ?_ ?_ ?_
          rotate_left
          · rintro w' ⟨s0, s1, s2, s3, s4⟩; go_simp; with_reducible rfl
          refine uB (i := 15) (N := some 51) (msk 18 65535) rfl rfl (zG HT_.out (by kernel_rfl)) (by decide) (fun K hK => ?_)
          refine uN Try.func48 (by kernel_rfl) rfl #[.pointer (some ⟨gG, 0, none⟩), .int .i64 x.f0, .int .i64 (rd st.2 x.f1), .int .i64 (rd st.2 x.f2)] (by rfl) rfl rfl (by (try simp only [List.map_toArray, List.map_cons, List.map_nil]); first | done | rfl) ?_
          refine (two48 F.out HI2.out x.f0 _ _ HKK.out.1 HKK.out.2 HV1.out.1 HV1.out.2 HV2.out.1 HV2.out.2).mono ?_
          rintro e w8 ⟨rfl, hF⟩
          refine ⟨_, rfl, ?_⟩
          clear F
          have F := aq hF
          clear hF
          refine hK.out _ _ ?_
          clear hK K hHeld
          refine xV (a' := ?_) ?_ ?_
          rotate_left
          · show Act.put _ (some 51) _ = _
            simp only [Act.put, sq, iw, jw]
            rfl
          have T8 := aq (T.out.row F.out)
          obtain ⟨zt, ft⟩ := Kd.yZ 0 T8.out j HJ.out HLT.out
          clear T8
          refine pU 16 52 (msk 18 131071) HT_.out ?_
          refine uB (i := 17) (N := none) (msk 18 262143) rfl rfl (zG HT_.out (by kernel_rfl)) (by decide) (fun K hK => ?_)
          refine sZ (w1 := w8.setCell ⟨gv, j.toNat, none⟩ (.int .i64 (tT yN st.1 x.f0 (rd st.2 x.f1) (rd st.2 x.f2) 0).2)) (by rfl) rfl ?_ ?_
          · go_simp
            try rfl
          refine hK.out _ _ ?_
          clear hK K
          refine wX (yG HT_.out (by kernel_rfl)) ?_
          go_wp2
          exact FIN.out _ _ HS.out (T.out.fin F.out j _)
    · obtain rfl : j = (nodes.length : Int) := by omega
      rw [Int.toNat_natCast, ← HRES.out] at H
      have d1 := eq_false (show ¬ (nodes.length : Int) < (nodes.length : Int) by omega)
      clear hlt j0 j1 HRU
      go_wp2
      refine bodyPost_ret (results_tmp2 rfl _ _ _) rfl ?_
      exact ⟨gG, gM, B0, Av, cv, Au, cu, rfl, by rw [HUS.out, HRS.out]; exact H.out⟩
structure ClF (Av : Option Addr) (n cv : Nat) (Au : Option Addr) (cu : Nat) (use : List Bool) (w : World) (vo : Value) (st : List S37 × List Int) (V : World) : Prop where
  out : Kd.R k37 37 V w.heap.size (fun _ => True) vo st.1
  tv : Kd.R (Kd.int .i64) 3 V w.heap.size (fun _ => True) (.slice Av n cv) st.2
  us : Kd.R Kd.bool 4 V w.heap.size (fun _ => True) (.slice Au n cu) use
  B : Below w.heap.size w V
structure ClI (Av : Option Addr) (n cv : Nat) (Au : Option Addr) (cu : Nat) (use : List Bool) (w : World) (vo : Value) (st : List S37 × List Int) (x : S37) (gn : Nat) (V : World) : Prop where
  out : Kd.R k37 37 V w.heap.size (fun k => k ≠ gn) vo st.1
  tv : Kd.R (Kd.int .i64) 3 V w.heap.size (fun _ => True) (.slice Av n cv) st.2
  us : Kd.R Kd.bool 4 V w.heap.size (fun _ => True) (.slice Au n cu) use
  B : Below w.heap.size w V
  box : V.heap[gn]? = some (.cells (zC x) 37 (0, 0))
  ge : w.heap.size ≤ gn
section
variable {Av : Option Addr} {n cv : Nat} {Au : Option Addr} {cu : Nat} {use : List Bool} {w : World} {vo : Value} {st : List S37 × List Int} {x : S37} {gn : Nat} {V V' : World}
theorem ClF.step (h : ClF Av n cv Au cu use w vo st V) (hd : Below V.heap.size V V') : ClF Av n cv Au cu use w vo st V' := ⟨Kd.zL h.out hd, Kd.zL h.tv hd, Kd.zL h.us hd, bt_ h.B hd⟩
theorem ClI.step (h : ClI Av n cv Au cu use w vo st x gn V) (hd : Below V.heap.size V V') : ClI Av n cv Au cu use w vo st x gn V' := ⟨Kd.zL h.out hd, Kd.zL h.tv hd, Kd.zL h.us hd, bt_ h.B hd, bb_ h.box hd, h.ge⟩
theorem ClI.start (h : ClF Av n cv Au cu use w vo st V) (hd : Below V.heap.size V V') (hg : V.heap.size ≤ gn) (hb : V'.heap[gn]? = some (.cells (zC x) 37 (0, 0))) : ClI Av n cv Au cu use w vo st x gn V' :=
  ⟨Kd.zL (Kd.xF (Kd.uP h.out) (fun k hk => by have := hk.2.2.1; show k ≠ gn; omega)) hd, Kd.zL h.tv hd, Kd.zL h.us hd, bt_ h.B hd, hb, Nat.le_trans h.B.size hg⟩
theorem ClI.set {y : S37} (h : ClI Av n cv Au cu use w vo st x gn V) (j : Nat) (u : Value) (hy : (V.setCell ⟨gn, j, none⟩ u).heap[gn]? = some (.cells (zC y) 37 (0, 0))) : ClI Av n cv Au cu use w vo st y gn (V.setCell ⟨gn, j, none⟩ u) :=
  ⟨Kd.R_far h.out (fun k hk => hk) u, Kd.vW h.tv h.box (by decide) j u, Kd.vW h.us h.box (by decide) j u, bs_ h.B h.ge, hy, h.ge⟩
theorem ClI.put {gv : Nat} (h : ClI (some ⟨gv, 0, none⟩) n cv Au cu use w vo st x gn V) (j i : Int) : ClI (some ⟨gv, 0, none⟩) n cv Au cu use w vo (st.1, st.2.set j.toNat i) x gn (V.setCell ⟨gv, j.toNat, none⟩ (.int .i64 i)) := by
  obtain ⟨cells, ht⟩ := Kd.tW h.tv gv rfl
  exact ⟨Kd.vW h.out ht (by decide) _ _, (Kd.R_putg h.tv j i).1, Kd.vW h.us ht (by decide) _ _, bs_ h.B (Kd.oO h.tv gv rfl), (Below.heap_setCell V ⟨gv, j.toNat, none⟩ _ gn (rN h.box ht (by decide))).trans h.box, h.ge⟩
end
theorem set1 (x : S37) (v : Int) : (zC x).setIfInBounds 1 (.int .i64 v) = zC { x with f1 := v } := rfl
theorem renN0 {tv : List Int} {x : S37} (h : ¬ 0 < zI x.f0) : renN tv x = x := if_neg h
theorem renN1 {tv : List Int} {x : S37} (h : zI x.f0 = 1) : renN tv x = { x with f1 := rd tv x.f1 } := by unfold renN; rw [if_pos (by omega), if_neg (by omega)]
theorem renN2 {tv : List Int} {x : S37} (h : zI x.f0 = 2) : renN tv x = { x with f1 := rd tv x.f1, f2 := rd tv x.f2 } := by unfold renN; rw [if_pos (by omega), if_pos (by omega)]
theorem cRun_succ (nodes : List S37) (use : List Bool) (k : Nat) : tC nodes use (k + 1) = if zJ false use (k : Int) = true then ((tC nodes use k).1 ++ [renN (tC nodes use k).2 (rT nodes (k : Int))], (tC nodes use k).2.set k ((tC nodes use k).1.length : Int)) else tC nodes use k := rfl
theorem cleared23 (nodes : List S37) (roots : List Int) (A : Option Addr) (c : Nat) (A1 : Option Addr) (c1 : Nat) (w : World) (hC : Kd.C k37 w A nodes.length nodes) (hc : nodes.length ≤ c) (hR : Kd.C (Kd.int .i64) w A1 roots.length roots) (hc1 : roots.length ≤ c1) (ha : qK nodes) (hroots : ∀ r ∈ roots, 0 ≤ r ∧ r < (nodes.length : Int)) (hl4 : nodes.length ≤ 4000) :
    Calls Try.prog 23 #[.slice A nodes.length c, .slice A1 roots.length c1] w fun e w' => ∃ vo Av cv Au cu, e = .returned (.tuple #[vo, .slice Av nodes.length cv]) ∧ ClF Av nodes.length cv Au cu (yH nodes roots) w vo (wO nodes roots) w' := by
  have hu37 := Try.underlying37
  have hsh := uU ha hroots
  have HROOTS := aq hroots
  have HOK := aq (show OpsOK nodes from ahead_ops ha)
  have HLEN := aq hl4
  have HC := aq hC
  have HR := aq hR
  have HAH := aq ha
  have HRUN := aq (fun k hk => cRun_ok (use := yH nodes roots) ha hsh k hk)
  clear hC hR hroots hl4 ha hsh
  go_enter Try.func23, Try.ntmps23
  go_wp2_with (first | ((with_reducible refine gD (N := 14) rfl ?_); refine Kd.R_make (Kd.int .i64) (w0 := w) w.heap.size 3 rfl (N := 14) rfl 23 _ _ rfl (nodes.length : Int) rfl rfl Try.underlying23 (.int .i64 0) 8 sV rfl (by decide) (by omega) 0 (ok := fun _ => True) (okp := fun _ => True) rfl (fun _ hk => hk) trivial (by omega) (by rw [Int.toNat_natCast]; have := HLEN.out; omega) (Below.refl _ _) (Nat.le_refl _) ?_; intro v3 w3 hr3 hb3 hg_ hnew_; clear hg_ hnew_; rw [Int.toNat_natCast] at hr3; obtain ⟨Av, cv, ev⟩ := Kd.yT hr3; subst ev; rw [List.length_replicate] at hr3 ⊢; have HT := aq hr3; have HB := aq hb3; clear hr3 hb3) | (go_at_call 25; refine (needed25 nodes roots A c A1 c1 _ (Kd.xZ HC.out HB.out) hc (Kd.xZ HR.out HB.out) hc1 HROOTS.out HOK.out (by have := HLEN.out; omega)).mono ?_; rintro e w4 ⟨v4, rfl, hr4, hb4⟩; obtain ⟨Au, cu, eu⟩ := Kd.yT hr4; subst eu; rw [oF] at hr4 ⊢; have HU := aq (Kd.vJ hr4 HB.out.size); have HT4 := aq (Kd.zL HT.out hb4); have HB4 := aq (bt_ HB.out hb4); clear hr4 hb4 HT HB; have HT := HT4; have HB := HB4; clear HT4 HB4))
  have HUL := aq (oF nodes roots)
  have H0 := aq (show ClF Av nodes.length cv Au cu (yH nodes roots) w (.slice none 0 0) (tC nodes (yH nodes roots) 0) w4 from ⟨Kd.rK _ _ _ _ _, HT.out, HU.out, HB.out⟩)
  clear HT HU HB
  have HRES := aq (show wO nodes roots = tC nodes (yH nodes roots) nodes.length from rfl)
  obtain ⟨res, hres⟩ : ∃ res, wO nodes roots = res := ⟨_, rfl⟩
  rw [hres] at HRES
  have HRS := aq hres
  obtain ⟨use, hus⟩ : ∃ use, yH nodes roots = use := ⟨_, rfl⟩
  rw [hus] at H0 HRUN HUL HRES
  have HUS := aq hus
  clear hres hus
  go_loopw [7, 19] (fun s7 i wr => ∃ (j : Int), 0 ≤ j ∧ j ≤ (nodes.length : Int) ∧ i = .int .i64 j ∧ zT (ClF Av nodes.length cv Au cu use w s7 (tC nodes use j.toNat) wr)) (fun _ i _ => nodes.length - (intOf i).toNat)
  case atStart => exact ⟨0, Int.le_refl _, by omega, rfl, H0⟩
  case round =>
    obtain ⟨j, j0, j1, rfl, H⟩ := hrel
    clear H0
    by_cases hlt : j < (nodes.length : Int)
    · have hst := HRUN.out j.toNat (by omega)
      have hsu := cRun_succ nodes use j.toNat
      have hjn : ((j.toNat : Nat) : Int) = j := by omega
      rw [hjn] at hsu
      have HW := aq (show wrap64 (j + 1) = j + 1 by unfold wrap64; have := HLEN.out; omega)
      have fin : ∀ (V : World) (vo : Value) (st' : List S37 × List Int), tC nodes use (j.toNat + 1) = st' → ClF Av nodes.length cv Au cu use w vo st' V →
          (∃ (j_1 : Int), 0 ≤ j_1 ∧ j_1 ≤ (nodes.length : Int) ∧ (Value.int .i64 (wrap64 (j + 1))) = .int .i64 j_1 ∧ zT (ClF Av nodes.length cv Au cu use w vo (tC nodes use j_1.toNat) V)) ∧ nodes.length - (intOf (.int .i64 (wrap64 (j + 1)))).toNat < nodes.length - (intOf (.int .i64 j)).toNat := fun V vo st' hs h => by
        have hw := HW.out
        subst hs
        rw [hw]
        refine ⟨⟨j + 1, by omega, by omega, rfl, ?_⟩, ?_⟩
        · rw [show (j + 1).toNat = j.toNat + 1 by omega]; exact ⟨h⟩
        · simp only [intOf]; omega
      have hah := HAH.out j.toNat (by omega)
      rw [hjn] at hah
      have hlen : (tC nodes use j.toNat).1.length ≤ j.toNat := by
        rw [hst.1, List.length_map]
        have := List.length_filter_le (fun i => zJ false use ((i : Nat) : Int)) (List.range j.toNat)
        rw [List.length_range] at this
        exact this
      have hlen2 := hst.2.1
      generalize tC nodes use j.toNat = st at H hst hsu hlen hlen2
      obtain ⟨gv, _, ev, _⟩ := Kd.uK H.out.tv (by rw [hlen2]; omega)
      obtain ⟨gu, _, eu, _⟩ := Kd.uK H.out.us (by rw [HUL.out]; omega)
      injection ev with ev e2 e3
      clear e2 e3
      injection eu with eu e2 e3
      clear e2 e3
      subst ev
      subst eu
      obtain ⟨hx1, hf1⟩ := Kd.yZ false H.out.us j j0 hlt
      have FIN := aq fin
      have HSU0 := aq hsu
      have HJ := aq j0
      have HLT := aq hlt
      have HLN := aq (show st.1.length < 4000 by have := HLEN.out; omega)
      have j0t := eq_true j0
      have hltt := eq_true hlt
      have hops : (0 < zI (rT nodes j).f0 → 0 ≤ (rT nodes j).f1 ∧ (rT nodes j).f1 < (nodes.length : Int)) ∧ (1 < zI (rT nodes j).f0 → 0 ≤ (rT nodes j).f2 ∧ (rT nodes j).f2 < (nodes.length : Int)) := ⟨fun k => ⟨(hah.1 k).1, by have := (hah.1 k).2; omega⟩, fun k => ⟨(hah.2 k).1, by have := (hah.2 k).2; omega⟩⟩
      clear fin hsu HRUN HW j1 hjn hst hah hlen hlen2
      cases hb : zJ false use j with
      | false =>
        rw [hb] at hx1
        have HS := aq (show tC nodes use (j.toNat + 1) = st from HSU0.out.trans (by rw [hb]; rfl))
        clear HSU0 hb j0 hlt hops
        go_wp2
        exact FIN.out _ _ _ HS.out H.out
      | true =>
        rw [hb] at hx1
        have hsu := HSU0.out
        rw [hb, if_pos rfl] at hsu
        obtain ⟨ad, eA, hnd⟩ := node_at HC.out H.out.B (Nat.le_refl _) j j0 hlt
        subst eA
        have HND := aq hnd
        generalize rT nodes j = x at HND hsu hops
        obtain ⟨Ao, co, eo⟩ := Kd.yT H.out.out
        subst eo
        have HS := aq (show tC nodes use (j.toNat + 1) = (st.1 ++ [renN st.2 x], st.2.set j.toNat (st.1.length : Int)) from hsu)
        have hrn0 : ¬ 0 < zI x.f0 → renN st.2 x = x := renN0
        have hrn1 : zI x.f0 = 1 → renN st.2 x = { x with f1 := rd st.2 x.f1 } := renN1
        have hrn2 : zI x.f0 = 2 → renN st.2 x = { x with f1 := rd st.2 x.f1, f2 := rd st.2 x.f2 } := renN2
        generalize renN st.2 x = y at HS hrn0 hrn1 hrn2
        clear HSU0 hb hnd j0 hlt hsu
        rcases (show zI x.f0 = 2 ∨ zI x.f0 = 1 ∨ (zI x.f0 ≤ 0 ∧ (zI x.f0 = 0 ∨ zI x.f0 = -1)) by rcases sD x.f0 with h | h | h | h <;> omega) with hk | hk | ⟨hk0, hk | hk⟩
        · have HARG := aq (show zD.f 9 x.f0 = some 2 from (tF x.f0).trans (by rw [hk]))
          have HO1 := aq (hops.1 (by omega))
          obtain ⟨o10, o11⟩ := HO1.out
          have HO2 := aq (hops.2 (by omega))
          obtain ⟨o20, o21⟩ := HO2.out
          have HY0 := aq (show y = { x with f1 := rd st.2 x.f1, f2 := rd st.2 x.f2 } from hrn2 hk)
          clear hops hk hrn0 hrn1 hrn2
          go_upto_region 13 with (first | ((with_reducible refine yY 37 ?_); refine xC (t := 37) (cs := wY x) rfl (by kernel_rfl) (by kernel_rfl) HND.out ?_) | ((with_reducible refine gD (N := 10) rfl ?_); refine bE ?hg (N := 10) ?hd (cs := zC z37) (t := 37) ?hr ?_; (case hd => rfl); (case hg => rfl); (case hr => first | (go_simp; done) | (go_simp; rfl)); intro gn hgn w5 hbox hb; have HX := aq hbox; have HB5 := aq hb; have GN := aq (show wr.heap.size ≤ gn by rw [hgn]; exact Nat.le_refl _); clear hbox hb hgn) | ((with_reducible refine xN 10 ?_); refine wV (g := gn) (x := x) rfl rfl HX.out (xX _) ?_; intro w6 hx6 h6; have T := aq (ClI.start H.out (HB5.out.trans (h6.below GN.out)) GN.out hx6); clear hx6 h6 HX HB5 GN; have zk := (bq T.out.box 0).trans (show _ = some (.int .i64 x.f0) from rfl)) | (go_at_call 44; refine (zD.calls 9 _ _ _ HARG.out).mono ?_; rintro e w7 ⟨rfl, hd⟩; have T7 := aq (T.out.step (wQ hd)); clear hd T zk; have T := T7; clear T7; have z1 := (bq T.out.box 1).trans (show _ = some (.int .i64 x.f1) from rfl); have b1 := bf_ T.out.box 1; have t1 := (Kd.yZ 0 T.out.tv x.f1 HO1.out.1 HO1.out.2).1.trans (show _ = some (.int .i64 (rd st.2 x.f1)) from rfl); obtain ⟨_, htt⟩ := Kd.tW T.out.tv gv rfl; have n1 := eq_false (rN htt T.out.box (by decide)); have n2 := eq_false (rN T.out.box htt (by decide)); clear htt; have z2 := (bq T.out.box 2).trans (show _ = some (.int .i64 x.f2) from rfl); have b2 := bf_ T.out.box 2; have t2 := (Kd.yZ 0 T.out.tv x.f2 HO2.out.1 HO2.out.2).1.trans (show _ = some (.int .i64 (rd st.2 x.f2)) from rfl)))
          have T8 := aq (T.out.set (y := { x with f1 := rd st.2 x.f1 }) 1 (.int .i64 (rd st.2 x.f1)) (by rw [← set1]; exact yP T.out.box 1 _))
          clear T
          have T := T8
          clear T8
          have T8 := aq (T.out.set (y := { x with f1 := rd st.2 x.f1, f2 := rd st.2 x.f2 }) 2 (.int .i64 (rd st.2 x.f2)) (by exact yP T.out.box 2 _))
          clear T
          have T := T8
          clear T8
          have z9 := (Kd.yZ 0 T.out.tv j HJ.out HLT.out).1
          have f9 := (Kd.yZ 0 T.out.tv j HJ.out HLT.out).2
          go_upto_region 14 with fail
          have T8 := aq (T.out.put j (st.1.length : Int))
          clear T z9 f9
          have T := T8
          clear T8
          go_wp2_with (first | ((with_reducible refine gD (N := 55) rfl ?_); (with_reducible refine yY 37 ?_); refine uT (g := gn) (x := y) rfl (by rw [HY0.out]; exact T.out.box) ?_) | ((with_reducible refine gD (N := 56) rfl ?_); refine Kd.xW rfl (vT (x := y) rfl) ?_) | ((with_reducible refine zA (b := .append) (xs := #[.tmp 54, .tmp 56]) rfl ?_); at_builtin; refine Kd.xY k37 (w0 := w) w.heap.size rfl (.tmp 54) (.tmp 56) 22 37 _ 176 rfl Try.underlying22 pF rfl (by decide) (by omega) _ st.1 y (wY y) (fun k => k ≠ gn) (fun _ => False) rfl rfl ?aP (fun _ hk => hk.elim) ?aF ?aO ?aB ?aS ?aL ?_; (case aP => exact rB _ _ _ y); (case aB => exact T.out.B); (case aF => exact fun k hk => by have := zN T.out.box; omega); (case aO => exact T.out.out); (case aS => exact T.out.B.size); (case aL => have := HLN.out; have := HLEN.out; omega); intro v1 w9 ho hb hg hat; have HF := aq (show ClF (some ⟨gv, 0, none⟩) nodes.length cv (some ⟨gu, 0, none⟩) cu use w v1 (st.1 ++ [y], st.2.set j.toNat (st.1.length : Int)) w9 from ⟨Kd.xF ho (fun _ _ => trivial), Kd.wC T.out.tv T.out.out (by decide) hg, Kd.wC T.out.us T.out.out (by decide) hg, hb⟩); clear ho hb hg hat T))
          go_wp2
          exact FIN.out _ _ _ HS.out HF.out
        · have HARG := aq (show zD.f 9 x.f0 = some 1 from (tF x.f0).trans (by rw [hk]))
          have HO1 := aq (hops.1 (by omega))
          obtain ⟨o10, o11⟩ := HO1.out
          have HY0 := aq (show y = { x with f1 := rd st.2 x.f1 } from hrn1 hk)
          clear hops hk hrn0 hrn1 hrn2
          go_upto_region 13 with (first | ((with_reducible refine yY 37 ?_); refine xC (t := 37) (cs := wY x) rfl (by kernel_rfl) (by kernel_rfl) HND.out ?_) | ((with_reducible refine gD (N := 10) rfl ?_); refine bE ?hg (N := 10) ?hd (cs := zC z37) (t := 37) ?hr ?_; (case hd => rfl); (case hg => rfl); (case hr => first | (go_simp; done) | (go_simp; rfl)); intro gn hgn w5 hbox hb; have HX := aq hbox; have HB5 := aq hb; have GN := aq (show wr.heap.size ≤ gn by rw [hgn]; exact Nat.le_refl _); clear hbox hb hgn) | ((with_reducible refine xN 10 ?_); refine wV (g := gn) (x := x) rfl rfl HX.out (xX _) ?_; intro w6 hx6 h6; have T := aq (ClI.start H.out (HB5.out.trans (h6.below GN.out)) GN.out hx6); clear hx6 h6 HX HB5 GN; have zk := (bq T.out.box 0).trans (show _ = some (.int .i64 x.f0) from rfl)) | (go_at_call 44; refine (zD.calls 9 _ _ _ HARG.out).mono ?_; rintro e w7 ⟨rfl, hd⟩; have T7 := aq (T.out.step (wQ hd)); clear hd T zk; have T := T7; clear T7; have z1 := (bq T.out.box 1).trans (show _ = some (.int .i64 x.f1) from rfl); have b1 := bf_ T.out.box 1; have t1 := (Kd.yZ 0 T.out.tv x.f1 HO1.out.1 HO1.out.2).1.trans (show _ = some (.int .i64 (rd st.2 x.f1)) from rfl)))
          have T8 := aq (T.out.set (y := { x with f1 := rd st.2 x.f1 }) 1 (.int .i64 (rd st.2 x.f1)) (by rw [← set1]; exact yP T.out.box 1 _))
          clear T
          have T := T8
          clear T8
          have z9 := (Kd.yZ 0 T.out.tv j HJ.out HLT.out).1
          have f9 := (Kd.yZ 0 T.out.tv j HJ.out HLT.out).2
          go_upto_region 14 with fail
          have T8 := aq (T.out.put j (st.1.length : Int))
          clear T z9 f9
          have T := T8
          clear T8
          go_wp2_with (first | ((with_reducible refine gD (N := 55) rfl ?_); (with_reducible refine yY 37 ?_); refine uT (g := gn) (x := y) rfl (by rw [HY0.out]; exact T.out.box) ?_) | ((with_reducible refine gD (N := 56) rfl ?_); refine Kd.xW rfl (vT (x := y) rfl) ?_) | ((with_reducible refine zA (b := .append) (xs := #[.tmp 54, .tmp 56]) rfl ?_); at_builtin; refine Kd.xY k37 (w0 := w) w.heap.size rfl (.tmp 54) (.tmp 56) 22 37 _ 176 rfl Try.underlying22 pF rfl (by decide) (by omega) _ st.1 y (wY y) (fun k => k ≠ gn) (fun _ => False) rfl rfl ?aP (fun _ hk => hk.elim) ?aF ?aO ?aB ?aS ?aL ?_; (case aP => exact rB _ _ _ y); (case aB => exact T.out.B); (case aF => exact fun k hk => by have := zN T.out.box; omega); (case aO => exact T.out.out); (case aS => exact T.out.B.size); (case aL => have := HLN.out; have := HLEN.out; omega); intro v1 w9 ho hb hg hat; have HF := aq (show ClF (some ⟨gv, 0, none⟩) nodes.length cv (some ⟨gu, 0, none⟩) cu use w v1 (st.1 ++ [y], st.2.set j.toNat (st.1.length : Int)) w9 from ⟨Kd.xF ho (fun _ _ => trivial), Kd.wC T.out.tv T.out.out (by decide) hg, Kd.wC T.out.us T.out.out (by decide) hg, hb⟩); clear ho hb hg hat T))
          go_wp2
          exact FIN.out _ _ _ HS.out HF.out
        · have HARG := aq (show zD.f 9 x.f0 = some 0 from (tF x.f0).trans (by rw [hk]))
          have HY0 := aq (show y = x from hrn0 (by omega))
          clear hops hk hrn0 hrn1 hrn2
          go_upto_region 13 with (first | ((with_reducible refine yY 37 ?_); refine xC (t := 37) (cs := wY x) rfl (by kernel_rfl) (by kernel_rfl) HND.out ?_) | ((with_reducible refine gD (N := 10) rfl ?_); refine bE ?hg (N := 10) ?hd (cs := zC z37) (t := 37) ?hr ?_; (case hd => rfl); (case hg => rfl); (case hr => first | (go_simp; done) | (go_simp; rfl)); intro gn hgn w5 hbox hb; have HX := aq hbox; have HB5 := aq hb; have GN := aq (show wr.heap.size ≤ gn by rw [hgn]; exact Nat.le_refl _); clear hbox hb hgn) | ((with_reducible refine xN 10 ?_); refine wV (g := gn) (x := x) rfl rfl HX.out (xX _) ?_; intro w6 hx6 h6; have T := aq (ClI.start H.out (HB5.out.trans (h6.below GN.out)) GN.out hx6); clear hx6 h6 HX HB5 GN; have zk := (bq T.out.box 0).trans (show _ = some (.int .i64 x.f0) from rfl)) | (go_at_call 44; refine (zD.calls 9 _ _ _ HARG.out).mono ?_; rintro e w7 ⟨rfl, hd⟩; have T7 := aq (T.out.step (wQ hd)); clear hd T zk; have T := T7; clear T7))
          have z9 := (Kd.yZ 0 T.out.tv j HJ.out HLT.out).1
          have f9 := (Kd.yZ 0 T.out.tv j HJ.out HLT.out).2
          go_upto_region 14 with fail
          have T8 := aq (T.out.put j (st.1.length : Int))
          clear T z9 f9
          have T := T8
          clear T8
          go_wp2_with (first | ((with_reducible refine gD (N := 55) rfl ?_); (with_reducible refine yY 37 ?_); refine uT (g := gn) (x := y) rfl (by rw [HY0.out]; exact T.out.box) ?_) | ((with_reducible refine gD (N := 56) rfl ?_); refine Kd.xW rfl (vT (x := y) rfl) ?_) | ((with_reducible refine zA (b := .append) (xs := #[.tmp 54, .tmp 56]) rfl ?_); at_builtin; refine Kd.xY k37 (w0 := w) w.heap.size rfl (.tmp 54) (.tmp 56) 22 37 _ 176 rfl Try.underlying22 pF rfl (by decide) (by omega) _ st.1 y (wY y) (fun k => k ≠ gn) (fun _ => False) rfl rfl ?aP (fun _ hk => hk.elim) ?aF ?aO ?aB ?aS ?aL ?_; (case aP => exact rB _ _ _ y); (case aB => exact T.out.B); (case aF => exact fun k hk => by have := zN T.out.box; omega); (case aO => exact T.out.out); (case aS => exact T.out.B.size); (case aL => have := HLN.out; have := HLEN.out; omega); intro v1 w9 ho hb hg hat; have HF := aq (show ClF (some ⟨gv, 0, none⟩) nodes.length cv (some ⟨gu, 0, none⟩) cu use w v1 (st.1 ++ [y], st.2.set j.toNat (st.1.length : Int)) w9 from ⟨Kd.xF ho (fun _ _ => trivial), Kd.wC T.out.tv T.out.out (by decide) hg, Kd.wC T.out.us T.out.out (by decide) hg, hb⟩); clear ho hb hg hat T))
          go_wp2
          exact FIN.out _ _ _ HS.out HF.out
        · have HARG := aq (show zD.f 9 x.f0 = some (-1) from (tF x.f0).trans (by rw [hk]))
          have HY0 := aq (show y = x from hrn0 (by omega))
          clear hops hk hrn0 hrn1 hrn2
          go_upto_region 13 with (first | ((with_reducible refine yY 37 ?_); refine xC (t := 37) (cs := wY x) rfl (by kernel_rfl) (by kernel_rfl) HND.out ?_) | ((with_reducible refine gD (N := 10) rfl ?_); refine bE ?hg (N := 10) ?hd (cs := zC z37) (t := 37) ?hr ?_; (case hd => rfl); (case hg => rfl); (case hr => first | (go_simp; done) | (go_simp; rfl)); intro gn hgn w5 hbox hb; have HX := aq hbox; have HB5 := aq hb; have GN := aq (show wr.heap.size ≤ gn by rw [hgn]; exact Nat.le_refl _); clear hbox hb hgn) | ((with_reducible refine xN 10 ?_); refine wV (g := gn) (x := x) rfl rfl HX.out (xX _) ?_; intro w6 hx6 h6; have T := aq (ClI.start H.out (HB5.out.trans (h6.below GN.out)) GN.out hx6); clear hx6 h6 HX HB5 GN; have zk := (bq T.out.box 0).trans (show _ = some (.int .i64 x.f0) from rfl)) | (go_at_call 44; refine (zD.calls 9 _ _ _ HARG.out).mono ?_; rintro e w7 ⟨rfl, hd⟩; have T7 := aq (T.out.step (wQ hd)); clear hd T zk; have T := T7; clear T7))
          have z9 := (Kd.yZ 0 T.out.tv j HJ.out HLT.out).1
          have f9 := (Kd.yZ 0 T.out.tv j HJ.out HLT.out).2
          go_upto_region 14 with fail
          have T8 := aq (T.out.put j (st.1.length : Int))
          clear T z9 f9
          have T := T8
          clear T8
          go_wp2_with (first | ((with_reducible refine gD (N := 55) rfl ?_); (with_reducible refine yY 37 ?_); refine uT (g := gn) (x := y) rfl (by rw [HY0.out]; exact T.out.box) ?_) | ((with_reducible refine gD (N := 56) rfl ?_); refine Kd.xW rfl (vT (x := y) rfl) ?_) | ((with_reducible refine zA (b := .append) (xs := #[.tmp 54, .tmp 56]) rfl ?_); at_builtin; refine Kd.xY k37 (w0 := w) w.heap.size rfl (.tmp 54) (.tmp 56) 22 37 _ 176 rfl Try.underlying22 pF rfl (by decide) (by omega) _ st.1 y (wY y) (fun k => k ≠ gn) (fun _ => False) rfl rfl ?aP (fun _ hk => hk.elim) ?aF ?aO ?aB ?aS ?aL ?_; (case aP => exact rB _ _ _ y); (case aB => exact T.out.B); (case aF => exact fun k hk => by have := zN T.out.box; omega); (case aO => exact T.out.out); (case aS => exact T.out.B.size); (case aL => have := HLN.out; have := HLEN.out; omega); intro v1 w9 ho hb hg hat; have HF := aq (show ClF (some ⟨gv, 0, none⟩) nodes.length cv (some ⟨gu, 0, none⟩) cu use w v1 (st.1 ++ [y], st.2.set j.toNat (st.1.length : Int)) w9 from ⟨Kd.xF ho (fun _ _ => trivial), Kd.wC T.out.tv T.out.out (by decide) hg, Kd.wC T.out.us T.out.out (by decide) hg, hb⟩); clear ho hb hg hat T))
          go_wp2
          exact FIN.out _ _ _ HS.out HF.out
    · obtain rfl : j = (nodes.length : Int) := by omega
      rw [Int.toNat_natCast, ← HRES.out] at H
      have d1 := eq_false (show ¬ (nodes.length : Int) < (nodes.length : Int) by omega)
      clear hlt j0 j1 HRUN
      go_wp2
      refine bodyPost_ret (results_tmp2 rfl _ _ _) rfl ?_
      exact ⟨_, Av, cv, Au, cu, rfl, by rw [HUS.out, HRS.out]; exact H.out⟩
theorem at_l0 (roots tv : List Int) (hr : ∀ r ∈ roots, 0 ≤ r ∧ r < (tv.length : Int)) (hl : roots.length ≤ 17592186044416) : ∀ (m j : Nat), j + m = roots.length → uJ.l0 (m + 1) tv (atL (roots.take j) tv) roots (roots.length : Int) (j : Int) = some (atL roots tv) := by
  intro m
  induction m with
  | zero =>
    intro j hj
    rw [uJ.l0, if_neg (by omega), List.take_of_length_le (by omega)]
  | succ m ih =>
    intro j hj
    have hlt : j < roots.length := by omega
    have er : rd roots (j : Int) = roots[j] := by simp [rd, List.getD_eq_getElem?_getD, List.getElem?_eq_getElem hlt]
    have hm := hr _ (List.getElem_mem hlt)
    have e2 : atL (roots.take j) tv ++ [rd tv roots[j]] = atL (roots.take (j + 1)) tv := by
      rw [List.take_succ_eq_append_getElem hlt]
      simp only [atL, List.map_append, List.map_cons, List.map_nil]
    have el : (atL (roots.take j) tv).length = j := by simp [atL]; omega
    rw [uJ.l0, if_pos (by omega), if_pos (by omega), if_pos (by omega), er, if_pos hm.1, if_pos hm.2, el, if_pos (by omega), e2, show wrap64 ((j : Int) + 1) = ((j + 1 : Nat) : Int) by unfold wrap64; omega, ih (j + 1) (by omega)]
theorem at22 (roots tv : List Int) (A : Option Addr) (c : Nat) (A1 : Option Addr) (c1 : Nat) (w : World) (hR : Kd.C (Kd.int .i64) w A roots.length roots) (hc : roots.length ≤ c) (hT : Kd.C (Kd.int .i64) w A1 tv.length tv) (hc1 : tv.length ≤ c1) (hr : ∀ r ∈ roots, 0 ≤ r ∧ r < (tv.length : Int)) (hl : roots.length ≤ 17592186044416) :
    Calls Try.prog 22 #[.slice A roots.length c, .slice A1 tv.length c1] w fun e w' => ∃ v, e = .returned v ∧ Kd.R (Kd.int .i64) 3 w' w.heap.size (fun _ => True) v (atL roots tv) ∧ Below w.heap.size w w' :=
  uJ.calls (roots.length + 1) A c roots A1 c1 tv _ w hR hc hT hc1 (at_l0 roots tv hr hl roots.length 0 (by omega))
theorem sL {α : Type} {d : Kd α} {e base : Nat} {ok : Nat → Prop} {w : World} {v : Value} {xs : List α} (h : Kd.R d e w base ok v xs) : ∃ A c, v = .slice A xs.length c ∧ xs.length ≤ c ∧ Kd.C d w A xs.length xs := Kd.R_reads h
theorem build8 (nodes : List S37) (roots : List Int) (A : Option Addr) (c : Nat) (A1 : Option Addr) (c1 : Nat) (w : World) (hC : Kd.C k37 w A nodes.length nodes) (hc : nodes.length ≤ c) (hI : ∀ x ∈ nodes, wM x) (hR : Kd.C (Kd.int .i64) w A1 roots.length roots) (hc1 : roots.length ≤ c1) (hl : roots.length ≤ 17592186044416) (hg : tE nodes roots = true) :
    Calls Try.prog 8 #[.slice A nodes.length c, .slice A1 roots.length c1] w fun e w' => ∃ vo vr, e = .returned (.tuple #[vo, vr, .int .i64 0]) ∧ Kd.R k37 37 w' w.heap.size (fun _ => True) vo (xA yN nodes roots).1 ∧ Kd.R (Kd.int .i64) 3 w' w.heap.size (fun _ => True) vr (xA yN nodes roots).2 ∧ Below w.heap.size w w' := by
  have hu71 := Try.underlying71
  obtain ⟨hroots, hgr⟩ := wK.1 hg
  obtain ⟨L, T, r, tv, hb⟩ := build_is qG hg hI
  have hbt : builtG yN nodes roots = (⟨L, T, false⟩, tv) := hb.run
  have h4 := (vO hgr).1
  have htl : tv.length = nodes.length := by
    have := (bRun_ok qG (vO hgr).2 hI (uU (sU hgr) hroots) nodes.length (Nat.le_refl _) h4).len
    rw [hb.run] at this
    exact this
  have hLl := hb.le
  obtain ⟨c1', c2, c3⟩ := clearedG_eq hb.inv.ahead hb.ok
  have hbe : xA yN nodes roots = ((wO L r).1, atL r (wO L r).2) := by
    have e0 : r = atL roots tv := hb.at_
    unfold xA
    rw [hbt]
    show ((wO L (atL roots tv)).1, atL (atL roots tv) (wO L (atL roots tv)).2) = _
    rw [← e0]
  have HBE := aq hbe
  have HK := aq (rU nodes roots A c A1 c1 w hC hc hI hR hc1)
  rw [rightB_chk, if_pos hg] at HK
  have HBU := aq (fun (W : World) (h : Below w.heap.size w W) => built21 nodes roots A c A1 c1 W (Kd.xZ hC h) hc hI (Kd.xZ hR h) hc1 hg)
  simp only [hbt] at HBU
  have HAT := aq (fun (W : World) (h : Below w.heap.size w W) (A2 : Option Addr) (c2 : Nat) (hT : Kd.C (Kd.int .i64) W A2 tv.length tv) (hc2 : tv.length ≤ c2) => at22 roots tv A1 c1 A2 c2 W (Kd.xZ hR h) hc1 hT hc2 (fun q hq => by rw [htl]; exact hroots q hq) hl)
  have her : atL roots tv = r := hb.at_.symm
  rw [her] at HAT
  have HCL := aq (fun (W : World) (A3 : Option Addr) (c3 : Nat) (hN : Kd.C k37 W A3 L.length L) (hc3 : L.length ≤ c3) (A4 : Option Addr) (c4 : Nat) (hR4 : Kd.C (Kd.int .i64) W A4 r.length r) (hc4 : r.length ≤ c4) => cleared23 L r A3 c3 A4 c4 W hN hc3 hR4 hc4 hb.inv.ahead hb.ok (by omega))
  have hrl : r.length = roots.length := by rw [hb.at_, List.length_map]
  have HA2 := aq (fun (W : World) (A4 : Option Addr) (c4 : Nat) (hR4 : Kd.C (Kd.int .i64) W A4 r.length r) (hc4 : r.length ≤ c4) (A5 : Option Addr) (c5 : Nat) (hT : Kd.C (Kd.int .i64) W A5 (wO L r).2.length (wO L r).2) (hc5 : (wO L r).2.length ≤ c5) => at22 r (wO L r).2 A4 c4 A5 c5 W hR4 hc4 hT hc5 (fun q hq => by rw [c2]; exact hb.ok q hq) (by omega))
  have HTL := aq htl
  have HC2 := aq c2
  clear hC hR hI hg hroots hgr hb hbt h4 htl hLl c1' c2 c3 hbe her hrl hl
  generalize xA yN nodes roots = res at HBE ⊢
  generalize wO L r = cl at HBE HCL HA2 HC2
  go_enter Try.func8, Try.ntmps8
  go_upto_region 4 with (first | (go_at_call 20; refine HK.out.mono ?_; rintro e w2 ⟨rfl, hd⟩; have B := aq hd; clear hd HK))
  go_upto_region 5 with (first | (go_at_call 21; refine (HBU.out _ B.out).mono ?_; rintro e w3 ⟨gG, gM, B0, Av, cv, Au, cu, rfl, h3⟩; have B3 := aq (bt_ B.out h3.B); have H3 := aq h3; clear h3 B HBU; have B := B3; clear B3))
  obtain ⟨A3, c3, e3, l3, r3⟩ := sL H3.out.tv
  injection e3 with e3 e4 e5
  subst e3
  subst e5
  rw [HTL.out] at r3 l3
  have R3 := aq r3
  have L3 := aq l3
  clear r3 l3 e4
  rw [← HTL.out]
  go_upto_region 6 with (first | (go_at_call 22; refine (HAT.out _ B.out _ _ (by rw [HTL.out]; exact R3.out) (by rw [HTL.out]; exact L3.out)).mono ?_; rintro e w4 ⟨v4, rfl, hr4, hb4⟩; obtain ⟨A4, c4, e4, l4, r4⟩ := sL hr4; subst e4; have R4 := aq r4; have L4 := aq l4; have B4 := aq (bt_ B.out hb4); have G4 := aq (H3.out.gw.step hb4); clear r4 l4 hr4 hb4 B R3 L3 H3; have B := B4; clear B4))
  obtain ⟨An, cn, At, ct, hx1, hx2, _⟩ := G4.out.blk
  obtain ⟨A6, c6, e6, l6, r6⟩ := sL hx2
  injection e6 with e6 e7 e8
  subst e6
  subst e8
  have z0 := (bq hx1 0).trans (show _ = some (.slice An L.length cn) from rfl)
  have R6 := aq r6
  have L6 := aq l6
  clear hx1 hx2 r6 l6 e7
  have HC2' := HC2
  go_upto_region 7 with (first | (go_at_call 23; refine (HCL.out _ _ _ R6.out L6.out _ _ R4.out L4.out).mono ?_; rintro e w5 ⟨vo, Av5, cv5, Au5, cu5, rfl, h5⟩; have R45 := aq (Kd.xZ R4.out h5.B); have B5 := aq (bt_ B.out h5.B); have SZ := aq B.out.size; have H5 := aq h5; clear h5 B R4 z0; have B := B5; have R4 := R45; clear B5 R45))
  obtain ⟨A7, c7, e7, l7, r7⟩ := sL H5.out.tv
  injection e7 with e7 e8 e9
  subst e7
  subst e9
  rw [HC2.out] at r7 l7
  have R7 := aq r7
  have L7 := aq l7
  clear r7 l7 e8
  rw [← HC2.out]
  go_wp2_with (first | (go_at_call 22; refine (HA2.out _ _ _ R4.out L4.out _ _ (by rw [HC2.out]; exact R7.out) (by rw [HC2.out]; exact L7.out)).mono ?_; rintro e w6 ⟨v6, rfl, hr6, hb6⟩; have HR6 := aq (Kd.vJ hr6 B.out.size); have HO6 := aq (Kd.vJ (Kd.zL H5.out.out hb6) SZ.out); have B6 := aq (bt_ B.out hb6); clear hr6 hb6 B; have B := B6; clear B6))
  refine bodyPost_ret (v := .tuple #[vo, v6, .int .i64 0]) (by simp [results]) rfl ⟨vo, v6, rfl, ?_, ?_, B.out⟩
  · rw [HBE.out]; exact HO6.out
  · rw [HBE.out]; exact HR6.out
section
variable {a : Act} {W : World}
end
end Go.Proofs.Ytoonahobmlnflaa.PC
