/- Texts of this claim, one behind the other. -/
import Derived.Test.YtoonahobmlnflaaVc21
import Derived.WalkMore
set_option linter.unusedVariables false
set_option linter.unusedSimpArgs false
set_option maxRecDepth 100000
set_option maxHeartbeats 16000000
namespace Go.Proofs.Ytoonahobmlnflaa.PC
open Go.RowKit Go.Shelf A B C
inductive sC (R : xH) : RS → RS → Prop where
  | done {s : RS} (h : doneR s = true) : sC R s (pP R s)
  | more {s t : RS} (h : doneR s = false) (k : sC R (pP R s) t) : sC R s t
def qS (s : RS) (k : Nat) : List Int × List S32 := (s.eqs.take k).foldl (pC s.nodes) ([], s.l)
def rawG (s : RS) : List S37 := (putA s.nodes (vQ s.nodes s.eqs s.l).2).1
def rawR (s : RS) : List Int := (vQ s.nodes s.eqs s.l).1.map (rd (putA s.nodes (vQ s.nodes s.eqs s.l).2).2)
structure JW (n : Nat) (s : RS) : Prop where
  ops : OpsOK s.nodes
  eq : ∀ e ∈ s.eqs, 0 ≤ e ∧ e < (s.nodes.length : Int)
  nl : s.nodes.length ≤ 1900
  el : s.eqs.length ≤ 17592186044416
  fok : ∀ k, FOK (qS s k).2
  len : ∀ k, (qS s k).2.length = n
  say : ∀ e ∈ s.eqs, (wH s.nodes e).is = true → (0 ≤ (wH s.nodes e).x ∧ (wH s.nodes e).x < (n : Int)) ∧ ((wH s.nodes e).s = 0 ∨ (wH s.nodes e).s = 1 ∨ (wH s.nodes e).s = -1) ∧ ((wH s.nodes e).s ≠ 0 → 0 ≤ (wH s.nodes e).y ∧ (wH s.nodes e).y < (n : Int))
  put : PutOKs s.nodes (vQ s.nodes s.eqs s.l).2
  stay : ∀ e ∈ (vQ s.nodes s.eqs s.l).1, 0 ≤ e ∧ e < (s.nodes.length : Int)
  stl : ∀ k, (qS s k).1.length ≤ k
  right : tE (rawG s) (rawR s) = true
  rawI : ∀ x ∈ rawG s, wM x
structure JD (n : Nat) (t : RS) : Prop where
  fok : FOK t.l
  len : t.l.length = n
  nl : t.nodes.length ≤ 4000
  var : ∀ x ∈ t.nodes, x.f0 = 2 → 0 ≤ x.f5.f0 ∧ x.f5.f0 < (n : Int)
theorem stepR_eq (R : xH) (s : RS) : pP R s = ⟨(xA R (rawG s) (rawR s)).1, (xA R (rawG s) (rawR s)).2, (vQ s.nodes s.eqs s.l).2⟩ := rfl
theorem qL (R : xH) (nodes : List S37) (roots : List Int) : (xA R nodes roots).2.length = roots.length := by
  unfold xA
  simp only [atL, List.length_map]
theorem oU (s : RS) : (rawR s).length = (vQ s.nodes s.eqs s.l).1.length := List.length_map _
theorem passK_all (s : RS) : qS s s.eqs.length = vQ s.nodes s.eqs s.l := by
  unfold qS vQ; rw [List.take_length]
theorem passK_succ (s : RS) (k : Nat) (h : k < s.eqs.length) : qS s (k + 1) = pC s.nodes (qS s k) s.eqs[k] := by
  unfold qS
  rw [List.take_succ_eq_append_getElem h, List.foldl_append]; rfl
theorem grown_step {row : Option Nat} {u v w : World} (h : u.grownBy v row) (h' : Below u.heap.size v w) : u.grownBy w row :=
  ⟨h'.os.trans h.os, h'.tape.trans h.tape, h'.output.trans h.output, Nat.le_trans h.size h'.size, fun k hk hn => (h'.block k hk).trans (h.block k hk hn)⟩
theorem grown_tr {row : Option Nat} {u v w : World} (h : u.grownBy v row) (h' : v.grownBy w row) : u.grownBy w row :=
  ⟨h'.os.trans h.os, h'.tape.trans h.tape, h'.output.trans h.output, Nat.le_trans h.size h'.size, fun k hk hn => (h'.block k (Nat.lt_of_lt_of_le hk h.size) hn).trans (h.block k hk hn)⟩
def iA (n k : Nat) : List S32 := (List.range n).map fun (i : Nat) => if i < k then ⟨(i : Int), 1⟩ else z32
theorem iA_len (n k : Nat) : (iA n k).length = n := by unfold iA; rw [List.length_map, List.length_range]
theorem iA_zero (n : Nat) : iA n 0 = List.replicate n z32 := by
  unfold iA
  rw [List.eq_replicate_iff]
  refine ⟨by rw [List.length_map, List.length_range], fun b hb => ?_⟩
  obtain ⟨i, _, rfl⟩ := List.mem_map.1 hb
  rw [if_neg (by omega)]
theorem iA_all (n : Nat) : iA n n = idA n := by
  unfold iA idA
  exact List.map_congr_left fun i hi => by rw [if_pos (List.mem_range.1 hi)]
theorem iA_succ (n k : Nat) (h : k < n) : iA n (k + 1) = (iA n k).set k ⟨(k : Int), 1⟩ := by
  apply List.ext_getElem?
  intro i
  rw [List.getElem?_set, iA_len]
  unfold iA
  by_cases hi : i < n
  · rw [List.getElem?_map, List.getElem?_map, List.getElem?_range hi]
    simp only [Option.map_some]
    by_cases hk : k = i
    · subst hk
      rw [if_pos rfl, if_pos h, if_pos (by omega)]
    · rw [if_neg hk]
      by_cases h1 : i < k
      · rw [if_pos h1, if_pos (by omega)]
      · rw [if_neg h1, if_neg (by omega)]
  · rw [List.getElem?_eq_none (by rw [List.length_map, List.length_range]; omega), if_neg (by omega), List.getElem?_eq_none (by rw [List.length_map, List.length_range]; omega)]
structure ReF (f : rG) (fl : Array Value) (g1 g2 : Nat) (Aa : Option Addr) (ca : Nat) (w : World) (v8 v9 : Value) (s : RS) (V : World) : Prop where
  nodes : Kd.R k37 37 V w.heap.size (fun _ => True) v8 s.nodes
  eqs : Kd.R (Kd.int .i64) 3 V w.heap.size (fun _ => True) v9 s.eqs
  all : Kd.R k32 53 V w.heap.size (fun _ => True) (.slice Aa f.vars.length ca) s.l
  b1 : V.heap[g1]? = some (.cells fl 47 (0, 0))
  b2 : V.heap[g2]? = some (.cells #[.slice none 0 0, .slice none 0 0, .slice none 0 0, .slice none 0 0] 47 (0, 0))
  B : Below w.heap.size w V
theorem ReF.step {f : rG} {fl : Array Value} {g1 g2 : Nat} {Aa : Option Addr} {ca : Nat} {w : World} {v8 v9 : Value} {s : RS} {V V' : World} (h : ReF f fl g1 g2 Aa ca w v8 v9 s V) (hd : Below V.heap.size V V') : ReF f fl g1 g2 Aa ca w v8 v9 s V' :=
  ⟨Kd.zL h.nodes hd, Kd.zL h.eqs hd, Kd.zL h.all hd, bb_ h.b1 hd, bb_ h.b2 hd, bt_ h.B hd⟩
theorem join_no {l : List S32} {x y s : Int} (h : (tN l x y s).2 = false) : tN l x y s = (l, false) := by
  unfold tN at h ⊢
  repeat' split at h
  all_goals first | (exact absurd h (by decide)) | skip
  all_goals simp_all
def lenV : Value → Nat
  | .slice _ n _ => n
  | _ => 0
structure InF (n : Nat) (Aa : Option Addr) (ca : Nat) (w w1 : World) (v10 : Value) (st : List Int × List S32) (V : World) : Prop where
  stay : Kd.R (Kd.int .i64) 3 V w1.heap.size (fun _ => True) v10 st.1
  all : Kd.R k32 53 V w.heap.size (fun _ => True) (.slice Aa n ca) st.2
  g : w1.grownBy V (Value.slice Aa n ca).ownBlock
theorem InF.step {n : Nat} {Aa : Option Addr} {ca : Nat} {w w1 : World} {v10 : Value} {st : List Int × List S32} {V V' : World} (h : InF n Aa ca w w1 v10 st V) (hd : Below V.heap.size V V') : InF n Aa ca w w1 v10 st V' :=
  ⟨Kd.zL h.stay hd, Kd.zL h.all hd, grown_step h.g (hd.mono h.g.size)⟩
theorem InF.join {n : Nat} {Aa : Option Addr} {ca : Nat} {w w1 : World} {v10 : Value} {st : List Int × List S32} {l : List S32} {V V' : World} (h : InF n Aa ca w w1 v10 st V) (hl : Kd.R k32 53 V' w.heap.size (fun _ => True) (.slice Aa n ca) l) (hg : V.grownBy V' (Value.slice Aa n ca).ownBlock) : InF n Aa ca w w1 v10 (st.1, l) V' :=
  ⟨Kd.wC h.stay h.all (by decide) hg, hl, grown_tr h.g hg⟩
theorem InF.grow {n : Nat} {Aa : Option Addr} {ca : Nat} {w w1 : World} {v10 v1 : Value} {st : List Int × List S32} {xs : List Int} {V V' : World} (h : InF n Aa ca w w1 v10 st V) (hs : Kd.R (Kd.int .i64) 3 V' w1.heap.size (fun _ => True) v1 xs) (hb : Below w1.heap.size V V') (ha : ∀ k, (Value.slice Aa n ca).ownBlock = some k → k < w1.heap.size) : InF n Aa ca w w1 v1 (xs, st.2) V' :=
  ⟨hs, al_move h.all (fun k hk => hb.block k (ha k hk)), grown_step h.g hb⟩
theorem reduce15 (f : rG) (Av : Option Addr) (cv : Nat) (An : Option Addr) (cn : Nat) (Ae : Option Addr) (ce : Nat) (As : Option Addr) (cs : Nat) (w : World) (hF : FlatC f Av cv An cn Ae ce As cs w) (ho : FlatOK f)
    (J : RS → Prop) (hJ0 : J (uC yN f)) (hJW : ∀ s, J s → JW f.vars.length s) (hJs : ∀ s, J s → doneR s = false → J (pP yN s)) (hJd : ∀ s, J s → doneR s = true → JD f.vars.length (pP yN s)) :
    Calls Try.prog 15 #[.agg (flA f Av cv An cn Ae ce As cs)] w fun e w' => ∃ vv vn ve vs vl t, e = .returned (.tuple #[.agg #[vv, vn, ve, vs], vl, .int .i64 0]) ∧ sC yN (uC yN f) t ∧
      Kd.R k59 59 w' w.heap.size (fun _ => True) vv (xS f t).1.vars ∧ Kd.R k37 37 w' w.heap.size (fun _ => True) vn (xS f t).1.nodes ∧ Kd.R (Kd.int .i64) 3 w' w.heap.size (fun _ => True) ve (xS f t).1.eqs ∧
      Kd.R k80 80 w' w.heap.size (fun _ => True) vs (xS f t).1.yM ∧ Kd.R k32 53 w' w.heap.size (fun _ => True) vl (xS f t).2 ∧ Below w.heap.size w w' := by
  have hu47 := Try.underlying47
  have HF := aq hF
  have HO := aq ho
  have HJ0 := aq hJ0
  have HJW := aq hJW
  have HJS := aq hJs
  have HJD := aq hJd
  have HVL := aq ho.vle
  have HCK := aq (fun (V : World) (h : Below w.heap.size w V) => check33 f Av cv An cn Ae ce As cs V (hF.below h) ho)
  have HBD := aq (fun (V : World) (h : Below w.heap.size w V) => alb34 f.nodes f.eqs An cn Ae ce V (Kd.xZ hF.nodes h) hF.nle ho.nodeI (Kd.xZ hF.eqs h) hF.ele ho.ele ho.right)
  clear hF ho hJ0 hJW hJs hJd
  obtain ⟨fl, hfl⟩ : ∃ fl, flA f Av cv An cn Ae ce As cs = fl := ⟨_, rfl⟩
  have HFL := aq hfl
  rw [hfl] at HCK ⊢
  have HSZ := aq (show fl.size = 4 by rw [← hfl]; rfl)
  clear hfl
  have GF := aq (zM (heap_alloc_last w (.cells fl 47)) (.cells #[.slice none 0 0, .slice none 0 0, .slice none 0 0, .slice none 0 0] 47))
  have G2 := aq (heap_alloc_last (w.alloc (.cells fl 47)) (.cells #[.slice none 0 0, .slice none 0 0, .slice none 0 0, .slice none 0 0] 47))
  have B := aq (zY (zY (Below.refl w.heap.size w) (.cells fl 47)) (.cells #[.slice none 0 0, .slice none 0 0, .slice none 0 0, .slice none 0 0] 47))
  rw [show (w.alloc (.cells fl 47)).heap.size = w.heap.size + 1 by simp] at G2
  go_enter Try.func15, Try.ntmps15
  go_upto_region 1 with fail
  generalize (w.alloc (.cells fl 47)).alloc (.cells #[.slice none 0 0, .slice none 0 0, .slice none 0 0, .slice none 0 0] 47) = W1 at GF G2 B ⊢
  have GE := aq (show w.heap.size ≠ w.heap.size + 1 ∧ w.heap.size ≤ w.heap.size + 1 by omega)
  generalize w.heap.size + 1 = g2 at G2 GE ⊢
  go_step3
  go_upto_region 4 with (first | ((with_reducible refine gD (N := 18) rfl ?_); (with_reducible refine yY 47 ?_); refine ev_ld (g := w.heap.size) (t := 47) (n := 4) (c := fl) rfl GF.out (by kernel_rfl) (by kernel_rfl) HSZ.out ?_) | (go_at_call 33; refine (HCK.out _ B.out).mono ?_; rintro e w2 ⟨rfl, hd⟩; have GF2 := aq (bb_ GF.out hd); have G22 := aq (bb_ G2.out hd); have B2 := aq (bt_ B.out hd); clear GF G2 B hd HCK; have GF := GF2; have G2 := G22; have B := B2; clear GF2 G22 B2))
  have f0 := (bq GF.out 0).trans (show _ = some (.slice Av f.vars.length cv) by rw [← HFL.out]; rfl)
  go_upto_region 5 with (first | ((with_reducible refine gD (N := 27) rfl ?_); refine Kd.R_make k32 (w0 := w) w.heap.size 53 rfl (N := 27) rfl 83 _ _ rfl (f.vars.length : Int) rfl rfl Try.underlying83 (.agg #[.int .i64 0, .int .i64 0]) 16 info53 rfl (by decide) (by omega) z32 (ok := fun _ => True) (okp := fun _ => True) (pH _ _ _ _) (fun _ hk => hk) trivial (by omega) (by rw [Int.toNat_natCast]; have := HVL.out; omega) ?hb0 ?hs0 ?_; (case hb0 => exact B.out); (case hs0 => exact B.out.size); intro v3 w3 hr3 hb3 hg_ hnew_; rw [Int.toNat_natCast] at hr3; obtain ⟨Aa, ca, ev⟩ := Kd.yT hr3; subst ev; rw [List.length_replicate, ← iA_zero] at hr3; rw [List.length_replicate]; have HA := aq hr3; have GF2 := aq (zK GF.out hg_ (by simp)); have G22 := aq (zK G2.out hg_ (by simp)); have B2 := aq hb3; clear hr3 hb3 hg_ hnew_ GF G2 B f0; have GF := GF2; have G2 := G22; have B := B2; clear GF2 G22 B2))
  go_wp2
  go_loopw [30] (fun i wr => ∃ (j : Int), 0 ≤ j ∧ j ≤ (f.vars.length : Int) ∧ i = .int .i64 j ∧ zT (Kd.R k32 53 wr w.heap.size (fun _ => True) (.slice Aa f.vars.length ca) (iA f.vars.length j.toNat)) ∧ zT (wr.heap[w.heap.size]? = some (.cells fl 47 (0, 0))) ∧ zT (wr.heap[g2]? = some (.cells #[.slice none 0 0, .slice none 0 0, .slice none 0 0, .slice none 0 0] 47 (0, 0))) ∧ zT (Below w.heap.size w wr)) (fun i _ => f.vars.length - (intOf i).toNat)
  case atStart => exact ⟨0, Int.le_refl _, by omega, rfl, HA, GF, G2, B⟩
  case round =>
    clear HA GF G2 B
    obtain ⟨j, j0, j1, rfl, HA, GF, G2, B⟩ := hrel
    by_cases hlt : j < (f.vars.length : Int)
    · have hil : (iA f.vars.length j.toNat).length = f.vars.length := iA_len _ _
      obtain ⟨g, eA, r0, r1⟩ := tZ HA.out j0 (by rw [hil]; exact hlt)
      subst eA
      have p0 := vF HA.out (j.toNat * 2)
      have p1 := vF HA.out (j.toNat * 2 + 1)
      have HI := aq (show iA f.vars.length (j + 1).toNat = (iA f.vars.length j.toNat).set j.toNat ⟨j, 1⟩ by
        rw [show (j + 1).toNat = j.toNat + 1 by omega, iA_succ _ _ (by omega), show ((j.toNat : Nat) : Int) = j by omega])
      have HP := aq (al_put HA.out j0 (by rw [hil]; exact hlt) ⟨j, 1⟩)
      obtain ⟨cg, hcg⟩ := Kd.tW HA.out g rfl
      have n1 := rN GF.out hcg (by decide)
      have n2 := rN G2.out hcg (by decide)
      have GF3 := aq ((zR _ ⟨g, j.toNat * 2 + 1, none⟩ (.int .i64 1)).blk ((zR wr ⟨g, j.toNat * 2, none⟩ (.int .i64 j)).blk GF.out n1) n1)
      have G23 := aq ((zR _ ⟨g, j.toNat * 2 + 1, none⟩ (.int .i64 1)).blk ((zR wr ⟨g, j.toNat * 2, none⟩ (.int .i64 j)).blk G2.out n2) n2)
      have B3 := aq (bs_ (g := g) (j := j.toNat * 2 + 1) (v := .int .i64 1) (bs_ (g := g) (j := j.toNat * 2) (v := .int .i64 j) B.out (Kd.oO HA.out g rfl)) (Kd.oO HA.out g rfl))
      have HW := aq (show wrap64 (j + 1) = j + 1 by unfold wrap64; have := HVL.out; omega)
      generalize rdA (iA f.vars.length j.toNat) j = o at r0 r1
      clear hil HA GF G2 B hcg n1 n2
      go_wp2
      rw [HW.out]
      refine ⟨⟨j + 1, by omega, by omega, rfl, ⟨by rw [HI.out]; exact HP.out⟩, GF3, G23, B3⟩, ?_⟩
      simp only [intOf]; omega
    · obtain rfl : j = (f.vars.length : Int) := by omega
      rw [Int.toNat_natCast, iA_all] at HA
      have d0 := eq_false (show ¬ (f.vars.length : Int) < (f.vars.length : Int) by omega)
      clear hlt j0 j1
      have f1 := (bq GF.out 1).trans (show _ = some (.slice An f.nodes.length cn) by rw [← HFL.out]; rfl)
      have f2 := (bq GF.out 2).trans (show _ = some (.slice Ae f.eqs.length ce) by rw [← HFL.out]; rfl)
      go_wp2_with (go_at_call 34; refine (HBD.out _ B.out).mono ?_; rintro e w4 ⟨v8, v9, rfl, h8, h9, hd⟩; have S0 := aq (show ReF f fl w.heap.size g2 Aa ca w v8 v9 (uC yN f) w4 from ⟨Kd.vJ h8 B.out.size, Kd.vJ h9 B.out.size, Kd.zL HA.out hd, bb_ GF.out hd, bb_ G2.out hd, bt_ B.out hd⟩); clear h8 h9 hd HA GF G2 B f1 f2)
      go_step3
      go_wp2
      clear HVL HBD
      go_loopw [8, 9] (fun v8 v9 wr => ∃ s, J s ∧ (∀ t, sC yN s t → sC yN (uC yN f) t) ∧ zT (ReF f fl w.heap.size g2 Aa ca w v8 v9 s wr)) (fun _ v9 _ => lenV v9)
      case atStart => exact ⟨_, HJ0.out, fun t h => h, S0⟩
      case round =>
        clear S0 HJ0
        obtain ⟨s, hj, hrun, S⟩ := hrel
        have HJ := aq hj
        have HRUN := aq hrun
        have W := aq (HJW.out s hj)
        clear hj hrun
        obtain ⟨A8, c8, e8⟩ := Kd.yT S.out.nodes
        subst e8
        obtain ⟨A9, c9, e9⟩ := Kd.yT S.out.eqs
        subst e9
        rename World => w1
        have HOWN := aq (show ∀ k, (Value.slice Aa f.vars.length ca).ownBlock = some k → k < w1.heap.size from fun k hk => by
          obtain ⟨cg, hcg⟩ := Kd.tW S.out.all k hk
          exact zN hcg)
        have I0 := aq (show InF f.vars.length Aa ca w w1 (.slice none 0 0) (qS s 0) w1 from ⟨Kd.rK _ _ _ _ _, S.out.all, ⟨rfl, rfl, rfl, Nat.le_refl _, fun _ _ _ => rfl⟩⟩)
        go_wp2
        go_loopw [10, 49] (fun v10 i wr => ∃ (q : Int), 0 ≤ q ∧ q ≤ (s.eqs.length : Int) ∧ i = .int .i64 q ∧ zT (InF f.vars.length Aa ca w w1 v10 (qS s q.toNat) wr)) (fun _ i _ => s.eqs.length - (intOf i).toNat)
        case atStart => exact ⟨0, Int.le_refl _, by omega, rfl, I0⟩
        case round =>
          clear I0
          obtain ⟨q, q0, q1, rfl, I⟩ := hrel
          by_cases hlt : q < (s.eqs.length : Int)
          · have hpk := passK_succ s q.toNat (by omega)
            have hel : rd s.eqs q = s.eqs[q.toNat]'(by omega) := by
              unfold rd
              rw [List.getD_eq_getElem?_getD, List.getElem?_eq_getElem (by omega)]; rfl
            rw [← hel] at hpk
            have hme : rd s.eqs q ∈ s.eqs := by rw [hel]; exact List.getElem_mem _
            have hrg := W.out.eq _ hme
            have hsy := W.out.say _ hme
            have HPK := aq (show qS s (q + 1).toNat = pC s.nodes (qS s q.toNat) (rd s.eqs q) by rw [show (q + 1).toNat = q.toNat + 1 by omega]; exact hpk)
            have HWR := aq (show wrap64 (q + 1) = q + 1 by unfold wrap64; have := W.out.el; omega)
            have HFK := aq (W.out.fok q.toNat)
            have hln := W.out.len q.toNat
            have HST := aq (show (qS s q.toNat).1.length + 1 ≤ 17592186044416 by have := W.out.stl q.toNat; have := W.out.el; omega)
            obtain ⟨g9, _, ev, _⟩ := Kd.uK S.out.eqs (by omega)
            injection ev with ev e2 e3
            clear e2 e3
            subst ev
            have zq := (Kd.yZ 0 (Kd.wC S.out.eqs S.out.all (by decide) I.out.g) q q0 hlt).1.trans (show _ = some (.int .i64 (rd s.eqs q)) from rfl)
            have HSD := aq (show Calls Try.prog 35 #[.slice A8 s.nodes.length c8, .int .i64 (rd s.eqs q)] wr fun en w' => en = .returned (.tuple #[.int .i64 (wH s.nodes (rd s.eqs q)).x, .int .i64 (wH s.nodes (rd s.eqs q)).y, .int .i64 (wH s.nodes (rd s.eqs q)).s, .bool (wH s.nodes (rd s.eqs q)).is]) ∧ Below wr.heap.size wr w' from
              said35 s.nodes A8 c8 wr (Kd.wC S.out.nodes S.out.all (by decide) I.out.g) W.out.ops _ hrg.1 hrg.2)
            unfold pC at HPK
            generalize rd s.eqs q = e at zq HSD HPK hsy
            generalize qS s q.toNat = st at I HPK HFK hln HST
            obtain ⟨stay, l⟩ := st
            dsimp only at HPK HFK hln HST
            have HJN := aq (fun (V : World) (hl : Kd.R k32 53 V w.heap.size (fun _ => True) (.slice Aa f.vars.length ca) l) (hi : (wH s.nodes e).is = true) => show Calls Try.prog 36 #[.slice Aa f.vars.length ca, .int .i64 (wH s.nodes e).x, .int .i64 (wH s.nodes e).y, .int .i64 (wH s.nodes e).s] V fun en w' => JoOut w.heap.size f.vars.length ca (fun _ => True) Aa V (tN l (wH s.nodes e).x (wH s.nodes e).y (wH s.nodes e).s) en w' by
              have hs := hsy hi
              rw [← hln] at hl hs ⊢
              exact join36 l Aa ca V hl HFK.out _ _ _ hs.1 hs.2.1 hs.2.2)
            generalize wH s.nodes e = sy at HSD HPK HJN
            obtain ⟨sx, sz, ss, sis⟩ := sy
            dsimp only at HSD HPK HJN
            clear hpk hel hme hrg hsy hln
            cases sis with
            | false =>
              rw [if_neg (fun h => absurd h.1 (by decide))] at HPK
              clear HJN
              go_wp2_with (first | (go_at_call 35; refine HSD.out.mono ?_; rintro en w7 ⟨rfl, hd⟩; have I2 := aq (I.out.step hd); clear hd I HSD zq; have I := I2; clear I2) | ((with_reducible refine zA (b := .append) (xs := #[.tmp 69, .tmp 71]) rfl ?_); at_builtin; refine Kd.xY (Kd.int .i64) (w0 := w7) w1.heap.size rfl (.tmp 69) (.tmp 71) 23 3 (.int .i64 0) 8 rfl Try.underlying23 sV rfl (by decide) (by omega) u10 stay e [.int .i64 e] (fun _ => True) (fun _ => False) rfl rfl ?aP (fun _ hk => hk.elim) ?aF ?aO ?aB ?aS ?aL ?_; (case aP => exact rfl); (case aB => exact Below.refl _ _); (case aF => exact (fun _ _ => trivial)); (case aO => exact I.out.stay); (case aS => exact I.out.g.size); (case aL => have := HST.out; omega); intro v1 w9 ho hb hg hat; have I2 := aq (I.out.grow ho hb HOWN.out); clear ho hb hg hat I; have I := I2; clear I2))
              rw [HWR.out]
              refine ⟨⟨q + 1, by omega, by omega, rfl, ⟨by rw [HPK.out]; exact I.out⟩⟩, ?_⟩
              simp only [intOf]; omega
            | true =>
              cases hjb : (tN l sx sz ss).2 with
              | true =>
                rw [if_pos ⟨rfl, hjb⟩] at HPK
                rw [show tN l sx sz ss = ((tN l sx sz ss).1, true) by rw [← hjb]] at HJN
                go_wp2_with (first | (go_at_call 35; refine HSD.out.mono ?_; rintro en w7 ⟨rfl, hd⟩; have I2 := aq (I.out.step hd); clear hd I HSD zq; have I := I2; clear I2) | (go_at_call 36; refine (HJN.out _ I.out.all (by trivial)).mono ?_; rintro en w8 hjo; have e8 := hjo.ret; subst e8; have I2 := aq (I.out.join hjo.R hjo.grown); clear hjo I HJN; have I := I2; clear I2))
                rw [HWR.out]
                refine ⟨⟨q + 1, by omega, by omega, rfl, ⟨by rw [HPK.out]; exact I.out⟩⟩, ?_⟩
                simp only [intOf]; omega
              | false =>
                rw [if_neg (fun h => by rw [hjb] at h; exact absurd h.2 (by decide))] at HPK
                have hj1 : tN l sx sz ss = (l, false) := join_no hjb
                rw [hj1] at HJN
                go_wp2_with (first | (go_at_call 35; refine HSD.out.mono ?_; rintro en w7 ⟨rfl, hd⟩; have I2 := aq (I.out.step hd); clear hd I HSD zq; have I := I2; clear I2) | (go_at_call 36; refine (HJN.out _ I.out.all (by trivial)).mono ?_; rintro en w8 hjo; have e8 := hjo.ret; subst e8; have I2 := aq (I.out.join hjo.R hjo.grown); clear hjo I HJN; have I := I2; clear I2) | ((with_reducible refine zA (b := .append) (xs := #[.tmp 69, .tmp 71]) rfl ?_); at_builtin; refine Kd.xY (Kd.int .i64) (w0 := w8) w1.heap.size rfl (.tmp 69) (.tmp 71) 23 3 (.int .i64 0) 8 rfl Try.underlying23 sV rfl (by decide) (by omega) u10 stay e [.int .i64 e] (fun _ => True) (fun _ => False) rfl rfl ?aP (fun _ hk => hk.elim) ?aF ?aO ?aB ?aS ?aL ?_; (case aP => exact rfl); (case aB => exact Below.refl _ _); (case aF => exact (fun _ _ => trivial)); (case aO => exact I.out.stay); (case aS => exact I.out.g.size); (case aL => have := HST.out; omega); intro v1 w9 ho hb hg hat; have I2 := aq (I.out.grow ho hb HOWN.out); clear ho hb hg hat I; have I := I2; clear I2))
                rw [HWR.out]
                refine ⟨⟨q + 1, by omega, by omega, rfl, ⟨by rw [HPK.out]; exact I.out⟩⟩, ?_⟩
                simp only [intOf]; omega
          · obtain rfl : q = (s.eqs.length : Int) := by omega
            rw [Int.toNat_natCast, passK_all] at I
            have d5 := eq_false (show ¬ (s.eqs.length : Int) < (s.eqs.length : Int) by omega)
            clear hlt q0 q1
            have hfk := W.out.fok s.eqs.length
            have hln := W.out.len s.eqs.length
            have hst := W.out.stl s.eqs.length
            rw [passK_all] at hfk hln hst
            have hne : ∀ {k : Nat} {c : Array Value}, w1.heap[k]? = some (.cells c 47 (0, 0)) → wr.heap[k]? = some (.cells c 47 (0, 0)) := fun h => zK h I.out.g (Kd.uX S.out.all h (by decide))
            have RN := aq (Kd.wC S.out.nodes S.out.all (by decide) I.out.g)
            have GF := aq (hne S.out.b1)
            have G2 := aq (hne S.out.b2)
            have B := aq (show Below w.heap.size w wr from S.out.B.trans ⟨I.out.g.os, I.out.g.tape, I.out.g.output, I.out.g.size, fun k hk => I.out.g.block k (Nat.lt_of_lt_of_le hk S.out.B.size) (fun e => by
              have := Kd.oO S.out.all k e.symm
              omega)⟩)
            obtain ⟨A10, c10, e10⟩ := Kd.yT I.out.stay
            subst e10
            obtain ⟨_, hc10, hC10⟩ := Kd.uS I.out.stay
            have RA := aq I.out.all
            have HPU := aq (fun (V : World) (h : Below wr.heap.size wr V) => show Calls Try.prog 37 #[.slice A8 s.nodes.length c8, .slice A10 (vQ s.nodes s.eqs s.l).1.length c10, .slice Aa f.vars.length ca] V fun e w' => ∃ vo vr, e = .returned (.tuple #[vo, vr]) ∧ Kd.R k37 37 w' V.heap.size (fun _ => True) vo (rawG s) ∧ Kd.R (Kd.int .i64) 3 w' V.heap.size (fun _ => True) vr (rawR s) ∧ Below V.heap.size V w' by
              have hr := Kd.zL RA.out h
              have hp := W.out.put
              unfold rawG rawR
              rw [← hln] at hr ⊢
              exact put37 s.nodes _ _ A8 c8 A10 c10 Aa ca V (Kd.zL RN.out h) (Kd.xZ hC10 h) hc10 hr hfk hp W.out.stay W.out.nl (by have := W.out.el; omega))
            have HDN := aq (show doneR s = ((vQ s.nodes s.eqs s.l).1.length == s.eqs.length) from rfl)
            have HST := aq hst
            have HRL := aq (oU s)
            have HSE := aq (stepR_eq yN s)
            have HBL := aq (qL yN (rawG s) (rawR s))
            have HBI := aq (fun (V : World) (A c A1 c1) hC hc hR hc1 => alb34 (rawG s) (rawR s) A c A1 c1 V hC hc W.out.rawI hR hc1 (by rw [oU]; have := W.out.el; omega) W.out.right)
            generalize vQ s.nodes s.eqs s.l = pa at RA HPU HDN HST HRL HSE
            clear hfk hln hst hne hc10 hC10 I RN
            go_upto_region 21 with (first | (go_at_call 37; refine (HPU.out _ (Below.refl _ _)).mono ?_; rintro e w5 ⟨vo, vr, rfl, ho, hr, hd⟩; have RO := aq ho; have RR := aq hr; have RA2 := aq (Kd.zL RA.out hd); have GF2 := aq (bb_ GF.out hd); have G22 := aq (bb_ G2.out hd); have B2 := aq (bt_ B.out hd); clear ho hr hd RA GF G2 B HPU; have RA := RA2; have GF := GF2; have G2 := G22; have B := B2; clear RA2 GF2 G22 B2; obtain ⟨Ao, co, eo⟩ := Kd.yT RO.out; subst eo; obtain ⟨Ar, cr, er⟩ := Kd.yT RR.out; subst er; obtain ⟨_, ho1, ho2⟩ := Kd.uS RO.out; obtain ⟨_, hr1, hr2⟩ := Kd.uS RR.out; have HB34 := aq (HBI.out _ _ _ _ _ ho2 ho1 hr2 hr1); clear ho1 ho2 hr1 hr2 RO RR HBI) | (go_at_call 34; refine HB34.out.mono ?_; rintro e w6 ⟨v8, v9, rfl, h8, h9, hd⟩; have S2 := aq (show ReF f fl w.heap.size g2 Aa ca w v8 v9 (pP yN s) w6 by rw [HSE.out]; exact ⟨Kd.vJ h8 B.out.size, Kd.vJ h9 B.out.size, Kd.zL RA.out hd, bb_ GF.out hd, bb_ G2.out hd, bt_ B.out hd⟩); clear h8 h9 hd RA GF G2 B HB34))
            by_cases hd : pa.1.length = s.eqs.length
            · have hdb : doneR s = true := by rw [HDN.out]; exact beq_iff_eq.2 hd
              have hd1 : ((pa.1.length : Int) == (s.eqs.length : Int)) = true := beq_iff_eq.2 (by omega)
              have HT := aq (HRUN.out _ (.done hdb))
              have JDD := aq (HJD.out s HJ.out hdb)
              generalize pP yN s = t at S2 HT JDD
              obtain ⟨A3, c3, e3⟩ := Kd.yT S2.out.nodes
              subst e3
              obtain ⟨A4, c4, e4⟩ := Kd.yT S2.out.eqs
              subst e4
              obtain ⟨_, hc3, hC3⟩ := Kd.uS S2.out.nodes
              have HFN := aq (show Calls Try.prog 38 #[.agg fl, .slice A3 t.nodes.length c3, .slice A4 t.eqs.length c4, .slice Aa f.vars.length ca] w6 fun e w' => ∃ vv vn vs vl, e = .returned (.tuple #[.agg #[vv, vn, .slice A4 t.eqs.length c4, vs], vl, .int .i64 0]) ∧
                  Kd.R k59 59 w' w6.heap.size (fun _ => True) vv (xS f t).1.vars ∧ Kd.R k37 37 w' w6.heap.size (fun _ => True) vn (xS f t).1.nodes ∧ Kd.R k80 80 w' w6.heap.size (fun _ => True) vs (xS f t).1.yM ∧ Kd.R k32 53 w' w6.heap.size (fun _ => True) vl (xS f t).2 ∧ Below w6.heap.size w6 w' by
                have ha := S2.out.all
                rw [← HFL.out]
                rw [← JDD.out.len] at ha ⊢
                have := fin38 f Av cv An cn Ae ce As cs w6 (HF.out.below S2.out.B) HO.out.vle HO.out.sle HO.out.start t.nodes A3 c3 hC3 JDD.out.nl JDD.out.var A4 t.eqs.length c4 t.l Aa ca ha JDD.out.fok JDD.out.len
                exact this)
              clear hdb HJ HRUN W HDN HST HRL HSE HBL hc3 hC3 HJW HJS HJD JDD S HOWN
              have GF := aq S2.out.b1
              go_wp2_with (first | ((with_reducible refine gD (N := 90) rfl ?_); (with_reducible refine yY 47 ?_); refine ev_ld (g := w.heap.size) (t := 47) (n := 4) (c := fl) rfl GF.out (by kernel_rfl) (by kernel_rfl) HSZ.out ?_) | (go_at_call 38; refine HFN.out.mono ?_; rintro e w7 ⟨vv, vn, vs, vl, rfl, h1, h2, h3, h4, hb⟩; have R1 := aq h1; have R2 := aq h2; have R3 := aq h3; have R4 := aq h4; have S3 := aq (S2.out.step hb); have HSZ6 := aq S2.out.B.size; have B7 := aq (bt_ S2.out.B hb); clear h1 h2 h3 h4 hb S2 HFN; obtain ⟨A7, c7, e7⟩ := Kd.yT R1.out; subst e7; obtain ⟨A5, c5, e5⟩ := Kd.yT R2.out; subst e5; obtain ⟨A6, c6, e6⟩ := Kd.yT R3.out; subst e6; have e0 := (bq S3.out.b2 0).trans (show _ = some (.slice none 0 0) from rfl); have e1 := (bq S3.out.b2 1).trans (show _ = some (.slice none 0 0) from rfl); have e2 := (bq S3.out.b2 2).trans (show _ = some (.slice none 0 0) from rfl); have e3 := (bq S3.out.b2 3).trans (show _ = some (.slice none 0 0) from rfl); have q0 := bf_ S3.out.b2 0; have q1 := bf_ S3.out.b2 1; have q2 := bf_ S3.out.b2 2; have q3 := bf_ S3.out.b2 3))
              have hx := yP (yP (yP (yP S3.out.b2 0 (.slice A7 (xS f t).1.vars.length c7)) 1 (.slice A5 (xS f t).1.nodes.length c5)) 2 (.slice A4 t.eqs.length c4)) 3 (.slice A6 (xS f t).1.yM.length c6)
              have KK := aq (((((KB.refl g2 w7).one (zR w7 ⟨g2, 0, none⟩ (.slice A7 (xS f t).1.vars.length c7))).one (zR _ ⟨g2, 1, none⟩ (.slice A5 (xS f t).1.nodes.length c5))).one (zR _ ⟨g2, 2, none⟩ (.slice A4 t.eqs.length c4))).one (zR _ ⟨g2, 3, none⟩ (.slice A6 (xS f t).1.yM.length c6)))
              rw [Exit.noGoto_ret]
              refine bodyPost_ret (results_ctt (p := 2) (ty := 47) rfl _ _ g2 47 _ (0, 0) _ rfl hx hu47 rfl (by kernel_rfl)) rfl ?_
              have lw := HSZ6.out
              exact ⟨_, _, _, _, _, t, rfl, HT.out, KK.out.R (Kd.vJ R1.out lw) S3.out.b2 (by decide), KK.out.R (Kd.vJ R2.out lw) S3.out.b2 (by decide), KK.out.R S3.out.eqs S3.out.b2 (by decide), KK.out.R (Kd.vJ R3.out lw) S3.out.b2 (by decide), KK.out.R (Kd.vJ R4.out lw) S3.out.b2 (by decide), B7.out.trans (KK.out.below GE.out.2 B7.out.size)⟩
            · have hdb : doneR s = false := by rw [HDN.out]; exact beq_eq_false_iff_ne.2 hd
              have hd1 : ((pa.1.length : Int) == (s.eqs.length : Int)) = false := beq_eq_false_iff_ne.2 (by omega)
              have HT := aq (show ∀ t, sC yN (pP yN s) t → sC yN (uC yN f) t from fun t h => HRUN.out t (.more hdb h))
              have HJ2 := aq (HJS.out s HJ.out hdb)
              have HLE := aq (show (pP yN s).eqs.length < s.eqs.length by
                rw [HSE.out]
                show (xA yN (rawG s) (rawR s)).2.length < s.eqs.length
                rw [HBL.out, HRL.out]
                have := HST.out
                omega)
              generalize pP yN s = t at S2 HT HJ2 HLE
              clear hdb HJ HRUN W HDN HST HRL HSE HBL S HOWN
              go_wp2
              obtain ⟨A4, c4, e4⟩ := Kd.yT S2.out.eqs
              subst e4
              exact ⟨⟨t, HJ2.out, HT.out, S2⟩, HLE.out⟩
def endB (l : List S32) (i : Nat) : Bool := (rdA l (i : Int)).f1 == 1 && (rdA l (i : Int)).f0 == (i : Int)
theorem qN {l : List S32} {i : Nat} (h : i < l.length) : endB l i = true ↔ sK l (i : Int) := by
  unfold endB sK
  rw [Bool.and_eq_true, beq_iff_eq, beq_iff_eq]
  exact ⟨fun k => ⟨by omega, by omega, k.1, k.2⟩, fun k => ⟨k.2.2.1, k.2.2.2⟩⟩
def sN (l : List S32) : Nat := ((List.range l.length).filter (endB l)).length
theorem filter_one {p p' : Nat → Bool} {e : Nat} (hp : p e = true) (hp' : p' e = false) (h : ∀ i, i ≠ e → p' i = p i) : ∀ m, ((List.range m).filter p').length + (if e < m then 1 else 0) = ((List.range m).filter p).length := by
  intro m
  induction m with
  | zero => simp
  | succ m ih =>
    rw [List.range_succ, List.filter_append, List.filter_append, List.length_append, List.length_append]
    by_cases hm : m = e
    · subst hm
      rw [if_neg (by omega)] at ih
      rw [if_pos (by omega), List.filter_cons_of_neg (by rw [hp']; decide), List.filter_cons_of_pos hp]
      simp only [List.filter_nil, List.length_nil, List.length_singleton]
      omega
    · have hs : [m].filter p' = [m].filter p := by simp only [List.filter_cons, List.filter_nil, h m hm]
      rw [hs]
      by_cases hlt : e < m
      · rw [if_pos hlt] at ih; rw [if_pos (by omega)]; omega
      · rw [if_neg hlt] at ih; rw [if_neg (by omega)]; omega
theorem ZA.not_end {l : List S32} {e : Int} {z : S32} (hz : ZA l e z) (h1 : z.f1 = 1) (h0 : z.f0 = e) : False := by
  rcases hz with rfl | ⟨_, _, h⟩
  · exact absurd h1 (by decide)
  · omega
theorem end_set {l : List S32} {e i : Int} {z : S32} (he : sK l e) (hz : ZA l e z) (h : sK (l.set e.toNat z) i) : sK l i ∧ i ≠ e := by
  obtain ⟨i0, i1, h1, h2⟩ := h
  rw [List.length_set] at i1
  by_cases k : e = i
  · subst k
    rw [rdA_set_eq i0 i1] at h1 h2
    exact (hz.not_end h1 h2).elim
  · rw [nS he.1 i0 k] at h1 h2
    exact ⟨⟨i0, i1, h1, h2⟩, fun h => k h.symm⟩
theorem ends_set {l : List S32} {e : Int} {z : S32} (he : sK l e) (hz : ZA l e z) : sN (l.set e.toNat z) + 1 = sN l := by
  unfold sN
  rw [List.length_set]
  have h0 := he.1
  have h1 := he.2.1
  have := filter_one (p := endB l) (p' := endB (l.set e.toNat z)) (e := e.toNat) ((qN (by omega)).2 (by rw [show ((e.toNat : Nat) : Int) = e by omega]; exact he)) (by
    cases hb : endB (l.set e.toNat z) e.toNat with
    | false => rfl
    | true =>
      have := (qN (by rw [List.length_set]; omega)).1 hb
      rw [show ((e.toNat : Nat) : Int) = e by omega] at this
      exact absurd rfl (end_set he hz this).2) (fun i hi => by
    unfold endB
    rw [nS h0 (by omega) (by omega)]) l.length
  rw [if_pos (by omega)] at this
  exact this
def SayOK (n : Nat) (s : Say) : Prop := s.is = true → (0 ≤ s.x ∧ s.x < (n : Int)) ∧ (s.s = 0 ∨ s.s = 1 ∨ s.s = -1) ∧ (s.s ≠ 0 → 0 ≤ s.y ∧ s.y < (n : Int))
structure PassOK (nodes : List S37) (n : Nat) (eqs acc : List Int) (l : List S32) (r : List Int × List S32) : Prop where
  fok : FOK r.2
  len : r.2.length = n
  st : ∃ st, r.1 = acc ++ st ∧ st.Sublist eqs ∧ sN r.2 + eqs.length = sN l + st.length ∧ (st.length = eqs.length → r.2 = l ∧ ∀ e ∈ eqs, ¬((wH nodes e).is = true ∧ (tN l (wH nodes e).x (wH nodes e).y (wH nodes e).s).2 = true))
  ends : ∀ i, sK r.2 i → sK l i
theorem pass_ok {nodes : List S37} {n : Nat} : ∀ (eqs acc : List Int) (l : List S32), FOK l → l.length = n → (∀ e ∈ eqs, SayOK n (wH nodes e)) → PassOK nodes n eqs acc l (eqs.foldl (pC nodes) (acc, l)) := by
  intro eqs
  induction eqs with
  | nil => intro acc l hf hl _; exact ⟨hf, hl, ⟨[], by simp, List.Sublist.slnil, rfl, fun _ => ⟨rfl, fun e he => by simp at he⟩⟩, fun _ h => h⟩
  | cons e es ih =>
    intro acc l hf hl hs
    rw [List.foldl_cons]
    have hse := hs e (List.mem_cons_self ..)
    have hss : ∀ e ∈ es, SayOK n (wH nodes e) := fun e he => hs e (List.mem_cons_of_mem _ he)
    by_cases c : (wH nodes e).is = true ∧ (tN l (wH nodes e).x (wH nodes e).y (wH nodes e).s).2 = true
    · rw [show pC nodes (acc, l) e = (acc, (tN l (wH nodes e).x (wH nodes e).y (wH nodes e).s).1) from if_pos c]
      obtain ⟨hx, h01, hy⟩ := hse c.1
      rw [← hl] at hx hy
      rcases join_is hf hx h01 hy with hj | ⟨e0, z, he, hz, hj⟩
      · rw [hj] at c; exact absurd c.2 (fun h => by cases h)
      rw [hj]
      show PassOK nodes n (e :: es) acc l (es.foldl (pC nodes) (acc, l.set e0.toNat z))
      have h := ih acc (l.set e0.toNat z) (hf.set he hz) (by rw [List.length_set]; exact hl) hss
      obtain ⟨st, e1, e2, e3, e4⟩ := h.st
      have hes := ends_set he hz
      refine ⟨h.fok, h.len, ⟨st, e1, e2.cons e, ?_, fun hn => ?_⟩, fun i hi => (end_set he hz (h.ends i hi)).1⟩
      · rw [List.length_cons]; omega
      · have := e2.length_le
        rw [List.length_cons] at hn
        omega
    · rw [show pC nodes (acc, l) e = (acc ++ [e], l) from if_neg c]
      have h := ih (acc ++ [e]) l hf hl hss
      obtain ⟨st, e1, e2, e3, e4⟩ := h.st
      refine ⟨h.fok, h.len, ⟨e :: st, ?_, e2.cons_cons e, ?_, fun hn => ?_⟩, h.ends⟩
      · show _ = acc ++ e :: st
        rw [← List.append_cons] at e1
        exact e1
      · rw [List.length_cons, List.length_cons]; omega
      · rw [List.length_cons, List.length_cons] at hn
        obtain ⟨q1, q2⟩ := e4 (by omega)
        refine ⟨q1, fun a ha => ?_⟩
        rcases List.mem_cons.1 ha with rfl | ha
        · exact c
        · exact q2 a ha
theorem okN_ren {i i' : Int} {x : S37} {a b : Int} (h : okN i x = true) (ha : 0 < zI x.f0 → 0 ≤ a ∧ a < i') (hb : 1 < zI x.f0 → 0 ≤ b ∧ b < i') : okN i' { x with f1 := a, f2 := b } = true := by
  unfold okN at h ⊢
  simp only [Bool.and_eq_true, Bool.or_eq_true, decide_eq_true_eq] at h ⊢
  obtain ⟨⟨⟨⟨⟨h0, h1⟩, h2⟩, h3⟩, h4⟩, h5⟩ := h
  refine ⟨⟨⟨⟨⟨h0, ?_⟩, ?_⟩, h3⟩, h4⟩, h5⟩
  · by_cases k : 0 < zI x.f0
    · exact .inr (ha k)
    · exact .inl (by omega)
  · by_cases k : 1 < zI x.f0
    · exact .inr (hb k)
    · exact .inl (by omega)
theorem okN_K01 (i : Int) : okN i (vP ⟨0, 1⟩) = true := by
  have h : okN 0 (vP ⟨0, 1⟩) = true := by decide
  exact okN_ren (a := 0) (b := 0) h (fun k => absurd k (by decide)) (fun k => absurd k (by decide))
theorem okN_V2 {i v k : Int} (hv : 0 ≤ v) (hk : 0 ≤ k ∧ k ≤ 6) : okN i (xU ⟨v, k⟩) = true := by
  unfold okN xU
  have : zI 2 = 0 := by decide
  simp [this, hv, hk.1, hk.2]
theorem okN_H7 {i a : Int} (ha : 0 ≤ a) (h : a < i) : okN i (nodeH 7 a 0) = true := by
  unfold okN
  have : zI 7 = 1 := by decide
  simp [this, ha, h]
theorem NodeI_K01 : wM (vP ⟨0, 1⟩) := by
  obtain ⟨z, o⟩ := I64_z
  exact ⟨z, o, z, o, z, o, z, o, z, o, z, o, z, o, z, o⟩
theorem NodeI_V2 (k : S32) : wM (xU k) := by
  obtain ⟨z, o⟩ := I64_z
  exact ⟨z, z, z, z, z, z, z, z, z, z, z, z, z, z, z, z⟩
theorem NodeI_H7 (a : Int) : wM (nodeH 7 a 0) := by
  obtain ⟨z, o⟩ := I64_z
  exact ⟨z, z, z, z, z, z, z, z, z, z, z, z, z, z, z, z⟩
structure RawOK (l : List S32) (out : List S37) : Prop where
  ok : ∀ i : Nat, i < out.length → okN (i : Int) (rT out (i : Int)) = true
  I : ∀ x ∈ out, wM x
  var : ∀ x ∈ out, x.f0 = 2 → sK l x.f5.f0
theorem RawOK.push {l : List S32} {out : List S37} {x : S37} (h : RawOK l out) (ho : okN (out.length : Int) x = true) (hI : wM x) (hv : x.f0 = 2 → sK l x.f5.f0) : RawOK l (out ++ [x]) := by
  refine ⟨fun i hi => ?_, fun y hy => ?_, fun y hy => ?_⟩
  · rw [List.length_append, List.length_singleton] at hi
    by_cases k : i < out.length
    · rw [tI (by omega) (by omega)]; exact h.ok i k
    · obtain rfl : i = out.length := by omega
      rw [qU]; exact ho
  · rcases List.mem_append.1 hy with hy | hy
    · exact h.I y hy
    · rw [List.mem_singleton.1 hy]; exact hI
  · rcases List.mem_append.1 hy with hy | hy
    · exact h.var y hy
    · rw [List.mem_singleton.1 hy]; exact hv
def negV (nodes : List S37) (l : List S32) (i : Nat) : Bool := (rT nodes (i : Int)).f0 == 2 && decide ((ofA l (rT nodes (i : Int)).f5.f0).f1 < 0)
def negN (nodes : List S37) (l : List S32) (k : Nat) : Nat := ((List.range k).filter (negV nodes l)).length
theorem negN_succ (nodes : List S37) (l : List S32) (k : Nat) : negN nodes l (k + 1) = negN nodes l k + if negV nodes l k = true then 1 else 0 := by
  unfold negN
  rw [List.range_succ, List.filter_append, List.length_append]
  cases h : negV nodes l k with
  | true => rw [List.filter_cons_of_pos h]; rfl
  | false => rw [List.filter_cons_of_neg (by rw [h]; decide)]; rfl
structure PutI (nodes : List S37) (l : List S32) (k : Nat) (r : List S37 × List Int) : Prop where
  raw : RawOK l r.1
  len : r.2.length = nodes.length
  tv : ∀ j : Nat, j < k → 0 ≤ rd r.2 (j : Int) ∧ rd r.2 (j : Int) < (r.1.length : Int)
  cnt : r.1.length = k + negN nodes l k
theorem put_ok {nodes : List S37} {l : List S32} (hg : ∀ i : Nat, i < nodes.length → okN (i : Int) (rT nodes (i : Int)) = true) (hI : ∀ x ∈ nodes, wM x) (hf : FOK l) (hv : ∀ i : Nat, i < nodes.length → (rT nodes (i : Int)).f0 = 2 → 0 ≤ (rT nodes (i : Int)).f5.f0 ∧ (rT nodes (i : Int)).f5.f0 < (l.length : Int)) : ∀ k, k ≤ nodes.length → PutI nodes l k (rP nodes l k) := by
  intro k
  induction k with
  | zero => intro _; exact ⟨⟨fun i hi => by simp [rP] at hi, fun x hx => by simp [rP] at hx, fun x hx => by simp [rP] at hx⟩, by simp [rP], fun j hj => by omega, by simp [rP, negN]⟩
  | succ k ih =>
    intro hk
    have h := ih (by omega)
    rw [pRun_succ]
    have hx := hg k (by omega)
    have hxv := hv k (by omega)
    have hxI : wM (rT nodes (k : Int)) := hI _ (by rw [vD (by omega)]; exact List.getElem_mem _)
    have hn := negN_succ nodes l k
    unfold negV at hn
    generalize rT nodes (k : Int) = x at hx hxv hxI hn ⊢
    generalize rP nodes l k = st at h ⊢
    obtain ⟨out, tv⟩ := st
    have hr := h.raw
    have htl : tv.length = nodes.length := h.len
    have hto := h.tv
    have hct := h.cnt
    dsimp only at hr hto hct
    have tset : ∀ (out' : List S37) (v : Int), out.length ≤ out'.length → 0 ≤ v → v < (out'.length : Int) → ∀ j : Nat, j < k + 1 → 0 ≤ rd (tv.set k v) (j : Int) ∧ rd (tv.set k v) (j : Int) < (out'.length : Int) := fun out' v h1 h2 h3 j hj => by
      by_cases e : j = k
      · subst e; rw [sG (by omega)]; exact ⟨h2, h3⟩
      · rw [oI (fun h => e h.symm)]
        have := hto j (by omega)
        omega
    unfold putS
    by_cases c1 : x.f0 = 2
    · rw [if_neg (fun h => h c1)]
      obtain ⟨v0, v1⟩ := hxv c1
      have hK : 0 ≤ x.f5.f1 ∧ x.f5.f1 ≤ 6 := by
        have := (uW hx).2.2.2.2.1 c1
        exact ⟨this.2.1, this.2.2⟩
      have hae := oH hf v0 v1
      generalize ofA l x.f5.f0 = a at hae hn ⊢
      by_cases c2 : a.f1 = 0
      · rw [if_pos c2]
        rw [if_neg (by rw [c2]; simp)] at hn
        refine ⟨hr.push (okN_K01 _) NodeI_K01 (fun h => absurd h (by decide)), by simp [htl], tset _ _ (by simp) (by omega) (by rw [List.length_append, List.length_singleton]; omega), ?_⟩
        show (out ++ [vP ⟨0, 1⟩]).length = _
        rw [List.length_append, List.length_singleton]; omega
      · rw [if_neg c2]
        have hae' : sK l a.f0 ∧ (a.f1 = 1 ∨ a.f1 = -1) := by
          rcases hae with h | h
          · rw [h] at c2; exact absurd rfl c2
          · exact ⟨h.1, h.2.2⟩
        have r1 := hr.push (x := xU ⟨a.f0, x.f5.f1⟩) (okN_V2 hae'.1.1 hK) (NodeI_V2 _) (fun _ => hae'.1)
        by_cases c3 : a.f1 < 0
        · rw [if_pos c3]
          rw [if_pos (by rw [c1]; simp [c3])] at hn
          have r2 := r1.push (x := nodeH 7 (out.length : Int) 0) (okN_H7 (by omega) (by rw [List.length_append, List.length_singleton]; omega)) (NodeI_H7 _) (fun h => absurd h (by show ¬ (7 : Int) = 2; decide))
          rw [List.append_assoc] at r2
          refine ⟨r2, by simp [htl], tset _ _ (by simp) (by omega) (by simp), ?_⟩
          show (out ++ [xU ⟨a.f0, x.f5.f1⟩, nodeH 7 (out.length : Int) 0]).length = _
          rw [List.length_append]; simp only [List.length_cons, List.length_nil]; omega
        · rw [if_neg c3]
          rw [if_neg (by simp [c3])] at hn
          refine ⟨r1, by simp [htl], tset _ _ (by simp) (by omega) (by rw [List.length_append, List.length_singleton]; omega), ?_⟩
          show (out ++ [xU ⟨a.f0, x.f5.f1⟩]).length = _
          rw [List.length_append, List.length_singleton]; omega
    · rw [if_pos c1]
      rw [if_neg (by simp [c1])] at hn
      obtain ⟨_, oa, ob, _⟩ := uW hx
      have ops : ∀ c : Int, 0 ≤ c → c < (k : Int) → 0 ≤ rd tv c ∧ rd tv c < (out.length : Int) := fun c c0 c1 => by
        obtain ⟨m, rfl⟩ := Int.eq_ofNat_of_zero_le c0
        exact hto m (by omega)
      refine ⟨hr.push (okN_ren hx (fun p => ops _ (oa p).1 (oa p).2) (fun p => ops _ (ob p).1 (ob p).2)) hxI (fun h => absurd h c1), by simp [htl], tset _ _ (by simp) (by omega) (by rw [List.length_append, List.length_singleton]; omega), ?_⟩
      show (out ++ [{ x with f1 := rd tv x.f1, f2 := rd tv x.f2 }]).length = _
      rw [List.length_append, List.length_singleton]; omega
theorem nodup_le {α : Type} [DecidableEq α] : ∀ (a b : List α), a.Nodup → (∀ x ∈ a, x ∈ b) → a.length ≤ b.length := by
  intro a
  induction a with
  | nil => intro b _ _; simp
  | cons x xs ih =>
    intro b hn hs
    rw [List.nodup_cons] at hn
    have h1 := ih (b.erase x) hn.2 (fun y hy => by
      have : y ≠ x := fun e => hn.1 (e ▸ hy)
      exact (List.mem_erase_of_ne this).2 (hs y (List.mem_cons_of_mem _ hy)))
    have h2 := List.length_erase_of_mem (hs x (List.mem_cons_self ..))
    have h3 : 0 < b.length := List.length_pos_of_mem (hs x (List.mem_cons_self ..))
    rw [List.length_cons]
    omega
theorem filter_split {p p0 : Nat → Bool} : ∀ m, (∀ i, i < m → p i = true → p0 i = true) → ((List.range m).filter fun i => p0 i && !p i).length + ((List.range m).filter p).length = ((List.range m).filter p0).length := by
  intro m
  induction m with
  | zero => simp
  | succ m ih =>
    intro h
    have h1 := ih (fun i hi => h i (by omega))
    have h2 := h m (by omega)
    rw [List.range_succ, List.filter_append, List.filter_append, List.filter_append, List.length_append, List.length_append, List.length_append]
    simp only [List.filter_cons, List.filter_nil]
    cases h3 : p m <;> cases h4 : p0 m <;> simp [h3, h4] at h2 ⊢ <;> omega
def code7 (k : S32) : Nat := k.f0.toNat * 7 + k.f1.toNat
theorem flat7 (D : List Nat) : (D.flatMap fun v => (List.range 7).map fun k => v * 7 + k).length = 7 * D.length := by
  induction D with
  | nil => rfl
  | cons d ds ih => rw [List.flatMap_cons, List.length_append, ih, List.length_map, List.length_range, List.length_cons]; omega
def VarOK (l : List S32) (nodes : List S37) : Prop := ∀ x ∈ nodes, x.f0 = 2 → x = xU x.f5 ∧ sK l x.f5.f0 ∧ 0 ≤ x.f5.f1 ∧ x.f5.f1 ≤ 6
theorem negN_le {nodes : List S37} {l0 l : List S32} (hnd : nodes.Nodup) (hv : VarOK l0 nodes) (hl : l.length = l0.length) (he : ∀ i, sK l i → sK l0 i) : negN nodes l nodes.length + 7 * sN l ≤ 7 * sN l0 := by
  have hsp := filter_split (p := endB l) (p0 := endB l0) l0.length (fun i hi h => (qN hi).2 (he i ((qN (by omega)).1 h)))
  have hmem : ∀ i, i < nodes.length → rT nodes (i : Int) ∈ nodes := fun i hi => by rw [vD hi]; exact List.getElem_mem _
  have hle := nodup_le (((List.range nodes.length).filter (negV nodes l)).map fun (i : Nat) => code7 (rT nodes (i : Int)).f5) ((((List.range l0.length).filter fun i => endB l0 i && !endB l i)).flatMap fun v => (List.range 7).map fun k => v * 7 + k) (by
    unfold List.Nodup
    rw [List.pairwise_map]
    refine List.Pairwise.imp_of_mem ?_ (List.Pairwise.filter _ List.nodup_range)
    intro i j hi hj hij hc
    rw [List.mem_filter, List.mem_range] at hi hj
    unfold negV at hi hj
    simp only [Bool.and_eq_true, beq_iff_eq, decide_eq_true_eq] at hi hj
    obtain ⟨e1, n1, k1, m1⟩ := hv _ (hmem i hi.1) hi.2.1
    obtain ⟨e2, n2, k2, m2⟩ := hv _ (hmem j hj.1) hj.2.1
    have f0 := n1.1
    have g0 := n2.1
    unfold code7 at hc
    have hk : (rT nodes (i : Int)).f5 = (rT nodes (j : Int)).f5 := by
      generalize (rT nodes (i : Int)).f5 = a at *
      generalize (rT nodes (j : Int)).f5 = b at *
      obtain ⟨a0, a1⟩ := a
      obtain ⟨b0, b1⟩ := b
      dsimp only at *
      have : a0 = b0 ∧ a1 = b1 := by omega
      rw [this.1, this.2]
    have hx : nodes[i]'hi.1 = nodes[j]'hj.1 := by
      rw [← vD hi.1, ← vD hj.1, e1, e2, hk]
    exact hij ((List.getElem_inj hnd).1 hx)) (fun c hc => by
    obtain ⟨i, hi, rfl⟩ := List.mem_map.1 hc
    rw [List.mem_filter, List.mem_range] at hi
    have hi2 := hi.2
    unfold negV at hi2
    simp only [Bool.and_eq_true, beq_iff_eq, decide_eq_true_eq] at hi2
    obtain ⟨e1, n1, k1, m1⟩ := hv _ (hmem i hi.1) hi2.1
    have f0 := n1.1
    have f1 := n1.2.1
    have hnot : ¬ sK l (rT nodes (i : Int)).f5.f0 := fun h => by
      have := hi2.2
      rw [ofA_self h] at this
      have : (1 : Int) < 0 := this
      omega
    refine List.mem_flatMap.2 ⟨(rT nodes (i : Int)).f5.f0.toNat, ?_, ?_⟩
    · rw [List.mem_filter, List.mem_range]
      refine ⟨by omega, ?_⟩
      have ev : (((rT nodes (i : Int)).f5.f0.toNat : Nat) : Int) = (rT nodes (i : Int)).f5.f0 := by omega
      rw [Bool.and_eq_true, Bool.not_eq_true']
      refine ⟨(qN (by omega)).2 (by rw [ev]; exact n1), ?_⟩
      cases hb : endB l (rT nodes (i : Int)).f5.f0.toNat with
      | false => rfl
      | true =>
        have := (qN (by omega)).1 hb
        rw [ev] at this
        exact absurd this hnot
    · refine List.mem_map.2 ⟨(rT nodes (i : Int)).f5.f1.toNat, List.mem_range.2 (by omega), rfl⟩)
  rw [List.length_map, flat7] at hle
  unfold negN
  unfold sN at hsp ⊢
  rw [hl]
  omega
theorem pN {g : PG} {x y : S37} (h : y ∈ (wJ g x).1.L) : y ∈ g.L ∨ y = x := by
  unfold wJ at h
  split at h
  · exact .inl h
  · split at h
    · exact .inl h
    · rcases List.mem_append.1 h with h | h
      · exact .inl h
      · exact .inr (List.mem_singleton.1 h)
theorem made_mem {R : xH} {g : PG} {kind a b n : Int} {r : PG × Int} (hk : kind ≠ 2) (h : pQ R g kind a b n r) {y : S37} (hy : y ∈ r.1.L) : y ∈ g.L ∨ y.f0 ≠ 2 := by
  cases h with
  | num q hq => exact (pN hy).imp id (fun e => by rw [e]; show ¬ (1 : Int) = 2; decide)
  | old c hc => exact .inl hy
  | unneg c hc h7 => exact .inl hy
  | neg c hc hs => exact (pN hy).imp id (fun e => by rw [e]; show ¬ (7 : Int) = 2; decide)
  | node hs => exact (pN hy).imp id (fun e => by rw [e]; exact hk)
theorem makeG_mem {R : xH} (hR : tR R) {g : PG} (h : sJ R g.L g.T) (hl : g.xD = false) {kind a b n : Int} (hk : kind ≠ 2) (ha0 : 0 ≤ a) (ha : a < (g.L.length : Int)) (hb0 : 0 ≤ b) (hb : b < (g.L.length : Int)) {y : S37} (hy : y ∈ (tT R g kind a b n).1.L) : y ∈ g.L ∨ y.f0 ≠ 2 := by
  have hc0 : ∀ c, c = a ∨ c = b → 0 ≤ c ∧ c < (g.L.length : Int) := fun c hc => by rcases hc with rfl | rfl <;> exact ⟨by assumption, by assumption⟩
  exact made_mem hk (make_by (n := n) (kind := kind) hR hl ha0 hb0 (fun c hc h1 => ((h.at_ (hc0 c hc).1 (hc0 c hc).2).num h1).2) (fun c hc h1 => (h.neg_at (hc0 c hc).1 (hc0 c hc).2 h1).1)) hy
theorem bNode_mem {R : xH} (hR : tR R) {g : PG} (h : sJ R g.L g.T) (hl : g.xD = false) {tv : List Int} {x : S37} {i : Int} (hx : okN i x = true)
    (h1 : 0 < zI x.f0 → 0 ≤ rd tv x.f1 ∧ rd tv x.f1 < (g.L.length : Int)) (h2 : 1 < zI x.f0 → 0 ≤ rd tv x.f2 ∧ rd tv x.f2 < (g.L.length : Int)) {y : S37} (hy : y ∈ (uQ R g tv x).1.L) (hy2 : y.f0 = 2) : y ∈ g.L ∨ (x.f0 = 2 ∧ y = xU x.f5) := by
  unfold uQ at hy
  by_cases k1 : x.f0 = 1
  · rw [if_pos k1] at hy
    exact (pN hy).imp id (fun e => by rw [e] at hy2; exact absurd hy2 (by show ¬ (1 : Int) = 2; decide))
  rw [if_neg k1] at hy
  by_cases k2 : x.f0 = 2
  · rw [if_pos k2] at hy
    exact (pN hy).imp id (fun e => ⟨k2, e⟩)
  rw [if_neg k2] at hy
  by_cases k15 : x.f0 = 15
  · rw [if_pos k15] at hy
    exact (pN hy).imp id (fun e => by rw [e] at hy2; exact absurd hy2 (by show ¬ (15 : Int) = 2; decide))
  rw [if_neg k15] at hy
  have o0 := (uW hx).1
  by_cases ka : zI x.f0 = 1
  · rw [if_pos ka] at hy
    obtain ⟨p, q⟩ := h1 (by omega)
    exact (makeG_mem hR h hl k2 p q p q hy).imp id (fun e => absurd hy2 e)
  · rw [if_neg ka] at hy
    have k2' : zI x.f0 = 2 := by rcases sD x.f0 with h1 | h1 | h1 | h1 <;> omega
    obtain ⟨p, q⟩ := h1 (by omega)
    obtain ⟨p2, q2⟩ := h2 (by omega)
    exact (makeG_mem hR h hl k2 p q p2 q2 hy).imp id (fun e => absurd hy2 e)
theorem bRun_vars {R : xH} (hR : tR R) {nodes : List S37} {use : List Bool} (hg : ∀ i : Nat, i < nodes.length → okN (i : Int) (rT nodes (i : Int)) = true) (hI : ∀ x ∈ nodes, wM x) (hs : Shut nodes use) : ∀ k, k ≤ nodes.length → k ≤ 4000 → ∀ y ∈ (xT R nodes use k).1.L, y.f0 = 2 → ∃ x ∈ nodes, x.f0 = 2 ∧ y = xU x.f5 := by
  intro k
  induction k with
  | zero => intro _ _ y hy; simp [xT] at hy
  | succ k ih =>
    intro hk h4 y hy hy2
    have ih' := ih (by omega) (by omega) y
    have h := bRun_ok hR hg hI hs k (by omega) (by omega)
    unfold xT at hy
    cases hu : zJ false use (k : Int) with
    | false =>
      rw [hu, if_neg (by decide)] at hy
      exact ih' hy hy2
    | true =>
      rw [hu, if_pos rfl] at hy
      have hx := hg k (by omega)
      obtain ⟨_, oa, ob, _⟩ := uW hx
      have hsk := hs k (by omega) hu
      have ops : ∀ c : Int, 0 ≤ c → c < (k : Int) → zJ false use c = true → 0 ≤ rd (xT R nodes use k).2 c ∧ rd (xT R nodes use k).2 c < ((xT R nodes use k).1.L.length : Int) := fun c c0 c1 cu => by
        obtain ⟨m, rfl⟩ := Int.eq_ofNat_of_zero_le c0
        exact h.tv m (by omega) cu
      have hmem : rT nodes (k : Int) ∈ nodes := by rw [vD (by omega)]; exact List.getElem_mem _
      rcases bNode_mem hR h.inv h.xD hx (fun p => ops _ (oa p).1 (oa p).2 (hsk.1 p)) (fun p => ops _ (ob p).1 (ob p).2 (hsk.2 p)) hy hy2 with e | e
      · exact ih' e hy2
      · exact ⟨_, hmem, e.1, e.2⟩
theorem build_vars {R : xH} (hR : tR R) {nodes : List S37} {roots : List Int} (hg : tE nodes roots = true) (hI : ∀ x ∈ nodes, wM x) : ∀ y ∈ (xA R nodes roots).1, y.f0 = 2 → ∃ x ∈ nodes, x.f0 = 2 ∧ y = xU x.f5 := by
  obtain ⟨L, T, r, tv, h⟩ := build_is hR hg hI
  obtain ⟨hr, hG⟩ := wK.1 hg
  obtain ⟨h4, hok⟩ := vO hG
  have hv := bRun_vars hR hok hI (uU (sU hG) hr) nodes.length (Nat.le_refl _) h4
  rw [h.run] at hv
  rw [h.build]
  intro y hy hy2
  have hy : y ∈ clrL L (yH L r) := hy
  unfold clrL at hy
  obtain ⟨i, hi, rfl⟩ := List.mem_map.1 hy
  rw [(vH _ _).1] at hy2
  have hil := (oN.1 hi).1
  have e : sT (pI (yH L r)) (rT L (i : Int)) = rT L (i : Int) := by
    have : zI 2 = 0 := by decide
    unfold sT
    rw [if_neg (by rw [hy2, this]; decide)]
  rw [e]
  exact hv _ (by rw [vD hil]; exact List.getElem_mem _) hy2
structure JR (n E B : Nat) (s : RS) : Prop where
  neat : Neat yN s.nodes s.eqs
  fok : FOK s.l
  len : s.l.length = n
  var : VarOK s.l s.nodes
  size : s.nodes.length + 7 * sN s.l ≤ B
  cnt : sN s.l + E = n + s.eqs.length
theorem endsN_le (l : List S32) : sN l ≤ l.length := by
  unfold sN
  have := List.length_filter_le (endB l) (List.range l.length)
  rw [List.length_range] at this
  exact this
theorem plainN_var {x : S37} (h : sQ x = true) : x.f0 = 2 ∧ x.f5.f1 = 0 := by
  unfold sQ at h
  rw [Bool.and_eq_true, beq_iff_eq, beq_iff_eq] at h
  exact h
theorem rT_mem {L : List S37} {i : Int} (h0 : 0 ≤ i) (h1 : i < (L.length : Int)) : rT L i ∈ L := by
  obtain ⟨m, rfl⟩ := Int.eq_ofNat_of_zero_le h0
  rw [vD (by omega)]
  exact List.getElem_mem _
theorem eqOf_range {nodes : List S37} (ho : OpsOK nodes) {e : Int} (h0 : 0 ≤ e) (h1 : e < (nodes.length : Int)) : 0 ≤ eqOf nodes e ∧ eqOf nodes e < (nodes.length : Int) := by
  unfold eqOf
  by_cases k : (rT nodes e).f0 = 7
  · rw [if_pos k]; exact (ho e h0 h1).1 (by rw [k]; decide)
  · rw [if_neg k]; exact ⟨h0, h1⟩
theorem say_ok {nodes : List S37} {l : List S32} (ho : OpsOK nodes) (hv : VarOK l nodes) {e : Int} (h0 : 0 ≤ e) (h1 : e < (nodes.length : Int)) : SayOK l.length (wH nodes e) := by
  obtain ⟨e0, e1⟩ := eqOf_range ho h0 h1
  intro hi
  unfold wH sayN at hi ⊢
  have hm := rT_mem e0 e1
  have hop := ho _ e0 e1
  generalize rT nodes (eqOf nodes e) = m at hm hop hi ⊢
  by_cases c1 : m.f0 = 2
  · rw [if_pos c1] at hi ⊢
    have h := (hv m hm c1).2.1
    exact ⟨⟨h.1, h.2.1⟩, .inl rfl, fun h => absurd rfl h⟩
  · rw [if_neg c1] at hi ⊢
    by_cases c2 : (m.f0 = 4 ∨ m.f0 = 3) ∧ sQ (rT nodes m.f1) = true ∧ sQ (rT nodes m.f2) = true ∧ m.f1 ≠ m.f2
    · rw [if_pos c2]
      obtain ⟨k, p1, p2, _⟩ := c2
      have ha : 2 = zI m.f0 := by rcases k with k | k <;> rw [k] <;> decide
      obtain ⟨a0, a1⟩ := hop.1 (by omega)
      obtain ⟨b0, b1⟩ := hop.2 (by omega)
      have q1 := (hv _ (rT_mem a0 a1) (plainN_var p1).1).2.1
      have q2 := (hv _ (rT_mem b0 b1) (plainN_var p2).1).2.1
      refine ⟨⟨q1.1, q1.2.1⟩, ?_, fun _ => ⟨q2.1, q2.2.1⟩⟩
      show (if m.f0 = 3 then (-1 : Int) else 1) = 0 ∨ (if m.f0 = 3 then (-1 : Int) else 1) = 1 ∨ (if m.f0 = 3 then (-1 : Int) else 1) = -1
      by_cases c3 : m.f0 = 3
      · rw [if_pos c3]; exact .inr (.inr rfl)
      · rw [if_neg c3]; exact .inr (.inl rfl)
    · rw [if_neg c2] at hi
      exact absurd hi (by show ¬ false = true; decide)
theorem neat_f12 {R : xH} {nodes : List S37} {r : List Int} (h : Neat R nodes r) : ∀ i : Int, 0 ≤ i → i < (nodes.length : Int) → (0 ≤ (rT nodes i).f1 ∧ (rT nodes i).f1 < (nodes.length : Int)) ∧ (0 ≤ (rT nodes i).f2 ∧ (rT nodes i).f2 < (nodes.length : Int)) := fun i i0 i1 => by
  obtain ⟨T, hT⟩ := h.inv
  obtain ⟨m, rfl⟩ := Int.eq_ofNat_of_zero_le i0
  have hz : (0 : Int) ≤ 0 ∧ (0 : Int) < (nodes.length : Int) := ⟨Int.le_refl _, by omega⟩
  rcases hT.ok m (by omega) with ⟨q, e, hq⟩ | ⟨v, e, hv⟩ | e | ⟨kind, a, b, n, e, hk, ha, hb, _⟩
  · rw [e]; exact ⟨hz, hz⟩
  · rw [e]; exact ⟨hz, hz⟩
  · rw [e]; exact ⟨hz, hz⟩
  · rw [e]
    refine ⟨⟨ha.1, by have := ha.2; show a < (nodes.length : Int); omega⟩, ?_⟩
    show 0 ≤ (if zI kind = 2 then b else 0) ∧ (if zI kind = 2 then b else 0) < (nodes.length : Int)
    by_cases c : zI kind = 2
    · rw [if_pos c]; exact ⟨hb.1, by have := hb.2; omega⟩
    · rw [if_neg c]; exact hz
theorem jr_step {n E B : Nat} (hB : B ≤ 1900) (hE : E ≤ 17592186044416) {s : RS} (h : JR n E B s) : JW n s ∧ JR n E B (pP yN s) := by
  obtain ⟨hroots, hG⟩ := wK.1 h.neat.right
  have ho : OpsOK s.nodes := ahead_ops (sU hG)
  obtain ⟨h4, hok⟩ := vO hG
  have hsz := h.size
  have hel : s.eqs.length ≤ E := by have := h.cnt; have := endsN_le s.l; have := h.len; omega
  have hsay : ∀ e ∈ s.eqs, SayOK n (wH s.nodes e) := fun e he => by
    rw [← h.len]; exact say_ok ho h.var (hroots e he).1 (hroots e he).2
  have hpk : ∀ k, PassOK s.nodes n (s.eqs.take k) [] s.l (qS s k) := fun k => pass_ok (s.eqs.take k) [] s.l h.fok h.len (fun e he => hsay e (List.mem_of_mem_take he))
  have hpa : PassOK s.nodes n s.eqs [] s.l (vQ s.nodes s.eqs s.l) := pass_ok s.eqs [] s.l h.fok h.len hsay
  obtain ⟨st, e1, e2, e3, e4⟩ := hpa.st
  rw [List.nil_append] at e1
  have hvr : ∀ i : Nat, i < s.nodes.length → (rT s.nodes (i : Int)).f0 = 2 → 0 ≤ (rT s.nodes (i : Int)).f5.f0 ∧ (rT s.nodes (i : Int)).f5.f0 < ((vQ s.nodes s.eqs s.l).2.length : Int) := fun i hi h2 => by
    have := (h.var _ (rT_mem (by omega) (by omega)) h2).2.1
    rw [hpa.len, ← h.len]
    exact ⟨this.1, this.2.1⟩
  have hpu := put_ok hok h.neat.nodeI hpa.fok hvr s.nodes.length (Nat.le_refl _)
  have hng := negN_le (l := (vQ s.nodes s.eqs s.l).2) h.neat.nodup h.var (by rw [hpa.len, h.len]) hpa.ends
  have hrl : (rawG s).length + 7 * sN (vQ s.nodes s.eqs s.l).2 ≤ B := by
    have := hpu.cnt
    unfold rawG putA
    omega
  have hstay : ∀ e ∈ (vQ s.nodes s.eqs s.l).1, 0 ≤ e ∧ e < (s.nodes.length : Int) := fun e he => by
    rw [e1] at he
    exact hroots e (e2.subset he)
  have hright : tE (rawG s) (rawR s) = true := wK.2 ⟨fun q hq => by
    obtain ⟨e, he, rfl⟩ := List.mem_map.1 hq
    obtain ⟨a0, a1⟩ := hstay e he
    obtain ⟨m, rfl⟩ := Int.eq_ofNat_of_zero_le a0
    exact hpu.tv m (by omega), graphB_mk (by omega) hpu.raw.ok⟩
  have hbn := build_neat qG hright hpu.raw.I
  refine ⟨⟨ho, hroots, by omega, by omega, fun k => (hpk k).fok, fun k => (hpk k).len, hsay, ⟨fun i i0 i1 => (neat_f12 h.neat i i0 i1).1, fun i i0 i1 => (neat_f12 h.neat i i0 i1).2, fun i i0 i1 h2 => by
    obtain ⟨m, rfl⟩ := Int.eq_ofNat_of_zero_le i0
    exact hvr m (by omega) h2⟩, hstay, fun k => ?_, hright, hpu.raw.I⟩, ?_⟩
  · obtain ⟨st', f1, f2, _⟩ := (hpk k).st
    rw [f1, List.nil_append]
    have := f2.length_le
    rw [List.length_take] at this
    omega
  · rw [stepR_eq]
    refine ⟨hbn.1, hpa.fok, hpa.len, fun y hy hy2 => ?_, ?_, ?_⟩
    · obtain ⟨x, hx, hx2, e⟩ := build_vars qG hright hpu.raw.I y hy hy2
      have hk : 0 ≤ x.f5.f1 ∧ x.f5.f1 ≤ 6 := by
        obtain ⟨i, hi, ei⟩ := List.mem_iff_getElem.1 hx
        have : (rT (rawG s) (i : Int)).f0 = 2 → 0 ≤ (rT (rawG s) (i : Int)).f5.f0 ∧ 0 ≤ (rT (rawG s) (i : Int)).f5.f1 ∧ (rT (rawG s) (i : Int)).f5.f1 ≤ 6 := (uW (hpu.raw.ok i hi)).2.2.2.2.1
        rw [vD hi, ei] at this
        exact ⟨(this hx2).2.1, (this hx2).2.2⟩
      have hf : y.f5 = x.f5 := by rw [e]; rfl
      rw [hf]
      exact ⟨e, hpu.raw.var x hx hx2, hk.1, hk.2⟩
    · show (xA yN (rawG s) (rawR s)).1.length + 7 * sN (vQ s.nodes s.eqs s.l).2 ≤ B
      have := hbn.2
      omega
    · show sN (vQ s.nodes s.eqs s.l).2 + E = n + (xA yN (rawG s) (rawR s)).2.length
      rw [qL, oU, e1]
      have := h.cnt
      omega
theorem JR.done {n E B : Nat} (hB : B ≤ 1900) {s : RS} (h : JR n E B s) : JD n s := ⟨h.fok, h.len, by have := h.size; omega, fun x hx h2 => by
  have := (h.var x hx h2).2.1
  exact ⟨this.1, by rw [← h.len]; exact this.2.1⟩⟩
theorem idA_len (n : Nat) : (idA n).length = n := by unfold idA; rw [List.length_map, List.length_range]
theorem idA_at {n : Nat} {i : Int} (h0 : 0 ≤ i) (h1 : i < (n : Int)) : rdA (idA n) i = ⟨i, 1⟩ := by
  obtain ⟨m, rfl⟩ := Int.eq_ofNat_of_zero_le h0
  unfold rdA zJ idA
  rw [List.getD_eq_getElem?_getD, List.getElem?_map, Int.toNat_natCast, List.getElem?_range (by omega)]
  rfl
theorem idA_end {n : Nat} {i : Int} (h0 : 0 ≤ i) (h1 : i < (n : Int)) : sK (idA n) i := ⟨h0, by rw [idA_len]; exact h1, by rw [idA_at h0 h1], by rw [idA_at h0 h1]⟩
theorem idA_fok (n : Nat) : FOK (idA n) := fun i h0 h1 => by
  rw [idA_len] at h1
  rw [idA_at h0 h1]
  exact .inr (.inr ⟨rfl, rfl⟩)
theorem idA_ends (n : Nat) : sN (idA n) = n := by
  unfold sN
  rw [idA_len]
  have : (List.range n).filter (endB (idA n)) = List.range n := List.filter_eq_self.2 fun i hi => (qN (by rw [idA_len]; exact List.mem_range.1 hi)).2 (idA_end (by omega) (by have := List.mem_range.1 hi; omega))
  rw [this, List.length_range]
theorem jr_start {f : rG} {B : Nat} (ho : FlatOK f) (hB : f.nodes.length + 7 * f.vars.length ≤ B) : JR f.vars.length f.eqs.length B (uC yN f) := by
  have hbn := build_neat qG ho.right ho.nodeI
  obtain ⟨hroots, hG⟩ := wK.1 ho.right
  obtain ⟨h4, hok⟩ := vO hG
  refine ⟨hbn.1, idA_fok _, idA_len _, fun y hy hy2 => ?_, ?_, ?_⟩
  · obtain ⟨x, hx, hx2, e⟩ := build_vars qG ho.right ho.nodeI y hy hy2
    have hk : 0 ≤ x.f5.f0 ∧ 0 ≤ x.f5.f1 ∧ x.f5.f1 ≤ 6 := by
      obtain ⟨i, hi, ei⟩ := List.mem_iff_getElem.1 hx
      have := (uW (hok i hi)).2.2.2.2.1
      rw [vD hi, ei] at this
      exact this hx2
    have hf : y.f5 = x.f5 := by rw [e]; rfl
    rw [hf]
    exact ⟨e, idA_end hk.1 (ho.var x hx hx2), hk.2.1, hk.2.2⟩
  · show (xA yN f.nodes f.eqs).1.length + 7 * sN (idA f.vars.length) ≤ B
    rw [idA_ends]
    have := hbn.2
    omega
  · show sN (idA f.vars.length) + f.eqs.length = f.vars.length + (xA yN f.nodes f.eqs).2.length
    rw [idA_ends, qL]
end Go.Proofs.Ytoonahobmlnflaa.PC
