/- Texts of this claim, one behind the other. -/
import Derived.Test.YtoonahobmlnflaaVc22
set_option linter.unusedVariables false
set_option linter.unusedSimpArgs false
set_option maxRecDepth 100000
set_option maxHeartbeats 16000000
namespace Go.Proofs.Ytoonahobmlnflaa.PC
open Go.RowKit Go.Shelf A B C
structure FinI (vars : List S59) (l : List S32) (k : Nat) : Prop where
  len : (vC vars l k).2.length = vars.length
  cnt : (vC vars l k).1.length = ((List.range k).filter (endB l)).length
  pos : ∀ i : Nat, i < k → sK l (i : Int) → 0 ≤ rd (vC vars l k).2 (i : Int) ∧ rd (vC vars l k).2 (i : Int) < ((vC vars l k).1.length : Int)
  mono : ∀ i j : Nat, i < j → j < k → sK l (i : Int) → sK l (j : Int) → rd (vC vars l k).2 (i : Int) < rd (vC vars l k).2 (j : Int)
theorem noteA_at {l : List S32} {tv : List Int} {n : Nat} {i : Int} (h0 : 0 ≤ i) (h1 : i < (n : Int)) : rdA (qQ l tv n) i = noteA tv (ofA l i) := by
  obtain ⟨m, rfl⟩ := Int.eq_ofNat_of_zero_le h0
  rw [listA_eq]
  unfold rdA zJ lsK
  rw [List.getD_eq_getElem?_getD, List.getElem?_map, Int.toNat_natCast, List.getElem?_range (by omega)]
  rfl
structure OnceIs (f a : rG) (ls : List S32) : Prop where
  ok : FlatOK a
  small : a.nodes.length + 7 * a.vars.length ≤ 1900
  len : ls.length = f.vars.length
  note : ∀ i : Int, 0 ≤ i → i < (f.vars.length : Int) → rdA ls i = ⟨0, 0⟩ ∨ (((rdA ls i).f1 = 1 ∨ (rdA ls i).f1 = -1) ∧ 0 ≤ (rdA ls i).f0 ∧ (rdA ls i).f0 < (a.vars.length : Int))
  vle : a.vars.length ≤ f.vars.length
  ele : a.eqs.length ≤ f.eqs.length
  cnt : f.vars.length + a.eqs.length = a.vars.length + f.eqs.length
  sle : a.yM.length ≤ f.yM.length
  again : ∀ t2, sC yN (uC yN a) t2 → xS a t2 = (a, idA a.vars.length)
def lk6.B6 : List Nat := [0, 1, 0, 7, 15, 0, 32, 0, 224, 480, 1023]
def lk12.T12 : Bool × List (List Nat × List Nat) := (true, [([], []), ([0], [0]), ([], []), ([1, 2], [1, 2]), ([3], [3]), ([], []), ([5], [5]), ([], []), ([6, 7], [6, 7]), ([8], [8]), ([4, 9], [4, 9])])
def lk12.B12 : List Nat := [0, 1, 0, 7, 15, 0, 32, 0, 224, 480, 1023]
theorem lk12.tab12 : wD .any (opsOf Try.f16 12) = lk12.T12 := by kernel_rfl
theorem lk12.bits12 : xR lk12.T12.2 lk12.B12 = true := by kernel_rfl
def lk24.T24 : Bool × List (List Nat × List Nat) := (true, [([], []), ([0], [0]), ([], []), ([1, 2], [1, 2]), ([3], [3]), ([], []), ([5], [5]), ([], []), ([6, 7], [6, 7]), ([8], [8]), ([4, 9], [4, 9])])
def lk24.B24 : List Nat := [0, 1, 0, 7, 15, 0, 32, 0, 224, 480, 1023]
theorem lk24.tab24 : wD .any (opsOf Try.f16 24) = lk24.T24 := by kernel_rfl
theorem lk24.bits24 : xR lk24.T24.2 lk24.B24 = true := by kernel_rfl
section
variable {a : Act} {W : World}
end
structure RedOut (f : rG) (t : RS) (w : World) (e : Ending) (A1 : Option Addr) (c1 : Nat) (A2 : Option Addr) (c2 : Nat) (A3 : Option Addr) (c3 : Nat) (A4 : Option Addr) (c4 : Nat) (A5 : Option Addr) (c5 : Nat) (w' : World) : Prop where
  ret : e = .returned (.tuple #[.agg (flA (xS f t).1 A1 c1 A2 c2 A3 c3 A4 c4), .slice A5 (xS f t).2.length c5, .int .i64 0])
  run : sC yN (uC yN f) t
  flat : FlatC (xS f t).1 A1 c1 A2 c2 A3 c3 A4 c4 w'
  list : Kd.R k32 53 w' w.heap.size (fun _ => True) (.slice A5 (xS f t).2.length c5) (xS f t).2
  B : Below w.heap.size w w'
theorem red15 (f : rG) (Av : Option Addr) (cv : Nat) (An : Option Addr) (cn : Nat) (Ae : Option Addr) (ce : Nat) (As : Option Addr) (cs : Nat) (w : World) (hF : FlatC f Av cv An cn Ae ce As cs w) (ho : FlatOK f) (hB : f.nodes.length + 7 * f.vars.length ≤ 1900) :
    Calls Try.prog 15 #[.agg (flA f Av cv An cn Ae ce As cs)] w fun e w' => ∃ t A1 c1 A2 c2 A3 c3 A4 c4 A5 c5, RedOut f t w e A1 c1 A2 c2 A3 c3 A4 c4 A5 c5 w' := by
  have hl : (1900 : Nat) ≤ 1900 := Nat.le_refl _
  refine (reduce15 f Av cv An cn Ae ce As cs w hF ho (JR f.vars.length f.eqs.length 1900) (jr_start ho hB) (fun s h => (jr_step hl ho.ele h).1) (fun s h _ => (jr_step hl ho.ele h).2) (fun s h _ => (jr_step hl ho.ele h).2.done hl)).mono ?_
  rintro e w' ⟨vv, vn, ve, vs, vl, t, he, hr, h1, h2, h3, h4, h5, hb⟩
  obtain ⟨A1, c1, rfl⟩ := Kd.yT h1
  obtain ⟨A2, c2, rfl⟩ := Kd.yT h2
  obtain ⟨A3, c3, rfl⟩ := Kd.yT h3
  obtain ⟨A4, c4, rfl⟩ := Kd.yT h4
  obtain ⟨A5, c5, rfl⟩ := Kd.yT h5
  obtain ⟨_, _, q1⟩ := Kd.uS h1
  obtain ⟨_, l2, q2⟩ := Kd.uS h2
  obtain ⟨_, l3, q3⟩ := Kd.uS h3
  obtain ⟨_, _, q4⟩ := Kd.uS h4
  exact ⟨t, A1, c1, A2, c2, A3, c3, A4, c4, A5, c5, ⟨he, hr, ⟨q1, q2, q3, q4, l2, l3⟩, h5, hb⟩⟩
theorem stab_vars {R : xH} {kind : Int} {x y : S37} {tx ty : Bool} {e : Bool} (hk : kind = 3 ∨ kind = 4) (hx : x.f0 = 2) (hy : y.f0 = 2) (he : e = false) : Stab R kind 0 x y tx ty e := by
  have c : ∀ n, isC x n = false ∧ isC y n = false := fun n => by
    unfold isC
    rw [hx, hy]
    exact ⟨rfl, rfl⟩
  refine ⟨?_, fun _ => ⟨(c 0).1, (c 0).2⟩, fun _ => ⟨(c 0).2, (c 0).1, by rw [he]; rfl⟩, by omega, by omega, by omega, by omega⟩
  unfold foldX
  rw [if_pos (.inl (by rw [hx]; decide))]
def TwoV (nodes : List S37) (x : S37) : Prop := (x.f0 = 3 ∨ x.f0 = 4) ∧ (rT nodes x.f1).f0 = 2 ∧ (rT nodes x.f2).f0 = 2 ∧ (rT nodes x.f1).f5 ≠ (rT nodes x.f2).f5
structure RunAt (nodes : List S37) (use : List Bool) (k : Nat) (r : PG × List Int) : Prop where
  v : ∀ j : Nat, j < k → zJ false use (j : Int) = true → (rT nodes (j : Int)).f0 = 2 → rT r.1.L (rd r.2 (j : Int)) = xU (rT nodes (j : Int)).f5
  o : ∀ j : Nat, j < k → zJ false use (j : Int) = true → TwoV nodes (rT nodes (j : Int)) → rT r.1.L (rd r.2 (j : Int)) = wF (rT nodes (j : Int)).f0 (rd r.2 (rT nodes (j : Int)).f1) (rd r.2 (rT nodes (j : Int)).f2) 0
theorem bRun_at {R : xH} (hR : tR R) {nodes : List S37} {use : List Bool} (hg : ∀ i : Nat, i < nodes.length → okN (i : Int) (rT nodes (i : Int)) = true) (hI : ∀ x ∈ nodes, wM x) (hs : Shut nodes use) : ∀ k, k ≤ nodes.length → k ≤ 4000 → RunAt nodes use k (xT R nodes use k) := by
  intro k
  induction k with
  | zero => intro _ _; exact ⟨fun j h => by omega, fun j h => by omega⟩
  | succ k ih =>
    intro hk h4
    have h := ih (by omega) (by omega)
    have hb := bRun_ok hR hg hI hs k (by omega) (by omega)
    have hlow : ∀ j : Nat, j < k + 1 → j ≠ k → j < k := fun j h1 h2 => by omega
    unfold xT
    cases hu : zJ false use (k : Int) with
    | false =>
      rw [if_neg (by decide)]
      have nk : ∀ j : Nat, zJ false use (j : Int) = true → j ≠ k := fun j hj e => by
        rw [e, hu] at hj; cases hj
      exact ⟨fun j hj hju => h.v j (hlow j hj (nk j hju)) hju, fun j hj hju => h.o j (hlow j hj (nk j hju)) hju⟩
    | true =>
      rw [if_pos rfl]
      have hx := hg k (by omega)
      obtain ⟨_, oa, ob, _, o2, _⟩ := uW hx
      have hsk := hs k (by omega) hu
      have ops : ∀ c : Int, 0 ≤ c → c < (k : Int) → zJ false use c = true → 0 ≤ rd (xT R nodes use k).2 c ∧ rd (xT R nodes use k).2 c < ((xT R nodes use k).1.L.length : Int) := fun c c0 c1 cu => by
        obtain ⟨m, rfl⟩ := Int.eq_ofNat_of_zero_le c0
        exact hb.tv m (by omega) cu
      have hmem : rT nodes (k : Int) ∈ nodes := by rw [vD (by omega)]; exact List.getElem_mem _
      have hm := bNode_ok hR hb.inv hb.xD (by have := hb.le; omega) (tv := (xT R nodes use k).2) hx (fun _ => ⟨(hI _ hmem).1, (hI _ hmem).2.1⟩) (fun p => ops _ (oa p).1 (oa p).2 (hsk.1 p)) (fun p => ops _ (ob p).1 (ob p).2 (hsk.2 p))
      obtain ⟨s, t, e1, _⟩ := hm.ext
      have hle : (xT R nodes use k).1.L.length < 4000 := by have := hb.le; omega
      have newv : (rT nodes (k : Int)).f0 = 2 → rT (uQ R (xT R nodes use k).1 (xT R nodes use k).2 (rT nodes (k : Int))).1.L (uQ R (xT R nodes use k).1 (xT R nodes use k).2 (rT nodes (k : Int))).2 = xU (rT nodes (k : Int)).f5 := fun h2 => by
        unfold uQ
        rw [if_neg (by rw [h2]; decide), if_pos h2]
        exact (qF hb.inv hb.xD hle (.inr (.inl ⟨_, rfl, o2 h2⟩))).at_
      have vI : ∀ (j : Nat), j < k → rd ((xT R nodes use k).2.set k (uQ R (xT R nodes use k).1 (xT R nodes use k).2 (rT nodes (k : Int))).2) (j : Int) = rd (xT R nodes use k).2 (j : Int) := fun j hj => oI (by omega) _
      have keepI : ∀ c : Int, 0 ≤ c → c < (k : Int) → rd ((xT R nodes use k).2.set k (uQ R (xT R nodes use k).1 (xT R nodes use k).2 (rT nodes (k : Int))).2) c = rd (xT R nodes use k).2 c := fun c c0 c1 => by
        obtain ⟨m, rfl⟩ := Int.eq_ofNat_of_zero_le c0
        exact vI m (by omega)
      have old : ∀ c : Int, 0 ≤ c → c < (k : Int) → zJ false use c = true → rT (uQ R (xT R nodes use k).1 (xT R nodes use k).2 (rT nodes (k : Int))).1.L (rd (xT R nodes use k).2 c) = rT (xT R nodes use k).1.L (rd (xT R nodes use k).2 c) := fun c c0 c1 cu => by
        rw [e1]
        exact tI (ops c c0 c1 cu).1 (ops c c0 c1 cu).2
      have lt2 : ∀ x : S37, TwoV nodes x → 1 < zI x.f0 := fun x hx => by rcases hx.1 with e | e <;> rw [e] <;> decide
      have newo : TwoV nodes (rT nodes (k : Int)) → rT (uQ R (xT R nodes use k).1 (xT R nodes use k).2 (rT nodes (k : Int))).1.L (uQ R (xT R nodes use k).1 (xT R nodes use k).2 (rT nodes (k : Int))).2 = wF (rT nodes (k : Int)).f0 (rd (xT R nodes use k).2 (rT nodes (k : Int)).f1) (rd (xT R nodes use k).2 (rT nodes (k : Int)).f2) 0 := fun ht => by
        have l2 := lt2 _ ht
        obtain ⟨ha0, ha1⟩ := oa (by omega)
        obtain ⟨hb0, hb1⟩ := ob l2
        have ua := hsk.1 (by omega)
        have ub := hsk.2 l2
        obtain ⟨hkk, va, vb, hne⟩ := ht
        generalize hA : (rT nodes (k : Int)).f1 = A at ha0 ha1 ua va hne
        generalize hB : (rT nodes (k : Int)).f2 = B at hb0 hb1 ub vb hne
        obtain ⟨a, rfl⟩ := Int.eq_ofNat_of_zero_le ha0
        obtain ⟨b, rfl⟩ := Int.eq_ofNat_of_zero_le hb0
        have ea := h.v a (by omega) ua va
        have eb := h.v b (by omega) ub vb
        obtain ⟨pa, qa⟩ := ops _ ha0 ha1 ua
        obtain ⟨pb, qb⟩ := ops _ hb0 hb1 ub
        have nab : ((rd (xT R nodes use k).2 (a : Int)) == (rd (xT R nodes use k).2 (b : Int))) = false := by
          refine beq_eq_false_iff_ne.2 fun e => hne ?_
          rw [e, eb] at ea
          exact (congrArg S37.f5 ea).symm
        have st : Stab R (rT nodes (k : Int)).f0 0 (rT (xT R nodes use k).1.L (rd (xT R nodes use k).2 (a : Int))) (rT (xT R nodes use k).1.L (rd (xT R nodes use k).2 (b : Int))) (zJ false (xT R nodes use k).1.T (rd (xT R nodes use k).2 (a : Int))) (zJ false (xT R nodes use k).1.T (rd (xT R nodes use k).2 (b : Int))) ((rd (xT R nodes use k).2 (a : Int)) == (rd (xT R nodes use k).2 (b : Int))) :=
          stab_vars hkk (by rw [ea]; rfl) (by rw [eb]; rfl) nab
        unfold uQ
        rw [if_neg (by omega), if_neg (by omega), if_neg (by omega), if_neg (by rcases hkk with e | e <;> rw [e] <;> decide), hA, hB, make_stab hb.xD st]
        exact (qF hb.inv hb.xD hle (.inr (.inr (.inr ⟨_, _, _, _, rfl, .inr (by rcases hkk with e | e <;> rw [e] <;> decide), ⟨pa, qa⟩, ⟨pb, qb⟩, (fun e => by exfalso; rcases hkk with e2 | e2 <;> rw [e2] at e <;> revert e <;> decide), (fun _ => rfl), by omega, by omega, st⟩)))).at_
      refine ⟨fun j hj hju h2 => ?_, fun j hj hju ht => ?_⟩
      · by_cases e : j = k
        · subst e
          show rT _ (rd (List.set _ j _) (j : Int)) = _
          rw [sG (by rw [hb.len]; omega)]
          exact newv h2
        · have hjk := hlow j hj e
          show rT _ (rd (List.set _ k _) (j : Int)) = _
          rw [vI j hjk, old _ (by omega) (by omega) hju]
          exact h.v j hjk hju h2
      · have l2 := lt2 _ ht
        obtain ⟨_, ja, jb, _⟩ := uW (hg j (by omega))
        obtain ⟨a0, a1⟩ := ja (by omega)
        obtain ⟨b0, b1⟩ := jb l2
        show rT _ (rd (List.set _ k _) (j : Int)) = wF _ (rd (List.set _ k _) _) (rd (List.set _ k _) _) 0
        rw [keepI _ a0 (by omega), keepI _ b0 (by omega)]
        by_cases e : j = k
        · subst e
          rw [sG (by rw [hb.len]; omega)]
          exact newo ht
        · have hjk := hlow j hj e
          rw [vI j hjk, old _ (by omega) (by omega) hju]
          exact h.o j hjk hju ht
theorem build_say {R : xH} (hR : tR R) {nodes : List S37} {roots : List Int} (hg : tE nodes roots = true) (hI : ∀ x ∈ nodes, wM x) :
    ∃ q : Int → Int, (xA R nodes roots).2 = roots.map q ∧ ∀ c ∈ roots, TwoV nodes (rT nodes c) → (rT nodes (rT nodes c).f1).f5.f1 = 0 → (rT nodes (rT nodes c).f2).f5.f1 = 0 →
      wH (xA R nodes roots).1 (q c) = ⟨(rT nodes (rT nodes c).f1).f5.f0, (rT nodes (rT nodes c).f2).f5.f0, if (rT nodes c).f0 = 3 then -1 else 1, true⟩ := by
  obtain ⟨L, T, r, tv, h⟩ := build_is hR hg hI
  obtain ⟨hr, hG⟩ := wK.1 hg
  obtain ⟨h4, hok⟩ := vO hG
  have ha := sU hG
  have hs := uU ha hr
  have hrun := bRun_at hR hok hI hs nodes.length (Nat.le_refl _) h4
  rw [h.run] at hrun
  have hno := qA h.inv.ahead h.ok
  have hsh := uU h.inv.ahead h.ok
  refine ⟨fun c => pI (yH L r) (rd tv c), by rw [h.build, h.at_, List.map_map]; rfl, fun c hc ht z1 z2 => ?_⟩
  rw [h.build]
  show wH (clrL L (yH L r)) (pI (yH L r) (rd tv c)) = _
  obtain ⟨c0, c1⟩ := hr c hc
  have uc := (qA ha hr).rts c hc
  have hrc : rd tv c ∈ r := by rw [h.at_]; exact List.mem_map_of_mem hc
  obtain ⟨rc0, rc1⟩ := h.ok _ hrc
  have urc := hno.rts _ hrc
  obtain ⟨m, rfl⟩ := Int.eq_ofNat_of_zero_le c0
  have hcn : m < nodes.length := by omega
  have l2 : 1 < zI (rT nodes (m : Int)).f0 := by rcases ht.1 with e | e <;> rw [e] <;> decide
  have hkk := ht.1
  obtain ⟨_, oa, ob, _⟩ := uW (hok m hcn)
  obtain ⟨a0, a1⟩ := oa (by omega)
  obtain ⟨b0, b1⟩ := ob l2
  have ua := (hs m hcn uc).1 (by omega)
  have ub := (hs m hcn uc).2 l2
  have eo := hrun.o m hcn uc ht
  obtain ⟨_, va, vb, hne⟩ := ht
  generalize (rT nodes (m : Int)).f1 = A at *
  generalize (rT nodes (m : Int)).f2 = B at *
  generalize hK : (rT nodes (m : Int)).f0 = K at *
  obtain ⟨a, rfl⟩ := Int.eq_ofNat_of_zero_le a0
  obtain ⟨b, rfl⟩ := Int.eq_ofNat_of_zero_le b0
  have ea := hrun.v a (by omega) ua va
  have eb := hrun.v b (by omega) ub vb
  obtain ⟨ta0, ta1⟩ := h.tv a (by omega) ua
  obtain ⟨tb0, tb1⟩ := h.tv b (by omega) ub
  change rT L (rd tv (m : Int)) = wF K (rd tv (a : Int)) (rd tv (b : Int)) 0 at eo
  change rT L (rd tv (a : Int)) = _ at ea
  change rT L (rd tv (b : Int)) = _ at eb
  have hK2 : zI K = 2 := by rcases hkk with e | e <;> rw [e] <;> decide
  obtain ⟨i, hi⟩ := Int.eq_ofNat_of_zero_le rc0
  have hs2 := hsh i (by omega)
  rw [← hi, eo] at hs2
  have ua2 := (hs2 urc).1 (by show 0 < zI K; omega)
  have ub2 := (hs2 urc).2 (by show 1 < zI K; omega)
  change zJ false (yH L r) (rd tv (a : Int)) = true at ua2
  change zJ false (yH L r) (if zI K = 2 then rd tv (b : Int) else 0) = true at ub2
  rw [if_pos hK2] at ub2
  have fm : rT (clrL L (yH L r)) (pI (yH L r) (rd tv (m : Int))) = wF K (pI (yH L r) (rd tv (a : Int))) (pI (yH L r) (rd tv (b : Int))) 0 := by
    rw [qM rc0 rc1 urc, eo, renF_nodeO (.inr hK2)]
  have fa : rT (clrL L (yH L r)) (pI (yH L r) (rd tv (a : Int))) = xU (rT nodes (a : Int)).f5 := by
    rw [qM ta0 ta1 ua2, ea]
    exact renF_id (fun h => absurd h (by show ¬ 0 < zI 2; decide)) (fun h => absurd h (by show ¬ 1 < zI 2; decide))
  have fb : rT (clrL L (yH L r)) (pI (yH L r) (rd tv (b : Int))) = xU (rT nodes (b : Int)).f5 := by
    rw [qM tb0 tb1 ub2, eb]
    exact renF_id (fun h => absurd h (by show ¬ 0 < zI 2; decide)) (fun h => absurd h (by show ¬ 1 < zI 2; decide))
  generalize pI (yH L r) (rd tv (a : Int)) = X at fm fa
  generalize pI (yH L r) (rd tv (b : Int)) = Y at fm fb
  generalize clrL L (yH L r) = G at fm fa fb ⊢
  generalize pI (yH L r) (rd tv (m : Int)) = Z at fm ⊢
  have f2 : (wF K X Y 0).f2 = Y := if_pos hK2
  unfold wH eqOf
  rw [fm, if_neg (show ¬ (wF K X Y 0).f0 = 7 by show ¬ K = 7; omega), fm]
  unfold sayN
  rw [if_neg (show ¬ (wF K X Y 0).f0 = 2 by show ¬ K = 2; omega), f2, if_pos, show (wF K X Y 0).f1 = X from rfl, fa, fb]
  · rfl
  · refine ⟨hkk.symm, ?_, ?_, fun e => hne ?_⟩
    · rw [show (wF K X Y 0).f1 = X from rfl, fa]
      unfold sQ
      rw [Bool.and_eq_true, beq_iff_eq, beq_iff_eq]
      exact ⟨rfl, z1⟩
    · rw [fb]
      unfold sQ
      rw [Bool.and_eq_true, beq_iff_eq, beq_iff_eq]
      exact ⟨rfl, z2⟩
    · have e2 : X = Y := e
      rw [e2, fb] at fa
      exact (congrArg S37.f5 fa).symm
end Go.Proofs.Ytoonahobmlnflaa.PC
