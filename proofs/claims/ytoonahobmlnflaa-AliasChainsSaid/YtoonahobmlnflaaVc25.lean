/- Texts of this claim, one behind the other. -/
import Derived.Test.YtoonahobmlnflaaVc24
set_option linter.unusedVariables false
set_option linter.unusedSimpArgs false
set_option maxRecDepth 100000
set_option maxHeartbeats 16000000
namespace Go.Proofs.Ytoonahobmlnflaa.PC
open Go.RowKit Go.Shelf A B C
attribute [local go_sem] yC yE xO xP yK yL yD yF
def ch6.T16 : Bool × List (List Nat × List Nat) := (true, [([], []), ([0], [0]), ([], []), ([], []), ([], []), ([], []), ([3, 4, 5], [3, 4, 5]), ([2, 6], [2, 6]), ([7], [7]), ([1, 8, 7], [1, 8]), ([0, 1, 2, 3, 4, 5, 6, 7, 8, 9], []), ([10, 9, 9, 0, 1, 2, 3, 4, 5, 6, 7, 8, 9], [9, 10])])
def ch6.B16 : List Nat := [0, 1, 0, 0, 0, 0, 56, 124, 252, 511, 1023, 2047]
theorem ch6.tab16 : wD .any (opsOf Try.f6 16) = ch6.T16 := by kernel_rfl
theorem ch6.bits16 : xR ch6.T16.2 ch6.B16 = true := by kernel_rfl
def ch6.T25 : Bool × List (List Nat × List Nat) := (true, [([], []), ([], []), ([], []), ([1, 2], [1, 2]), ([3], [3]), ([4], [4]), ([0, 5], [0, 5])])
def ch6.B25 : List Nat := [0, 0, 0, 6, 14, 30, 63]
theorem ch6.tab25 : wD .any (opsOf Try.f6 25) = ch6.T25 := by kernel_rfl
theorem ch6.bits25 : xR ch6.T25.2 ch6.B25 = true := by kernel_rfl
theorem R_int_one {base : Nat} (W : World) (hb : base ≤ W.heap.size) : Kd.R (Kd.int .i64) 3 (W.alloc (.cells #[.int .i64 1] 3)) base (fun _ => True) (.slice (some ⟨W.heap.size, 0, none⟩) 1 1) [1] :=
  ⟨fun k hk => trivial, wS.lit W base (ps := [(1 : Int)]) (inner := [.int .i64 1]) ⟨rfl, fun j p hj => by
    have hj0 : j = 0 := by
      have := (List.getElem?_eq_some_iff.1 hj).1
      simpa using this
    subst hj0
    have : p = 1 := by simpa using hj.symm
    subst this
    rfl⟩ hb (by decide)⟩
theorem pG {w : World} {A : Option Addr} {n : Nat} {xs : List Int} (h : Kd.C (Kd.int .i64) w A n xs) (i : Int) (h0 : 0 ≤ i) (h1 : i < n) : ∃ ad, A = some ad ∧ w.cell? (ad.add i.toNat) = some (.int .i64 (rd xs i)) := by
  obtain ⟨ad, c, e, _, hK, hc⟩ := Kd.C_get h 0 i h0 h1
  obtain rfl : c = [.int .i64 (xs.getD i.toNat 0)] := hK
  have := hc 0 _ rfl
  rw [show (Kd.int .i64).sz = 1 from rfl, Nat.mul_one, Nat.add_zero] at this
  exact ⟨ad, e, this⟩
theorem bool_at {w : World} {A : Option Addr} {n : Nat} {xs : List Bool} (h : Kd.C Kd.bool w A n xs) (i : Int) (h0 : 0 ≤ i) (h1 : i < n) : ∃ ad, A = some ad ∧ w.cell? (ad.add i.toNat) = some (.bool (zJ false xs i)) := by
  obtain ⟨ad, c, e, _, hK, hc⟩ := Kd.C_get h false i h0 h1
  obtain rfl : c = [.bool (xs.getD i.toNat false)] := hK
  have := hc 0 _ rfl
  rw [show Kd.bool.sz = 1 from rfl, Nat.mul_one, Nat.add_zero] at this
  exact ⟨ad, e, this⟩
theorem en18 (args : Array Value) (w : World) : (callFunc 18 args).run Try.prog w = .ok (.enter 18 args) w := enters_of Try.func18 (by kernel_rfl) rfl args w
theorem tX {α : Type} {P : Program} (d : Kd α) {W : World} {o : Oper} {a : Act} {K : Act → World → Prop} {Q : Exit → Act → World → Prop} (s x : Operand) (t e : TypeId) (z : Value) (bytes : Nat)
    (ho : o.op = .call { callee := .builtin .append, args := #[s, x], argTypes := #[t, t] })
    (ht : P.underlying t = some (.slice e)) (hinfo : (P.info? e).map (fun i => (i.zero, i.size, i.bytes)) = some (some z, d.sz, bytes)) (hz : z.cells.size = d.sz) (hs0 : 0 < d.sz)
    (base : Nat) (v : Value) (xs : List α) (p : α) (cs : List Value) (ok : Nat → Prop) (ad : Addr) (hs : a.eval s = v) (hx : a.eval x = .slice (some ad) 1 1) (hcs : ∀ j u, cs[j]? = some u → W.cell? (ad.add j) = some u)
    (hp : d.M W base (fun _ => False) p cs) (hfresh : ∀ k, W.heap.size ≤ k → ok k) (HO : d.R e W base ok v xs) (hbase : base ≤ W.heap.size) (hl : (xs.length + 1) * bytes ≤ 140737488355328) (h63 : xs.length + 1 ≤ 9223372036854775807)
    (h : ∀ g cap w1, d.R e w1 base ok (.slice (some ⟨g, 0, none⟩) (xs.length + 1) cap) (xs ++ [p]) → W.grownBy w1 v.ownBlock → ((Value.slice (some ⟨g, 0, none⟩) (xs.length + 1) cap).ownBlock = v.ownBlock ∨ ∃ b, (Value.slice (some ⟨g, 0, none⟩) (xs.length + 1) cap).ownBlock = some b ∧ W.heap.size ≤ b) → K (a.put o.dst (.slice (some ⟨g, 0, none⟩) (xs.length + 1) cap)) w1) : o.wp P a W K Q := by
  obtain ⟨h0, inner, hown, hr⟩ := HO
  obtain ⟨i, hi, hi2⟩ := Option.map_eq_some_iff.1 hinfo
  simp only [Prod.mk.injEq] at hi2
  refine wp_append_lies W s x t ho base e i z d.sz bytes ht hi hi2.1 hi2.2.1 hi2.2.2 hz hs0 v xs.length inner hs hown ad 1 1 cs hx (by rw [d.sI (d.vR hp)]; omega) hcs (d.rI (d.vR hp)) (by omega) (by unfold maxLen; omega) hl hbase W.heap.size rfl ?_
  intro g cap w' h2 h3 h4 h5
  have hat : (Value.slice (some ⟨g, 0, none⟩) (xs.length + 1) cap).ownBlock = v.ownBlock ∨ ∃ b, (Value.slice (some ⟨g, 0, none⟩) (xs.length + 1) cap).ownBlock = some b ∧ W.heap.size ≤ b := by
    rcases h4 with h4 | h4
    · exact .inl (by rw [h4]; rfl)
    · exact .inr ⟨g, rfl, by omega⟩
  exact h g cap w' (Kd.nO h0 hr hp (fun k hk => hk.elim) hfresh h2 h3 hat) h3 hat
theorem tG (n : Nat) : (chE n).length = n := by unfold chE; rw [List.length_map, List.length_range]
theorem own_ge {w : World} {base : Nat} {e : TypeId} {size n : Nat} {v : Value} {xs : List Value} (h : w.ownsRow base e size v n xs) (k : Nat) (hk : v.ownBlock = some k) : base ≤ k := by
  rcases h.2 with ⟨rfl, _⟩ | ⟨g, cap, cur, rfl, hb, hh, _⟩
  · simp [Value.ownBlock] at hk
  · have : g = k := by simpa [Value.ownBlock] using hk
    subst this
    exact hb
theorem qW {α : Type} {d : Kd α} {e : Nat} {ok : Nat → Prop} {v : Value} {xs : List α} {w V V1 : World} (B : Below w.heap.size w V) (hr : d.R e V w.heap.size ok v xs) (hg : V.grownBy V1 v.ownBlock) : Below w.heap.size w V1 := by
  obtain ⟨inner, ho⟩ := Kd.R_own hr
  refine ⟨hg.os.trans B.os, hg.tape.trans B.tape, hg.output.trans B.output, Nat.le_trans B.size hg.size, fun k hk => (hg.block k (Nat.lt_of_lt_of_le hk B.size) fun e => ?_).trans (B.block k hk)⟩
  have := own_ge ho k e.symm
  omega
theorem wL {sg : List Int} (n : Nat) : (chS sg n).length = n + 1 := by unfold chS; rw [List.length_map, List.length_range]
theorem chS_at {sg : List Int} (k : Nat) : rd (chS sg k) (k : Int) = sig sg k := by
  unfold rd chS
  rw [List.getD_eq_getElem?_getD, Int.toNat_natCast, List.getElem?_map, List.getElem?_range (Nat.lt_succ_self k)]
  rfl
theorem chS_get {sg : List Int} {j k : Nat} (h : j ≤ k) : rd (chS sg k) (j : Int) = sig sg j := by
  unfold rd chS
  rw [List.getD_eq_getElem?_getD, Int.toNat_natCast, List.getElem?_map, List.getElem?_range (Nat.lt_succ_of_le h)]
  rfl
theorem pO {sg : List Int} {k : Nat} {s : Int} (h : sgS sg k = s) : wrap64 (sig sg k * s) = sig sg (k + 1) := by
  have e : sig sg (k + 1) = sig sg k * s := by rw [← h]; rfl
  rw [← e]
  unfold wrap64
  rcases oL (sg := sg) (k + 1) with h | h <;> rw [h] <;> decide
theorem CF.next {sg : List Int} {tu : List Bool} {gF gP k : Nat} {kd a b : Int} {vs : Value} {w V : World} (h : CF gF gP (List.replicate (k + 1) vV ++ [vV]) (((chN sg tu k ++ [xU ⟨(k : Int), 0⟩]) ++ [xU ⟨(k : Int) + 1, 0⟩]) ++ [⟨kd, a, b, 0, z30, z32, z35⟩]) (chE k ++ [((chN sg tu k).length : Int) + 1 + 1]) (chS sg k ++ [sig sg (k + 1)]) vs w V)
    (hk : kd = sgK sg k) (ha : a = if tuB tu k = true then ((chN sg tu k).length : Int) + 1 else ((chN sg tu k).length : Int)) (hb : b = if tuB tu k = true then ((chN sg tu k).length : Int) else ((chN sg tu k).length : Int) + 1) :
    CF gF gP (List.replicate (k + 1 + 1) vV) (chN sg tu (k + 1)) (chE (k + 1)) (chS sg (k + 1)) vs w V := by
  have e1 : List.replicate (k + 1) vV ++ [vV] = List.replicate (k + 1 + 1) vV := (List.replicate_succ' ..).symm
  have e0 : ((chN sg tu k).length : Int) = 3 * (k : Int) := by rw [oC]; omega
  have hx : (⟨kd, a, b, 0, z30, z32, z35⟩ : S37) = chX sg tu k := by
    unfold chX wF
    have e2 : zI (sgK sg k) = 2 := by rcases sY (sg := sg) k with h | h <;> rw [h.1] <;> decide
    rw [hk, ha, hb, e0, if_pos e2]
  have e3 : chE k ++ [((chN sg tu k).length : Int) + 1 + 1] = chE (k + 1) := by
    unfold chE
    rw [List.range_succ, List.map_append, e0]
    simp only [List.map_cons, List.map_nil]
    congr 2
  have e4 : chS sg k ++ [sig sg (k + 1)] = chS sg (k + 1) := by
    unfold chS
    rw [List.range_succ (n := k + 1), List.map_append]
    rfl
  rw [e1, hx, e3, e4] at h
  exact h
theorem CF_start (w : World) : CF w.heap.size (w.heap.size + 1) [] [] [] [1] (.slice (some ⟨w.heap.size + 1 + 1, 0, none⟩) 1 1) w (((w.alloc (.cells #[.slice none 0 0, .slice none 0 0, .slice none 0 0, .slice none 0 0] 47)).alloc (.cells #[clo w.heap.size] 56)).alloc (.cells #[.int .i64 1] 3)) := by
  have s1 : (w.alloc (.cells #[.slice none 0 0, .slice none 0 0, .slice none 0 0, .slice none 0 0] 47)).heap.size = w.heap.size + 1 := by simp
  have s2 : ((w.alloc (.cells #[.slice none 0 0, .slice none 0 0, .slice none 0 0, .slice none 0 0] 47)).alloc (.cells #[clo w.heap.size] 56)).heap.size = w.heap.size + 1 + 1 := by simp
  have h1 := heap_alloc_last w (.cells #[.slice none 0 0, .slice none 0 0, .slice none 0 0, .slice none 0 0] 47)
  have h2 := heap_alloc_last (w.alloc (.cells #[.slice none 0 0, .slice none 0 0, .slice none 0 0, .slice none 0 0] 47)) (.cells #[clo w.heap.size] 56)
  rw [s1] at h2
  have b1 := zY (Below.refl w.heap.size w) (.cells #[.slice none 0 0, .slice none 0 0, .slice none 0 0, .slice none 0 0] 47)
  have h3 := R_int_one (base := w.heap.size) ((w.alloc (.cells #[.slice none 0 0, .slice none 0 0, .slice none 0 0, .slice none 0 0] 47)).alloc (.cells #[clo w.heap.size] 56)) (by omega)
  rw [s2] at h3
  refine ⟨⟨_, _, _, zM (zM h1 _) _, Kd.rK _ _ _ _ _, Kd.rK _ _ _ _ _, Kd.rK _ _ _ _ _, .inl rfl⟩, zM h2 _, h3, zY (zY b1 _) _, Nat.le_refl _, by omega⟩
theorem law6 (sg : List Int) (tu : List Bool) (A : Option Addr) (c : Nat) (A1 : Option Addr) (c1 : Nat) (w : World) (hS : Kd.C (Kd.int .i64) w A sg.length sg) (hT : Kd.C Kd.bool w A1 tu.length tu) :
    Calls Try.prog 6 #[.slice A sg.length c, .slice A1 tu.length c1] w fun e w' => e = .returned (.bool true) ∧ Below w.heap.size w w' := by
  have hu47 := Try.underlying47
  have HS := aq hS
  have HT := aq hT
  have HML := aq (Kd.C_max hS)
  have HMT := aq (Kd.C_max hT)
  obtain ⟨n, hmin, hn, hnl⟩ : ∃ n : Nat, (if (30 : Int) < (sg.length : Int) then (30 : Int) else (sg.length : Int)) = (n : Int) ∧ n ≤ 30 ∧ n ≤ sg.length := by
    by_cases h : 30 < sg.length
    · exact ⟨30, by rw [if_pos (by omega)]; rfl, Nat.le_refl _, by omega⟩
    · exact ⟨sg.length, by rw [if_neg (by omega)], by omega, Nat.le_refl _⟩
  have HMIN := aq hmin
  have HN := aq hn
  have HNL := aq hnl
  have T := aq (CF_start w)
  have eg := en17
  clear hS hT hmin hn hnl
  go_enter Try.func6, Try.ntmps6
  go_upto_region 2 with fail
  rw [HMIN.out]
  go_upto_region 6 with fail
  have hcl : Value.func (Fn.func 17) #[] #[Value.pointer (some { block := w.heap.size, off := 0 })] = clo w.heap.size := rfl
  rw [hcl]
  generalize ((w.alloc (.cells #[.slice none 0 0, .slice none 0 0, .slice none 0 0, .slice none 0 0] 47)).alloc (.cells #[clo w.heap.size] 56)).alloc (.cells #[.int .i64 1] 3) = W0 at T ⊢
  have HPF := aq (show w.heap.size + 1 ≠ w.heap.size by omega)
  generalize Value.slice (some { block := w.heap.size + 1 + 1, off := 0 }) 1 1 = vs0 at T ⊢
  generalize w.heap.size + 1 = gP at T HPF ⊢
  obtain ⟨vv, vn, ve, hv0, hr1, hr0, hr2, hd⟩ := T.out.bx
  obtain ⟨A5, c5, e5⟩ := Kd.yT hr1
  subst e5
  have HV0 := aq hv0
  have HR0 := aq hr0
  have HR1 := aq hr1
  have HR2 := aq hr2
  have HD := aq hd
  have y0 := (bq hv0 0).trans (show _ = some (.slice A5 0 c5) from rfl)
  clear hv0 hr0 hr1 hr2 hd hcl
  go_upto_region 7 with (first | ((with_reducible refine gD (N := 30) rfl ?_); refine Kd.xW rfl (vA (x := vV) rfl) ?_) | ((with_reducible refine zA (b := .append) (xs := #[.tmp 28, .tmp 30]) rfl ?_); at_builtin; refine Kd.xY k59 (w0 := w) w.heap.size rfl (.tmp 28) (.tmp 30) 44 59 _ 128 rfl Try.underlying44 oS rfl (by decide) (by omega) _ ([] : List S59) vV (varA vV).toList (fun _ => True) (fun _ => False) rfl rfl ?aP (fun _ hk => hk.elim) ?aF ?aO ?aB ?aS ?aL ?_; (case aP => exact pZ _ _ _ vV); (case aB => exact T.out.B); (case aF => exact fun k hk => trivial); (case aO => exact HR1.out); (case aS => exact T.out.B.size); (case aL => show (0 + 1) * 128 ≤ _; omega); intro v1 w9 ho hb hg hat; have hx9 := zK HV0.out hg (Kd.uX HR1.out HV0.out (by decide)); have T2 := aq (T.out.growV HV0.out HR1.out HR0.out HR2.out HD.out ho hb hg); obtain ⟨A6, c6, e6⟩ := Kd.yT ho; subst e6; clear y0 ho hb hg hat T; have T := T2; clear T2; have y0 := (bq hx9 0).trans (show _ = some (.slice A5 0 c5) from rfl); have yf := bf_ hx9 0; clear hx9))
  have T2 := aq (show CF w.heap.size gP (List.replicate (0 + 1) vV) (chN sg tu 0) (chE 0) (chS sg 0) vs0 w (w9.setCell ⟨w.heap.size, 0, none⟩ (.slice A6 1 c6)) from T.out)
  clear T y0 yf HV0 HR0 HR1 HR2 HD
  have T := T2
  clear T2
  have hcs : w9.setCell ⟨w.heap.size, 0, none⟩ (.slice A6 1 c6) = w9.setCell ⟨w.heap.size, 0, none⟩ (.slice A6 1 c6) := rfl
  generalize w9.setCell ⟨w.heap.size, 0, none⟩ (.slice A6 1 c6) = W1 at T ⊢
  clear hcs
  go_wp2
  go_loopw [9, 10] (fun vs i wr => ∃ k : Nat, k ≤ n ∧ i = .int .i64 (k : Int) ∧ zT (CF w.heap.size gP (List.replicate (k + 1) vV) (chN sg tu k) (chE k) (chS sg k) vs w wr)) (fun _ i _ => n - (intOf i).toNat)
  case atStart => exact ⟨0, Nat.zero_le _, rfl, T⟩
  case round =>
    clear T
    obtain ⟨k, hk, rfl, T⟩ := hrel
    by_cases hlt : k < n
    · have HKN := aq hk
      have HLT := aq hlt
      have hkl : k < sg.length := by have := HNL.out; omega
      have hlti : ((k : Nat) : Int) < (n : Int) := by omega
      obtain ⟨ad, eA, hsc⟩ := pG (Kd.xZ HS.out T.out.B) (k : Int) (by omega) (by omega)
      subst eA
      rw [Int.toNat_natCast] at hsc
      have eg8 := en18
      have HLN := aq (show (chN sg tu k).length + 3 ≤ 100 by rw [oC]; have := HN.out; omega)
      have HP1 := aq (v18 (k : Int) T.out (by have := HLN.out; omega))
      have HW1 := aq (show wrap64 ((k : Int) + 1) = (k : Int) + 1 by unfold wrap64; have := HN.out; omega)
      have htu : (k < tu.length ∧ tuB tu k = true) ∨ (k < tu.length ∧ tuB tu k = false) ∨ (¬ k < tu.length ∧ tuB tu k = false) := by
        by_cases h : k < tu.length
        · cases e : tuB tu k
          · exact .inr (.inl ⟨h, rfl⟩)
          · exact .inl ⟨h, rfl⟩
        · refine .inr (.inr ⟨h, ?_⟩)
          unfold tuB zJ
          rw [List.getD_eq_getElem?_getD, Int.toNat_natCast, List.getElem?_eq_none (by omega)]
          rfl
      have HTU := aq htu
      clear htu
      by_cases hs : rd sg (k : Int) < 0
      · go_upto_region 14 with (first | (go_at_call 18; refine HP1.out.mono ?_; rintro e w7 ⟨rfl, hd⟩; have T1 := aq hd; clear HP1 hd T hsc; have HP2 := aq (v18 ((k : Int) + 1) T1.out (by rw [List.length_append]; show _ + 1 ≤ _; have := HLN.out; omega))) | (go_at_call 18; rw [HW1.out]; refine HP2.out.mono ?_; rintro e w8 ⟨rfl, hd⟩; have T := aq hd; clear HP2 hd T1))
        rcases HTU.out with ⟨h, ht⟩ | ⟨h, ht⟩ | ⟨h, ht⟩
        · have h' : ((k : Nat) : Int) < (tu.length : Int) := by omega
          obtain ⟨ad2, eA2, htc⟩ := bool_at (Kd.xZ HT.out T.out.B) (k : Int) (by omega) (by omega)
          subst eA2
          rw [Int.toNat_natCast, show zJ false tu (k : Int) = true from ht] at htc
          go_upto_region 16 with fail
          obtain ⟨vv, vn, ve, hv0, hr1, hr0, hr2, hdd⟩ := T.out.bx
          have hcE := (bq hv0 2).trans (show _ = some ve from rfl)
          have hcP := (bq T.out.bp 0).trans (show _ = some (clo w.heap.size) from rfl)
          refine xK (n := 12) (S := fun w' => w'.cell? ⟨w.heap.size, 2, none⟩ = some ve ∧ w'.cell? ⟨gP, 0, none⟩ = some (clo w.heap.size)) (ds := [11]) (msk 12 0) (by kernel_rfl) rfl rfl ⟨hcE, hcP⟩ (fun hHeld => ?_); refine yO ch6.tab16 ch6.bits16 (fun HT_ HW_ => ?_)
          clear hv0 hr1 hr0 hr2 hdd hcE hcP
          have T3 := aq (T.out.step (yX (Below.refl _ _)))
          clear T
          refine pU 0 62 (msk 12 1) HT_.out ?_
          refine tU 1 63 (msk 12 3) HT_.out HW_.out hHeld ?_ ?_ ?_
          rotate_left
          · rintro w' ⟨s0, s1⟩; go_simp; with_reducible rfl
          refine tU 2 64 (msk 12 7) HT_.out HW_.out hHeld ?_ ?_ ?_
          rotate_left
          · rintro w' ⟨s0, s1⟩; go_simp; with_reducible rfl
          refine pU 3 65 (msk 12 15) HT_.out ?_
          refine pU 4 66 (msk 12 31) HT_.out ?_
          refine pU 5 67 (msk 12 63) HT_.out ?_
          refine pU 6 68 (msk 12 127) HT_.out ?_
          refine wW (i := 7) (N := some 69) (msk 12 255) rfl rfl (zG HT_.out (by kernel_rfl)) (by decide) (fun K hK => ?_)
          refine call_ 17 #[.agg (zC ⟨3, ((chN sg tu k).length : Int) + 1, ((chN sg tu k).length : Int), 0, z30, z32, z35⟩), .pointer (some ⟨w.heap.size, 0, none⟩)] (by rfl) rfl ?_ ?_
          · unfold clo
            go_simp
            rfl
          refine (put17 _ T3.out (by rw [List.length_append, List.length_append]; show _ + 1 + 1 ≤ _; have := HLN.out; omega)).mono ?_
          rintro e w9 ⟨rfl, hd, hu⟩
          refine ⟨_, rfl, ?_⟩
          have T := aq hd
          have y2 := hu _ hHeld.1
          have yp := (bq hd.bp 0).trans (show _ = some (clo w.heap.size) from rfl)
          clear hd hu T3 hHeld
          refine hK.out _ _ ⟨y2, yp⟩ (fun hHeld => ?_)
          clear hK K
          refine xV (a' := ?_) ?_ ?_
          rotate_left
          · show Act.put _ (some 69) _ = _
            simp only [Act.put, sq, iw, jw]
            rfl
          clear y2 yp
          refine wW (i := 8) (N := some 70) (msk 12 511) rfl rfl (zG HT_.out (by kernel_rfl)) (by decide) (fun K hK => ?_)
          refine sH (v := .slice (some ⟨w9.heap.size, 0, none⟩) 1 1) (w1 := w9.alloc (.cells #[.int .i64 (((chN sg tu k).length : Int) + 1 + 1)] 3)) (by rfl) rfl (by go_simp; try rfl) ?_
          have bA := zY (Below.refl w9.heap.size w9) (.cells #[.int .i64 (((chN sg tu k).length : Int) + 1 + 1)] 3)
          obtain ⟨vv2, vn2, ve2, hv0, hr1, hr0, hr2, hdd⟩ := T.out.bx
          obtain rfl : ve = ve2 := Option.some.inj (hHeld.1.symm.trans ((bq hv0 2).trans (show _ = some ve2 from rfl)))
          have HV0 := aq (bb_ hv0 bA)
          have HR1 := aq (Kd.zL hr1 bA)
          have HR0 := aq (Kd.zL hr0 bA)
          have HR2 := aq (Kd.zL hr2 bA)
          have HD := aq hdd
          have T3 := aq (T.out.step bA)
          have HX3 := aq (heap_alloc_last w9 (.cells #[.int .i64 (((chN sg tu k).length : Int) + 1 + 1)] 3))
          clear T bA hHeld hv0 hr1 hr0 hr2 hdd
          generalize w9.alloc (.cells #[.int .i64 (((chN sg tu k).length : Int) + 1 + 1)] 3) = w10 at T3 HX3 HV0 HR1 HR0 HR2 ⊢
          generalize w9.heap.size = gx at HX3 ⊢
          have y2 := (bq HV0.out 2).trans (show _ = some ve from rfl)
          have yp := (bq T3.out.bp 0).trans (show _ = some (clo w.heap.size) from rfl)
          refine hK.out _ _ ⟨y2, yp⟩ (fun hHeld => ?_)
          clear hK K y2 yp
          refine xV (a' := ?_) ?_ ?_
          rotate_left
          · show Act.put _ (some 70) _ = _
            simp only [Act.put, sq, iw, jw]
            rfl
          refine wW (i := 9) (N := some 71) (msk 12 1023) rfl rfl (zG HT_.out (by kernel_rfl)) (by decide) (fun K hK => ?_)
          rw [if_pos (by rfl)]
          refine tX (Kd.int .i64) (.tmp 63) (.tmp 70) 23 3 (.int .i64 0) 8 rfl Try.underlying23 sV (by rfl) (by decide) w.heap.size _ (chE k) (((chN sg tu k).length : Int) + 1 + 1) [.int .i64 (((chN sg tu k).length : Int) + 1 + 1)] (fun _ => True) ⟨gx, 0, none⟩ (by rfl) (by rfl) (vL HX3.out 0 _ rfl) rfl (fun _ _ => trivial) HR2.out T3.out.B.size (by rw [tG]; have := HKN.out; have := HN.out; omega) (by rw [tG]; have := HKN.out; have := HN.out; omega) ?_
          intro g1 cap w11 hr hg hat
          have hb := qW T3.out.B HR2.out hg
          have hx9 := zK HV0.out hg (Kd.uX HR2.out HV0.out (by decide))
          have T := aq (T3.out.growE HV0.out HR1.out HR0.out HR2.out HD.out hr hb hg hat)
          have z := (bq hx9 2).trans (show _ = some ve from rfl)
          have f := bf_ hx9 2
          have yp := (zK T3.out.bp hg (Kd.uX HR2.out T3.out.bp (by decide)))
          have yp := (bq yp 0).trans (show _ = some (clo w.heap.size) from rfl)
          clear hx9 hb hr hg hat T3 HV0 HR1 HR0 HR2 HD HX3 hHeld
          refine hK.out _ _ ⟨z, yp⟩ (fun hHeld => ?_)
          clear hK K yp
          refine xV (a' := ?_) ?_ ?_
          rotate_left
          · show Act.put _ (some 71) _ = _
            simp only [Act.put, sq, iw, jw]
            rfl
          refine pU 10 72 (msk 12 2047) HT_.out ?_
          refine uB (i := 11) (N := none) (msk 12 4095) rfl rfl (zG HT_.out (by kernel_rfl)) (by decide) (fun K hK => ?_)
          refine sZ (w1 := w11.setCell ⟨w.heap.size, 2, none⟩ (.slice (some ⟨g1, 0, none⟩) ((chE k).length + 1) cap)) (by rfl) rfl ?_ ?_
          · go_simp
            try rfl
          clear z f hHeld
          generalize w11.setCell ⟨w.heap.size, 2, none⟩ (.slice (some ⟨g1, 0, none⟩) ((chE k).length + 1) cap) = w12 at T ⊢
          refine hK.out _ _ ?_
          clear hK K
          refine wX (yG HT_.out (by kernel_rfl)) ?_
          clear HT_ HW_
          clear yp
          obtain ⟨vv, vn, ve, hv0, hr1, hr0, hr2, hd⟩ := T.out.bx
          have HV0 := aq hv0
          have HR0 := aq hr0
          have HR1 := aq hr1
          have HR2 := aq hr2
          have HD := aq hd
          have y0 := (bq hv0 0).trans (show _ = some vv from rfl)
          clear hv0 hr0 hr1 hr2 hd
          go_upto_region 18 with (first | ((with_reducible refine gD (N := 76) rfl ?_); refine Kd.xW rfl (vA (x := vV) rfl) ?_) | ((with_reducible refine zA (b := .append) (xs := #[.tmp 74, .tmp 76]) rfl ?_); at_builtin; refine Kd.xY k59 (w0 := w) w.heap.size rfl (.tmp 74) (.tmp 76) 44 59 _ 128 rfl Try.underlying44 oS rfl (by decide) (by omega) _ (List.replicate (k + 1) vV) vV (varA vV).toList (fun _ => True) (fun _ => False) rfl rfl ?aP (fun _ hk => hk.elim) ?aF ?aO ?aB ?aS ?aL ?_; (case aP => exact pZ _ _ _ vV); (case aB => exact T.out.B); (case aF => exact fun k hk => trivial); (case aO => exact HR1.out); (case aS => exact T.out.B.size); (case aL => rw [List.length_replicate]; have := HKN.out; have := HN.out; omega); intro v1 w13 ho hb hg hat; have hx9 := zK HV0.out hg (Kd.uX HR1.out HV0.out (by decide)); have T2 := aq (T.out.growV HV0.out HR1.out HR0.out HR2.out HD.out ho hb hg); obtain ⟨A6, c6, e6⟩ := Kd.yT ho; subst e6; clear y0 ho hb hg hat T; have T := T2; clear T2; have y0 := (bq hx9 0).trans (show _ = some vv from rfl); have yf := bf_ hx9 0; clear hx9))
          clear y0 yf HV0 HR0 HR1 HR2 HD
          have T2 := T.out
          rw [List.length_append, List.length_replicate] at T2
          have T2 := aq T2
          clear T
          have T := T2
          clear T2
          simp only [List.length_singleton] at T
          generalize w13.setCell ⟨w.heap.size, 0, none⟩ (.slice A6 (k + 1 + 1) c6) = w14 at T ⊢
          obtain ⟨A9, c9, e9, hc9, hC9⟩ := sL T.out.sn
          subst e9
          obtain ⟨ad9, eA9, h9⟩ := pG hC9 (k : Int) (by omega) (by rw [wL]; omega)
          subst eA9
          rw [Int.toNat_natCast, chS_at] at h9
          have hkS : ((k : Nat) : Int) < ((chS sg k).length : Int) := by rw [wL]; omega
          have HOS := aq T.out.sn
          clear hc9 hC9
          have HWS := aq (show wrap64 (-sig sg k) = sig sg (k + 1) from by have := pO (sg := sg) (k := k) (s := (-1)) (by unfold sgS; rw [if_pos hs]); simpa using this)
          go_wp2_with (first | ((with_reducible refine zA (b := .append) (xs := #[.tmp 79, .tmp 86]) rfl ?_); rw [HWS.out]; at_builtin; refine Kd.xY (Kd.int .i64) (w0 := w) w.heap.size rfl (.tmp 79) (.tmp 86) 23 3 (.int .i64 0) 8 rfl Try.underlying23 sV rfl (by decide) (by omega) _ (chS sg k) (sig sg (k + 1)) [.int .i64 (sig sg (k + 1))] (fun _ => True) (fun _ => False) rfl rfl ?aP (fun _ hk => hk.elim) ?aF ?aO ?aB ?aS ?aL ?_; (case aP => exact rfl); (case aB => exact T.out.B); (case aF => exact (fun _ _ => trivial)); (case aO => exact HOS.out); (case aS => exact T.out.B.size); (case aL => rw [wL]; have := HKN.out; have := HN.out; omega); intro v1 w15 ho hb hg hat; have T2 := aq (T.out.growS ho hb hg hat); clear ho hb hg hat T HOS h9; have T := T2; clear T2))
          rw [HW1.out]
          have hnx := HLT.out
          exact ⟨⟨k + 1, by omega, rfl, aq (T.out.next (by unfold sgK; rw [if_pos hs]) (if_pos ht).symm (if_pos ht).symm)⟩, by simp only [intOf]; omega⟩
        · have h' : ((k : Nat) : Int) < (tu.length : Int) := by omega
          obtain ⟨ad2, eA2, htc⟩ := bool_at (Kd.xZ HT.out T.out.B) (k : Int) (by omega) (by omega)
          subst eA2
          rw [Int.toNat_natCast, show zJ false tu (k : Int) = false from ht] at htc
          go_upto_region 16 with fail
          obtain ⟨vv, vn, ve, hv0, hr1, hr0, hr2, hdd⟩ := T.out.bx
          have hcE := (bq hv0 2).trans (show _ = some ve from rfl)
          have hcP := (bq T.out.bp 0).trans (show _ = some (clo w.heap.size) from rfl)
          refine xK (n := 12) (S := fun w' => w'.cell? ⟨w.heap.size, 2, none⟩ = some ve ∧ w'.cell? ⟨gP, 0, none⟩ = some (clo w.heap.size)) (ds := [11]) (msk 12 0) (by kernel_rfl) rfl rfl ⟨hcE, hcP⟩ (fun hHeld => ?_); refine yO ch6.tab16 ch6.bits16 (fun HT_ HW_ => ?_)
          clear hv0 hr1 hr0 hr2 hdd hcE hcP
          have T3 := aq (T.out.step (yX (Below.refl _ _)))
          clear T
          refine pU 0 62 (msk 12 1) HT_.out ?_
          refine tU 1 63 (msk 12 3) HT_.out HW_.out hHeld ?_ ?_ ?_
          rotate_left
          · rintro w' ⟨s0, s1⟩; go_simp; with_reducible rfl
          refine tU 2 64 (msk 12 7) HT_.out HW_.out hHeld ?_ ?_ ?_
          rotate_left
          · rintro w' ⟨s0, s1⟩; go_simp; with_reducible rfl
          refine pU 3 65 (msk 12 15) HT_.out ?_
          refine pU 4 66 (msk 12 31) HT_.out ?_
          refine pU 5 67 (msk 12 63) HT_.out ?_
          refine pU 6 68 (msk 12 127) HT_.out ?_
          refine wW (i := 7) (N := some 69) (msk 12 255) rfl rfl (zG HT_.out (by kernel_rfl)) (by decide) (fun K hK => ?_)
          refine call_ 17 #[.agg (zC ⟨3, ((chN sg tu k).length : Int), ((chN sg tu k).length : Int) + 1, 0, z30, z32, z35⟩), .pointer (some ⟨w.heap.size, 0, none⟩)] (by rfl) rfl ?_ ?_
          · unfold clo
            go_simp
            rfl
          refine (put17 _ T3.out (by rw [List.length_append, List.length_append]; show _ + 1 + 1 ≤ _; have := HLN.out; omega)).mono ?_
          rintro e w9 ⟨rfl, hd, hu⟩
          refine ⟨_, rfl, ?_⟩
          have T := aq hd
          have y2 := hu _ hHeld.1
          have yp := (bq hd.bp 0).trans (show _ = some (clo w.heap.size) from rfl)
          clear hd hu T3 hHeld
          refine hK.out _ _ ⟨y2, yp⟩ (fun hHeld => ?_)
          clear hK K
          refine xV (a' := ?_) ?_ ?_
          rotate_left
          · show Act.put _ (some 69) _ = _
            simp only [Act.put, sq, iw, jw]
            rfl
          clear y2 yp
          refine wW (i := 8) (N := some 70) (msk 12 511) rfl rfl (zG HT_.out (by kernel_rfl)) (by decide) (fun K hK => ?_)
          refine sH (v := .slice (some ⟨w9.heap.size, 0, none⟩) 1 1) (w1 := w9.alloc (.cells #[.int .i64 (((chN sg tu k).length : Int) + 1 + 1)] 3)) (by rfl) rfl (by go_simp; try rfl) ?_
          have bA := zY (Below.refl w9.heap.size w9) (.cells #[.int .i64 (((chN sg tu k).length : Int) + 1 + 1)] 3)
          obtain ⟨vv2, vn2, ve2, hv0, hr1, hr0, hr2, hdd⟩ := T.out.bx
          obtain rfl : ve = ve2 := Option.some.inj (hHeld.1.symm.trans ((bq hv0 2).trans (show _ = some ve2 from rfl)))
          have HV0 := aq (bb_ hv0 bA)
          have HR1 := aq (Kd.zL hr1 bA)
          have HR0 := aq (Kd.zL hr0 bA)
          have HR2 := aq (Kd.zL hr2 bA)
          have HD := aq hdd
          have T3 := aq (T.out.step bA)
          have HX3 := aq (heap_alloc_last w9 (.cells #[.int .i64 (((chN sg tu k).length : Int) + 1 + 1)] 3))
          clear T bA hHeld hv0 hr1 hr0 hr2 hdd
          generalize w9.alloc (.cells #[.int .i64 (((chN sg tu k).length : Int) + 1 + 1)] 3) = w10 at T3 HX3 HV0 HR1 HR0 HR2 ⊢
          generalize w9.heap.size = gx at HX3 ⊢
          have y2 := (bq HV0.out 2).trans (show _ = some ve from rfl)
          have yp := (bq T3.out.bp 0).trans (show _ = some (clo w.heap.size) from rfl)
          refine hK.out _ _ ⟨y2, yp⟩ (fun hHeld => ?_)
          clear hK K y2 yp
          refine xV (a' := ?_) ?_ ?_
          rotate_left
          · show Act.put _ (some 70) _ = _
            simp only [Act.put, sq, iw, jw]
            rfl
          refine wW (i := 9) (N := some 71) (msk 12 1023) rfl rfl (zG HT_.out (by kernel_rfl)) (by decide) (fun K hK => ?_)
          rw [if_pos (by rfl)]
          refine tX (Kd.int .i64) (.tmp 63) (.tmp 70) 23 3 (.int .i64 0) 8 rfl Try.underlying23 sV (by rfl) (by decide) w.heap.size _ (chE k) (((chN sg tu k).length : Int) + 1 + 1) [.int .i64 (((chN sg tu k).length : Int) + 1 + 1)] (fun _ => True) ⟨gx, 0, none⟩ (by rfl) (by rfl) (vL HX3.out 0 _ rfl) rfl (fun _ _ => trivial) HR2.out T3.out.B.size (by rw [tG]; have := HKN.out; have := HN.out; omega) (by rw [tG]; have := HKN.out; have := HN.out; omega) ?_
          intro g1 cap w11 hr hg hat
          have hb := qW T3.out.B HR2.out hg
          have hx9 := zK HV0.out hg (Kd.uX HR2.out HV0.out (by decide))
          have T := aq (T3.out.growE HV0.out HR1.out HR0.out HR2.out HD.out hr hb hg hat)
          have z := (bq hx9 2).trans (show _ = some ve from rfl)
          have f := bf_ hx9 2
          have yp := (zK T3.out.bp hg (Kd.uX HR2.out T3.out.bp (by decide)))
          have yp := (bq yp 0).trans (show _ = some (clo w.heap.size) from rfl)
          clear hx9 hb hr hg hat T3 HV0 HR1 HR0 HR2 HD HX3 hHeld
          refine hK.out _ _ ⟨z, yp⟩ (fun hHeld => ?_)
          clear hK K yp
          refine xV (a' := ?_) ?_ ?_
          rotate_left
          · show Act.put _ (some 71) _ = _
            simp only [Act.put, sq, iw, jw]
            rfl
          refine pU 10 72 (msk 12 2047) HT_.out ?_
          refine uB (i := 11) (N := none) (msk 12 4095) rfl rfl (zG HT_.out (by kernel_rfl)) (by decide) (fun K hK => ?_)
          refine sZ (w1 := w11.setCell ⟨w.heap.size, 2, none⟩ (.slice (some ⟨g1, 0, none⟩) ((chE k).length + 1) cap)) (by rfl) rfl ?_ ?_
          · go_simp
            try rfl
          clear z f hHeld
          generalize w11.setCell ⟨w.heap.size, 2, none⟩ (.slice (some ⟨g1, 0, none⟩) ((chE k).length + 1) cap) = w12 at T ⊢
          refine hK.out _ _ ?_
          clear hK K
          refine wX (yG HT_.out (by kernel_rfl)) ?_
          clear HT_ HW_
          clear yp
          obtain ⟨vv, vn, ve, hv0, hr1, hr0, hr2, hd⟩ := T.out.bx
          have HV0 := aq hv0
          have HR0 := aq hr0
          have HR1 := aq hr1
          have HR2 := aq hr2
          have HD := aq hd
          have y0 := (bq hv0 0).trans (show _ = some vv from rfl)
          clear hv0 hr0 hr1 hr2 hd
          go_upto_region 18 with (first | ((with_reducible refine gD (N := 76) rfl ?_); refine Kd.xW rfl (vA (x := vV) rfl) ?_) | ((with_reducible refine zA (b := .append) (xs := #[.tmp 74, .tmp 76]) rfl ?_); at_builtin; refine Kd.xY k59 (w0 := w) w.heap.size rfl (.tmp 74) (.tmp 76) 44 59 _ 128 rfl Try.underlying44 oS rfl (by decide) (by omega) _ (List.replicate (k + 1) vV) vV (varA vV).toList (fun _ => True) (fun _ => False) rfl rfl ?aP (fun _ hk => hk.elim) ?aF ?aO ?aB ?aS ?aL ?_; (case aP => exact pZ _ _ _ vV); (case aB => exact T.out.B); (case aF => exact fun k hk => trivial); (case aO => exact HR1.out); (case aS => exact T.out.B.size); (case aL => rw [List.length_replicate]; have := HKN.out; have := HN.out; omega); intro v1 w13 ho hb hg hat; have hx9 := zK HV0.out hg (Kd.uX HR1.out HV0.out (by decide)); have T2 := aq (T.out.growV HV0.out HR1.out HR0.out HR2.out HD.out ho hb hg); obtain ⟨A6, c6, e6⟩ := Kd.yT ho; subst e6; clear y0 ho hb hg hat T; have T := T2; clear T2; have y0 := (bq hx9 0).trans (show _ = some vv from rfl); have yf := bf_ hx9 0; clear hx9))
          clear y0 yf HV0 HR0 HR1 HR2 HD
          have T2 := T.out
          rw [List.length_append, List.length_replicate] at T2
          have T2 := aq T2
          clear T
          have T := T2
          clear T2
          simp only [List.length_singleton] at T
          generalize w13.setCell ⟨w.heap.size, 0, none⟩ (.slice A6 (k + 1 + 1) c6) = w14 at T ⊢
          obtain ⟨A9, c9, e9, hc9, hC9⟩ := sL T.out.sn
          subst e9
          obtain ⟨ad9, eA9, h9⟩ := pG hC9 (k : Int) (by omega) (by rw [wL]; omega)
          subst eA9
          rw [Int.toNat_natCast, chS_at] at h9
          have hkS : ((k : Nat) : Int) < ((chS sg k).length : Int) := by rw [wL]; omega
          have HOS := aq T.out.sn
          clear hc9 hC9
          have HWS := aq (show wrap64 (-sig sg k) = sig sg (k + 1) from by have := pO (sg := sg) (k := k) (s := (-1)) (by unfold sgS; rw [if_pos hs]); simpa using this)
          go_wp2_with (first | ((with_reducible refine zA (b := .append) (xs := #[.tmp 79, .tmp 86]) rfl ?_); rw [HWS.out]; at_builtin; refine Kd.xY (Kd.int .i64) (w0 := w) w.heap.size rfl (.tmp 79) (.tmp 86) 23 3 (.int .i64 0) 8 rfl Try.underlying23 sV rfl (by decide) (by omega) _ (chS sg k) (sig sg (k + 1)) [.int .i64 (sig sg (k + 1))] (fun _ => True) (fun _ => False) rfl rfl ?aP (fun _ hk => hk.elim) ?aF ?aO ?aB ?aS ?aL ?_; (case aP => exact rfl); (case aB => exact T.out.B); (case aF => exact (fun _ _ => trivial)); (case aO => exact HOS.out); (case aS => exact T.out.B.size); (case aL => rw [wL]; have := HKN.out; have := HN.out; omega); intro v1 w15 ho hb hg hat; have T2 := aq (T.out.growS ho hb hg hat); clear ho hb hg hat T HOS h9; have T := T2; clear T2))
          rw [HW1.out]
          have hnx := HLT.out
          exact ⟨⟨k + 1, by omega, rfl, aq (T.out.next (by unfold sgK; rw [if_pos hs]) (if_neg (by rw [ht]; decide)).symm (if_neg (by rw [ht]; decide)).symm)⟩, by simp only [intOf]; omega⟩
        · have h' : ¬ ((k : Nat) : Int) < (tu.length : Int) := by omega
          go_upto_region 16 with fail
          obtain ⟨vv, vn, ve, hv0, hr1, hr0, hr2, hdd⟩ := T.out.bx
          have hcE := (bq hv0 2).trans (show _ = some ve from rfl)
          have hcP := (bq T.out.bp 0).trans (show _ = some (clo w.heap.size) from rfl)
          refine xK (n := 12) (S := fun w' => w'.cell? ⟨w.heap.size, 2, none⟩ = some ve ∧ w'.cell? ⟨gP, 0, none⟩ = some (clo w.heap.size)) (ds := [11]) (msk 12 0) (by kernel_rfl) rfl rfl ⟨hcE, hcP⟩ (fun hHeld => ?_); refine yO ch6.tab16 ch6.bits16 (fun HT_ HW_ => ?_)
          clear hv0 hr1 hr0 hr2 hdd hcE hcP
          have T3 := aq (T.out.step (yX (Below.refl _ _)))
          clear T
          refine pU 0 62 (msk 12 1) HT_.out ?_
          refine tU 1 63 (msk 12 3) HT_.out HW_.out hHeld ?_ ?_ ?_
          rotate_left
          · rintro w' ⟨s0, s1⟩; go_simp; with_reducible rfl
          refine tU 2 64 (msk 12 7) HT_.out HW_.out hHeld ?_ ?_ ?_
          rotate_left
          · rintro w' ⟨s0, s1⟩; go_simp; with_reducible rfl
          refine pU 3 65 (msk 12 15) HT_.out ?_
          refine pU 4 66 (msk 12 31) HT_.out ?_
          refine pU 5 67 (msk 12 63) HT_.out ?_
          refine pU 6 68 (msk 12 127) HT_.out ?_
          refine wW (i := 7) (N := some 69) (msk 12 255) rfl rfl (zG HT_.out (by kernel_rfl)) (by decide) (fun K hK => ?_)
          refine call_ 17 #[.agg (zC ⟨3, ((chN sg tu k).length : Int), ((chN sg tu k).length : Int) + 1, 0, z30, z32, z35⟩), .pointer (some ⟨w.heap.size, 0, none⟩)] (by rfl) rfl ?_ ?_
          · unfold clo
            go_simp
            rfl
          refine (put17 _ T3.out (by rw [List.length_append, List.length_append]; show _ + 1 + 1 ≤ _; have := HLN.out; omega)).mono ?_
          rintro e w9 ⟨rfl, hd, hu⟩
          refine ⟨_, rfl, ?_⟩
          have T := aq hd
          have y2 := hu _ hHeld.1
          have yp := (bq hd.bp 0).trans (show _ = some (clo w.heap.size) from rfl)
          clear hd hu T3 hHeld
          refine hK.out _ _ ⟨y2, yp⟩ (fun hHeld => ?_)
          clear hK K
          refine xV (a' := ?_) ?_ ?_
          rotate_left
          · show Act.put _ (some 69) _ = _
            simp only [Act.put, sq, iw, jw]
            rfl
          clear y2 yp
          refine wW (i := 8) (N := some 70) (msk 12 511) rfl rfl (zG HT_.out (by kernel_rfl)) (by decide) (fun K hK => ?_)
          refine sH (v := .slice (some ⟨w9.heap.size, 0, none⟩) 1 1) (w1 := w9.alloc (.cells #[.int .i64 (((chN sg tu k).length : Int) + 1 + 1)] 3)) (by rfl) rfl (by go_simp; try rfl) ?_
          have bA := zY (Below.refl w9.heap.size w9) (.cells #[.int .i64 (((chN sg tu k).length : Int) + 1 + 1)] 3)
          obtain ⟨vv2, vn2, ve2, hv0, hr1, hr0, hr2, hdd⟩ := T.out.bx
          obtain rfl : ve = ve2 := Option.some.inj (hHeld.1.symm.trans ((bq hv0 2).trans (show _ = some ve2 from rfl)))
          have HV0 := aq (bb_ hv0 bA)
          have HR1 := aq (Kd.zL hr1 bA)
          have HR0 := aq (Kd.zL hr0 bA)
          have HR2 := aq (Kd.zL hr2 bA)
          have HD := aq hdd
          have T3 := aq (T.out.step bA)
          have HX3 := aq (heap_alloc_last w9 (.cells #[.int .i64 (((chN sg tu k).length : Int) + 1 + 1)] 3))
          clear T bA hHeld hv0 hr1 hr0 hr2 hdd
          generalize w9.alloc (.cells #[.int .i64 (((chN sg tu k).length : Int) + 1 + 1)] 3) = w10 at T3 HX3 HV0 HR1 HR0 HR2 ⊢
          generalize w9.heap.size = gx at HX3 ⊢
          have y2 := (bq HV0.out 2).trans (show _ = some ve from rfl)
          have yp := (bq T3.out.bp 0).trans (show _ = some (clo w.heap.size) from rfl)
          refine hK.out _ _ ⟨y2, yp⟩ (fun hHeld => ?_)
          clear hK K y2 yp
          refine xV (a' := ?_) ?_ ?_
          rotate_left
          · show Act.put _ (some 70) _ = _
            simp only [Act.put, sq, iw, jw]
            rfl
          refine wW (i := 9) (N := some 71) (msk 12 1023) rfl rfl (zG HT_.out (by kernel_rfl)) (by decide) (fun K hK => ?_)
          rw [if_pos (by rfl)]
          refine tX (Kd.int .i64) (.tmp 63) (.tmp 70) 23 3 (.int .i64 0) 8 rfl Try.underlying23 sV (by rfl) (by decide) w.heap.size _ (chE k) (((chN sg tu k).length : Int) + 1 + 1) [.int .i64 (((chN sg tu k).length : Int) + 1 + 1)] (fun _ => True) ⟨gx, 0, none⟩ (by rfl) (by rfl) (vL HX3.out 0 _ rfl) rfl (fun _ _ => trivial) HR2.out T3.out.B.size (by rw [tG]; have := HKN.out; have := HN.out; omega) (by rw [tG]; have := HKN.out; have := HN.out; omega) ?_
          intro g1 cap w11 hr hg hat
          have hb := qW T3.out.B HR2.out hg
          have hx9 := zK HV0.out hg (Kd.uX HR2.out HV0.out (by decide))
          have T := aq (T3.out.growE HV0.out HR1.out HR0.out HR2.out HD.out hr hb hg hat)
          have z := (bq hx9 2).trans (show _ = some ve from rfl)
          have f := bf_ hx9 2
          have yp := (zK T3.out.bp hg (Kd.uX HR2.out T3.out.bp (by decide)))
          have yp := (bq yp 0).trans (show _ = some (clo w.heap.size) from rfl)
          clear hx9 hb hr hg hat T3 HV0 HR1 HR0 HR2 HD HX3 hHeld
          refine hK.out _ _ ⟨z, yp⟩ (fun hHeld => ?_)
          clear hK K yp
          refine xV (a' := ?_) ?_ ?_
          rotate_left
          · show Act.put _ (some 71) _ = _
            simp only [Act.put, sq, iw, jw]
            rfl
          refine pU 10 72 (msk 12 2047) HT_.out ?_
          refine uB (i := 11) (N := none) (msk 12 4095) rfl rfl (zG HT_.out (by kernel_rfl)) (by decide) (fun K hK => ?_)
          refine sZ (w1 := w11.setCell ⟨w.heap.size, 2, none⟩ (.slice (some ⟨g1, 0, none⟩) ((chE k).length + 1) cap)) (by rfl) rfl ?_ ?_
          · go_simp
            try rfl
          clear z f hHeld
          generalize w11.setCell ⟨w.heap.size, 2, none⟩ (.slice (some ⟨g1, 0, none⟩) ((chE k).length + 1) cap) = w12 at T ⊢
          refine hK.out _ _ ?_
          clear hK K
          refine wX (yG HT_.out (by kernel_rfl)) ?_
          clear HT_ HW_
          clear yp
          obtain ⟨vv, vn, ve, hv0, hr1, hr0, hr2, hd⟩ := T.out.bx
          have HV0 := aq hv0
          have HR0 := aq hr0
          have HR1 := aq hr1
          have HR2 := aq hr2
          have HD := aq hd
          have y0 := (bq hv0 0).trans (show _ = some vv from rfl)
          clear hv0 hr0 hr1 hr2 hd
          go_upto_region 18 with (first | ((with_reducible refine gD (N := 76) rfl ?_); refine Kd.xW rfl (vA (x := vV) rfl) ?_) | ((with_reducible refine zA (b := .append) (xs := #[.tmp 74, .tmp 76]) rfl ?_); at_builtin; refine Kd.xY k59 (w0 := w) w.heap.size rfl (.tmp 74) (.tmp 76) 44 59 _ 128 rfl Try.underlying44 oS rfl (by decide) (by omega) _ (List.replicate (k + 1) vV) vV (varA vV).toList (fun _ => True) (fun _ => False) rfl rfl ?aP (fun _ hk => hk.elim) ?aF ?aO ?aB ?aS ?aL ?_; (case aP => exact pZ _ _ _ vV); (case aB => exact T.out.B); (case aF => exact fun k hk => trivial); (case aO => exact HR1.out); (case aS => exact T.out.B.size); (case aL => rw [List.length_replicate]; have := HKN.out; have := HN.out; omega); intro v1 w13 ho hb hg hat; have hx9 := zK HV0.out hg (Kd.uX HR1.out HV0.out (by decide)); have T2 := aq (T.out.growV HV0.out HR1.out HR0.out HR2.out HD.out ho hb hg); obtain ⟨A6, c6, e6⟩ := Kd.yT ho; subst e6; clear y0 ho hb hg hat T; have T := T2; clear T2; have y0 := (bq hx9 0).trans (show _ = some vv from rfl); have yf := bf_ hx9 0; clear hx9))
          clear y0 yf HV0 HR0 HR1 HR2 HD
          have T2 := T.out
          rw [List.length_append, List.length_replicate] at T2
          have T2 := aq T2
          clear T
          have T := T2
          clear T2
          simp only [List.length_singleton] at T
          generalize w13.setCell ⟨w.heap.size, 0, none⟩ (.slice A6 (k + 1 + 1) c6) = w14 at T ⊢
          obtain ⟨A9, c9, e9, hc9, hC9⟩ := sL T.out.sn
          subst e9
          obtain ⟨ad9, eA9, h9⟩ := pG hC9 (k : Int) (by omega) (by rw [wL]; omega)
          subst eA9
          rw [Int.toNat_natCast, chS_at] at h9
          have hkS : ((k : Nat) : Int) < ((chS sg k).length : Int) := by rw [wL]; omega
          have HOS := aq T.out.sn
          clear hc9 hC9
          have HWS := aq (show wrap64 (-sig sg k) = sig sg (k + 1) from by have := pO (sg := sg) (k := k) (s := (-1)) (by unfold sgS; rw [if_pos hs]); simpa using this)
          go_wp2_with (first | ((with_reducible refine zA (b := .append) (xs := #[.tmp 79, .tmp 86]) rfl ?_); rw [HWS.out]; at_builtin; refine Kd.xY (Kd.int .i64) (w0 := w) w.heap.size rfl (.tmp 79) (.tmp 86) 23 3 (.int .i64 0) 8 rfl Try.underlying23 sV rfl (by decide) (by omega) _ (chS sg k) (sig sg (k + 1)) [.int .i64 (sig sg (k + 1))] (fun _ => True) (fun _ => False) rfl rfl ?aP (fun _ hk => hk.elim) ?aF ?aO ?aB ?aS ?aL ?_; (case aP => exact rfl); (case aB => exact T.out.B); (case aF => exact (fun _ _ => trivial)); (case aO => exact HOS.out); (case aS => exact T.out.B.size); (case aL => rw [wL]; have := HKN.out; have := HN.out; omega); intro v1 w15 ho hb hg hat; have T2 := aq (T.out.growS ho hb hg hat); clear ho hb hg hat T HOS h9; have T := T2; clear T2))
          rw [HW1.out]
          have hnx := HLT.out
          exact ⟨⟨k + 1, by omega, rfl, aq (T.out.next (by unfold sgK; rw [if_pos hs]) (if_neg (by rw [ht]; decide)).symm (if_neg (by rw [ht]; decide)).symm)⟩, by simp only [intOf]; omega⟩
      · go_upto_region 14 with (first | (go_at_call 18; refine HP1.out.mono ?_; rintro e w7 ⟨rfl, hd⟩; have T1 := aq hd; clear HP1 hd T hsc; have HP2 := aq (v18 ((k : Int) + 1) T1.out (by rw [List.length_append]; show _ + 1 ≤ _; have := HLN.out; omega))) | (go_at_call 18; rw [HW1.out]; refine HP2.out.mono ?_; rintro e w8 ⟨rfl, hd⟩; have T := aq hd; clear HP2 hd T1))
        rcases HTU.out with ⟨h, ht⟩ | ⟨h, ht⟩ | ⟨h, ht⟩
        · have h' : ((k : Nat) : Int) < (tu.length : Int) := by omega
          obtain ⟨ad2, eA2, htc⟩ := bool_at (Kd.xZ HT.out T.out.B) (k : Int) (by omega) (by omega)
          subst eA2
          rw [Int.toNat_natCast, show zJ false tu (k : Int) = true from ht] at htc
          go_upto_region 16 with fail
          obtain ⟨vv, vn, ve, hv0, hr1, hr0, hr2, hdd⟩ := T.out.bx
          have hcE := (bq hv0 2).trans (show _ = some ve from rfl)
          have hcP := (bq T.out.bp 0).trans (show _ = some (clo w.heap.size) from rfl)
          refine xK (n := 12) (S := fun w' => w'.cell? ⟨w.heap.size, 2, none⟩ = some ve ∧ w'.cell? ⟨gP, 0, none⟩ = some (clo w.heap.size)) (ds := [11]) (msk 12 0) (by kernel_rfl) rfl rfl ⟨hcE, hcP⟩ (fun hHeld => ?_); refine yO ch6.tab16 ch6.bits16 (fun HT_ HW_ => ?_)
          clear hv0 hr1 hr0 hr2 hdd hcE hcP
          have T3 := aq (T.out.step (yX (Below.refl _ _)))
          clear T
          refine pU 0 62 (msk 12 1) HT_.out ?_
          refine tU 1 63 (msk 12 3) HT_.out HW_.out hHeld ?_ ?_ ?_
          rotate_left
          · rintro w' ⟨s0, s1⟩; go_simp; with_reducible rfl
          refine tU 2 64 (msk 12 7) HT_.out HW_.out hHeld ?_ ?_ ?_
          rotate_left
          · rintro w' ⟨s0, s1⟩; go_simp; with_reducible rfl
          refine pU 3 65 (msk 12 15) HT_.out ?_
          refine pU 4 66 (msk 12 31) HT_.out ?_
          refine pU 5 67 (msk 12 63) HT_.out ?_
          refine pU 6 68 (msk 12 127) HT_.out ?_
          refine wW (i := 7) (N := some 69) (msk 12 255) rfl rfl (zG HT_.out (by kernel_rfl)) (by decide) (fun K hK => ?_)
          refine call_ 17 #[.agg (zC ⟨4, ((chN sg tu k).length : Int) + 1, ((chN sg tu k).length : Int), 0, z30, z32, z35⟩), .pointer (some ⟨w.heap.size, 0, none⟩)] (by rfl) rfl ?_ ?_
          · unfold clo
            go_simp
            rfl
          refine (put17 _ T3.out (by rw [List.length_append, List.length_append]; show _ + 1 + 1 ≤ _; have := HLN.out; omega)).mono ?_
          rintro e w9 ⟨rfl, hd, hu⟩
          refine ⟨_, rfl, ?_⟩
          have T := aq hd
          have y2 := hu _ hHeld.1
          have yp := (bq hd.bp 0).trans (show _ = some (clo w.heap.size) from rfl)
          clear hd hu T3 hHeld
          refine hK.out _ _ ⟨y2, yp⟩ (fun hHeld => ?_)
          clear hK K
          refine xV (a' := ?_) ?_ ?_
          rotate_left
          · show Act.put _ (some 69) _ = _
            simp only [Act.put, sq, iw, jw]
            rfl
          clear y2 yp
          refine wW (i := 8) (N := some 70) (msk 12 511) rfl rfl (zG HT_.out (by kernel_rfl)) (by decide) (fun K hK => ?_)
          refine sH (v := .slice (some ⟨w9.heap.size, 0, none⟩) 1 1) (w1 := w9.alloc (.cells #[.int .i64 (((chN sg tu k).length : Int) + 1 + 1)] 3)) (by rfl) rfl (by go_simp; try rfl) ?_
          have bA := zY (Below.refl w9.heap.size w9) (.cells #[.int .i64 (((chN sg tu k).length : Int) + 1 + 1)] 3)
          obtain ⟨vv2, vn2, ve2, hv0, hr1, hr0, hr2, hdd⟩ := T.out.bx
          obtain rfl : ve = ve2 := Option.some.inj (hHeld.1.symm.trans ((bq hv0 2).trans (show _ = some ve2 from rfl)))
          have HV0 := aq (bb_ hv0 bA)
          have HR1 := aq (Kd.zL hr1 bA)
          have HR0 := aq (Kd.zL hr0 bA)
          have HR2 := aq (Kd.zL hr2 bA)
          have HD := aq hdd
          have T3 := aq (T.out.step bA)
          have HX3 := aq (heap_alloc_last w9 (.cells #[.int .i64 (((chN sg tu k).length : Int) + 1 + 1)] 3))
          clear T bA hHeld hv0 hr1 hr0 hr2 hdd
          generalize w9.alloc (.cells #[.int .i64 (((chN sg tu k).length : Int) + 1 + 1)] 3) = w10 at T3 HX3 HV0 HR1 HR0 HR2 ⊢
          generalize w9.heap.size = gx at HX3 ⊢
          have y2 := (bq HV0.out 2).trans (show _ = some ve from rfl)
          have yp := (bq T3.out.bp 0).trans (show _ = some (clo w.heap.size) from rfl)
          refine hK.out _ _ ⟨y2, yp⟩ (fun hHeld => ?_)
          clear hK K y2 yp
          refine xV (a' := ?_) ?_ ?_
          rotate_left
          · show Act.put _ (some 70) _ = _
            simp only [Act.put, sq, iw, jw]
            rfl
          refine wW (i := 9) (N := some 71) (msk 12 1023) rfl rfl (zG HT_.out (by kernel_rfl)) (by decide) (fun K hK => ?_)
          rw [if_pos (by rfl)]
          refine tX (Kd.int .i64) (.tmp 63) (.tmp 70) 23 3 (.int .i64 0) 8 rfl Try.underlying23 sV (by rfl) (by decide) w.heap.size _ (chE k) (((chN sg tu k).length : Int) + 1 + 1) [.int .i64 (((chN sg tu k).length : Int) + 1 + 1)] (fun _ => True) ⟨gx, 0, none⟩ (by rfl) (by rfl) (vL HX3.out 0 _ rfl) rfl (fun _ _ => trivial) HR2.out T3.out.B.size (by rw [tG]; have := HKN.out; have := HN.out; omega) (by rw [tG]; have := HKN.out; have := HN.out; omega) ?_
          intro g1 cap w11 hr hg hat
          have hb := qW T3.out.B HR2.out hg
          have hx9 := zK HV0.out hg (Kd.uX HR2.out HV0.out (by decide))
          have T := aq (T3.out.growE HV0.out HR1.out HR0.out HR2.out HD.out hr hb hg hat)
          have z := (bq hx9 2).trans (show _ = some ve from rfl)
          have f := bf_ hx9 2
          have yp := (zK T3.out.bp hg (Kd.uX HR2.out T3.out.bp (by decide)))
          have yp := (bq yp 0).trans (show _ = some (clo w.heap.size) from rfl)
          clear hx9 hb hr hg hat T3 HV0 HR1 HR0 HR2 HD HX3 hHeld
          refine hK.out _ _ ⟨z, yp⟩ (fun hHeld => ?_)
          clear hK K yp
          refine xV (a' := ?_) ?_ ?_
          rotate_left
          · show Act.put _ (some 71) _ = _
            simp only [Act.put, sq, iw, jw]
            rfl
          refine pU 10 72 (msk 12 2047) HT_.out ?_
          refine uB (i := 11) (N := none) (msk 12 4095) rfl rfl (zG HT_.out (by kernel_rfl)) (by decide) (fun K hK => ?_)
          refine sZ (w1 := w11.setCell ⟨w.heap.size, 2, none⟩ (.slice (some ⟨g1, 0, none⟩) ((chE k).length + 1) cap)) (by rfl) rfl ?_ ?_
          · go_simp
            try rfl
          clear z f hHeld
          generalize w11.setCell ⟨w.heap.size, 2, none⟩ (.slice (some ⟨g1, 0, none⟩) ((chE k).length + 1) cap) = w12 at T ⊢
          refine hK.out _ _ ?_
          clear hK K
          refine wX (yG HT_.out (by kernel_rfl)) ?_
          clear HT_ HW_
          clear yp
          obtain ⟨vv, vn, ve, hv0, hr1, hr0, hr2, hd⟩ := T.out.bx
          have HV0 := aq hv0
          have HR0 := aq hr0
          have HR1 := aq hr1
          have HR2 := aq hr2
          have HD := aq hd
          have y0 := (bq hv0 0).trans (show _ = some vv from rfl)
          clear hv0 hr0 hr1 hr2 hd
          go_upto_region 18 with (first | ((with_reducible refine gD (N := 76) rfl ?_); refine Kd.xW rfl (vA (x := vV) rfl) ?_) | ((with_reducible refine zA (b := .append) (xs := #[.tmp 74, .tmp 76]) rfl ?_); at_builtin; refine Kd.xY k59 (w0 := w) w.heap.size rfl (.tmp 74) (.tmp 76) 44 59 _ 128 rfl Try.underlying44 oS rfl (by decide) (by omega) _ (List.replicate (k + 1) vV) vV (varA vV).toList (fun _ => True) (fun _ => False) rfl rfl ?aP (fun _ hk => hk.elim) ?aF ?aO ?aB ?aS ?aL ?_; (case aP => exact pZ _ _ _ vV); (case aB => exact T.out.B); (case aF => exact fun k hk => trivial); (case aO => exact HR1.out); (case aS => exact T.out.B.size); (case aL => rw [List.length_replicate]; have := HKN.out; have := HN.out; omega); intro v1 w13 ho hb hg hat; have hx9 := zK HV0.out hg (Kd.uX HR1.out HV0.out (by decide)); have T2 := aq (T.out.growV HV0.out HR1.out HR0.out HR2.out HD.out ho hb hg); obtain ⟨A6, c6, e6⟩ := Kd.yT ho; subst e6; clear y0 ho hb hg hat T; have T := T2; clear T2; have y0 := (bq hx9 0).trans (show _ = some vv from rfl); have yf := bf_ hx9 0; clear hx9))
          clear y0 yf HV0 HR0 HR1 HR2 HD
          have T2 := T.out
          rw [List.length_append, List.length_replicate] at T2
          have T2 := aq T2
          clear T
          have T := T2
          clear T2
          simp only [List.length_singleton] at T
          generalize w13.setCell ⟨w.heap.size, 0, none⟩ (.slice A6 (k + 1 + 1) c6) = w14 at T ⊢
          obtain ⟨A9, c9, e9, hc9, hC9⟩ := sL T.out.sn
          subst e9
          obtain ⟨ad9, eA9, h9⟩ := pG hC9 (k : Int) (by omega) (by rw [wL]; omega)
          subst eA9
          rw [Int.toNat_natCast, chS_at] at h9
          have hkS : ((k : Nat) : Int) < ((chS sg k).length : Int) := by rw [wL]; omega
          have HOS := aq T.out.sn
          clear hc9 hC9
          have HWS := aq (show wrap64 (sig sg k) = sig sg (k + 1) from by have := pO (sg := sg) (k := k) (s := 1) (by unfold sgS; rw [if_neg (show ¬ rd sg (k : Int) < 0 by omega)]); simpa using this)
          go_wp2_with (first | ((with_reducible refine zA (b := .append) (xs := #[.tmp 79, .tmp 86]) rfl ?_); rw [HWS.out]; at_builtin; refine Kd.xY (Kd.int .i64) (w0 := w) w.heap.size rfl (.tmp 79) (.tmp 86) 23 3 (.int .i64 0) 8 rfl Try.underlying23 sV rfl (by decide) (by omega) _ (chS sg k) (sig sg (k + 1)) [.int .i64 (sig sg (k + 1))] (fun _ => True) (fun _ => False) rfl rfl ?aP (fun _ hk => hk.elim) ?aF ?aO ?aB ?aS ?aL ?_; (case aP => exact rfl); (case aB => exact T.out.B); (case aF => exact (fun _ _ => trivial)); (case aO => exact HOS.out); (case aS => exact T.out.B.size); (case aL => rw [wL]; have := HKN.out; have := HN.out; omega); intro v1 w15 ho hb hg hat; have T2 := aq (T.out.growS ho hb hg hat); clear ho hb hg hat T HOS h9; have T := T2; clear T2))
          rw [HW1.out]
          have hnx := HLT.out
          exact ⟨⟨k + 1, by omega, rfl, aq (T.out.next (by unfold sgK; rw [if_neg (show ¬ rd sg (k : Int) < 0 by omega)]) (if_pos ht).symm (if_pos ht).symm)⟩, by simp only [intOf]; omega⟩
        · have h' : ((k : Nat) : Int) < (tu.length : Int) := by omega
          obtain ⟨ad2, eA2, htc⟩ := bool_at (Kd.xZ HT.out T.out.B) (k : Int) (by omega) (by omega)
          subst eA2
          rw [Int.toNat_natCast, show zJ false tu (k : Int) = false from ht] at htc
          go_upto_region 16 with fail
          obtain ⟨vv, vn, ve, hv0, hr1, hr0, hr2, hdd⟩ := T.out.bx
          have hcE := (bq hv0 2).trans (show _ = some ve from rfl)
          have hcP := (bq T.out.bp 0).trans (show _ = some (clo w.heap.size) from rfl)
          refine xK (n := 12) (S := fun w' => w'.cell? ⟨w.heap.size, 2, none⟩ = some ve ∧ w'.cell? ⟨gP, 0, none⟩ = some (clo w.heap.size)) (ds := [11]) (msk 12 0) (by kernel_rfl) rfl rfl ⟨hcE, hcP⟩ (fun hHeld => ?_); refine yO ch6.tab16 ch6.bits16 (fun HT_ HW_ => ?_)
          clear hv0 hr1 hr0 hr2 hdd hcE hcP
          have T3 := aq (T.out.step (yX (Below.refl _ _)))
          clear T
          refine pU 0 62 (msk 12 1) HT_.out ?_
          refine tU 1 63 (msk 12 3) HT_.out HW_.out hHeld ?_ ?_ ?_
          rotate_left
          · rintro w' ⟨s0, s1⟩; go_simp; with_reducible rfl
          refine tU 2 64 (msk 12 7) HT_.out HW_.out hHeld ?_ ?_ ?_
          rotate_left
          · rintro w' ⟨s0, s1⟩; go_simp; with_reducible rfl
          refine pU 3 65 (msk 12 15) HT_.out ?_
          refine pU 4 66 (msk 12 31) HT_.out ?_
          refine pU 5 67 (msk 12 63) HT_.out ?_
          refine pU 6 68 (msk 12 127) HT_.out ?_
          refine wW (i := 7) (N := some 69) (msk 12 255) rfl rfl (zG HT_.out (by kernel_rfl)) (by decide) (fun K hK => ?_)
          refine call_ 17 #[.agg (zC ⟨4, ((chN sg tu k).length : Int), ((chN sg tu k).length : Int) + 1, 0, z30, z32, z35⟩), .pointer (some ⟨w.heap.size, 0, none⟩)] (by rfl) rfl ?_ ?_
          · unfold clo
            go_simp
            rfl
          refine (put17 _ T3.out (by rw [List.length_append, List.length_append]; show _ + 1 + 1 ≤ _; have := HLN.out; omega)).mono ?_
          rintro e w9 ⟨rfl, hd, hu⟩
          refine ⟨_, rfl, ?_⟩
          have T := aq hd
          have y2 := hu _ hHeld.1
          have yp := (bq hd.bp 0).trans (show _ = some (clo w.heap.size) from rfl)
          clear hd hu T3 hHeld
          refine hK.out _ _ ⟨y2, yp⟩ (fun hHeld => ?_)
          clear hK K
          refine xV (a' := ?_) ?_ ?_
          rotate_left
          · show Act.put _ (some 69) _ = _
            simp only [Act.put, sq, iw, jw]
            rfl
          clear y2 yp
          refine wW (i := 8) (N := some 70) (msk 12 511) rfl rfl (zG HT_.out (by kernel_rfl)) (by decide) (fun K hK => ?_)
          refine sH (v := .slice (some ⟨w9.heap.size, 0, none⟩) 1 1) (w1 := w9.alloc (.cells #[.int .i64 (((chN sg tu k).length : Int) + 1 + 1)] 3)) (by rfl) rfl (by go_simp; try rfl) ?_
          have bA := zY (Below.refl w9.heap.size w9) (.cells #[.int .i64 (((chN sg tu k).length : Int) + 1 + 1)] 3)
          obtain ⟨vv2, vn2, ve2, hv0, hr1, hr0, hr2, hdd⟩ := T.out.bx
          obtain rfl : ve = ve2 := Option.some.inj (hHeld.1.symm.trans ((bq hv0 2).trans (show _ = some ve2 from rfl)))
          have HV0 := aq (bb_ hv0 bA)
          have HR1 := aq (Kd.zL hr1 bA)
          have HR0 := aq (Kd.zL hr0 bA)
          have HR2 := aq (Kd.zL hr2 bA)
          have HD := aq hdd
          have T3 := aq (T.out.step bA)
          have HX3 := aq (heap_alloc_last w9 (.cells #[.int .i64 (((chN sg tu k).length : Int) + 1 + 1)] 3))
          clear T bA hHeld hv0 hr1 hr0 hr2 hdd
          generalize w9.alloc (.cells #[.int .i64 (((chN sg tu k).length : Int) + 1 + 1)] 3) = w10 at T3 HX3 HV0 HR1 HR0 HR2 ⊢
          generalize w9.heap.size = gx at HX3 ⊢
          have y2 := (bq HV0.out 2).trans (show _ = some ve from rfl)
          have yp := (bq T3.out.bp 0).trans (show _ = some (clo w.heap.size) from rfl)
          refine hK.out _ _ ⟨y2, yp⟩ (fun hHeld => ?_)
          clear hK K y2 yp
          refine xV (a' := ?_) ?_ ?_
          rotate_left
          · show Act.put _ (some 70) _ = _
            simp only [Act.put, sq, iw, jw]
            rfl
          refine wW (i := 9) (N := some 71) (msk 12 1023) rfl rfl (zG HT_.out (by kernel_rfl)) (by decide) (fun K hK => ?_)
          rw [if_pos (by rfl)]
          refine tX (Kd.int .i64) (.tmp 63) (.tmp 70) 23 3 (.int .i64 0) 8 rfl Try.underlying23 sV (by rfl) (by decide) w.heap.size _ (chE k) (((chN sg tu k).length : Int) + 1 + 1) [.int .i64 (((chN sg tu k).length : Int) + 1 + 1)] (fun _ => True) ⟨gx, 0, none⟩ (by rfl) (by rfl) (vL HX3.out 0 _ rfl) rfl (fun _ _ => trivial) HR2.out T3.out.B.size (by rw [tG]; have := HKN.out; have := HN.out; omega) (by rw [tG]; have := HKN.out; have := HN.out; omega) ?_
          intro g1 cap w11 hr hg hat
          have hb := qW T3.out.B HR2.out hg
          have hx9 := zK HV0.out hg (Kd.uX HR2.out HV0.out (by decide))
          have T := aq (T3.out.growE HV0.out HR1.out HR0.out HR2.out HD.out hr hb hg hat)
          have z := (bq hx9 2).trans (show _ = some ve from rfl)
          have f := bf_ hx9 2
          have yp := (zK T3.out.bp hg (Kd.uX HR2.out T3.out.bp (by decide)))
          have yp := (bq yp 0).trans (show _ = some (clo w.heap.size) from rfl)
          clear hx9 hb hr hg hat T3 HV0 HR1 HR0 HR2 HD HX3 hHeld
          refine hK.out _ _ ⟨z, yp⟩ (fun hHeld => ?_)
          clear hK K yp
          refine xV (a' := ?_) ?_ ?_
          rotate_left
          · show Act.put _ (some 71) _ = _
            simp only [Act.put, sq, iw, jw]
            rfl
          refine pU 10 72 (msk 12 2047) HT_.out ?_
          refine uB (i := 11) (N := none) (msk 12 4095) rfl rfl (zG HT_.out (by kernel_rfl)) (by decide) (fun K hK => ?_)
          refine sZ (w1 := w11.setCell ⟨w.heap.size, 2, none⟩ (.slice (some ⟨g1, 0, none⟩) ((chE k).length + 1) cap)) (by rfl) rfl ?_ ?_
          · go_simp
            try rfl
          clear z f hHeld
          generalize w11.setCell ⟨w.heap.size, 2, none⟩ (.slice (some ⟨g1, 0, none⟩) ((chE k).length + 1) cap) = w12 at T ⊢
          refine hK.out _ _ ?_
          clear hK K
          refine wX (yG HT_.out (by kernel_rfl)) ?_
          clear HT_ HW_
          clear yp
          obtain ⟨vv, vn, ve, hv0, hr1, hr0, hr2, hd⟩ := T.out.bx
          have HV0 := aq hv0
          have HR0 := aq hr0
          have HR1 := aq hr1
          have HR2 := aq hr2
          have HD := aq hd
          have y0 := (bq hv0 0).trans (show _ = some vv from rfl)
          clear hv0 hr0 hr1 hr2 hd
          go_upto_region 18 with (first | ((with_reducible refine gD (N := 76) rfl ?_); refine Kd.xW rfl (vA (x := vV) rfl) ?_) | ((with_reducible refine zA (b := .append) (xs := #[.tmp 74, .tmp 76]) rfl ?_); at_builtin; refine Kd.xY k59 (w0 := w) w.heap.size rfl (.tmp 74) (.tmp 76) 44 59 _ 128 rfl Try.underlying44 oS rfl (by decide) (by omega) _ (List.replicate (k + 1) vV) vV (varA vV).toList (fun _ => True) (fun _ => False) rfl rfl ?aP (fun _ hk => hk.elim) ?aF ?aO ?aB ?aS ?aL ?_; (case aP => exact pZ _ _ _ vV); (case aB => exact T.out.B); (case aF => exact fun k hk => trivial); (case aO => exact HR1.out); (case aS => exact T.out.B.size); (case aL => rw [List.length_replicate]; have := HKN.out; have := HN.out; omega); intro v1 w13 ho hb hg hat; have hx9 := zK HV0.out hg (Kd.uX HR1.out HV0.out (by decide)); have T2 := aq (T.out.growV HV0.out HR1.out HR0.out HR2.out HD.out ho hb hg); obtain ⟨A6, c6, e6⟩ := Kd.yT ho; subst e6; clear y0 ho hb hg hat T; have T := T2; clear T2; have y0 := (bq hx9 0).trans (show _ = some vv from rfl); have yf := bf_ hx9 0; clear hx9))
          clear y0 yf HV0 HR0 HR1 HR2 HD
          have T2 := T.out
          rw [List.length_append, List.length_replicate] at T2
          have T2 := aq T2
          clear T
          have T := T2
          clear T2
          simp only [List.length_singleton] at T
          generalize w13.setCell ⟨w.heap.size, 0, none⟩ (.slice A6 (k + 1 + 1) c6) = w14 at T ⊢
          obtain ⟨A9, c9, e9, hc9, hC9⟩ := sL T.out.sn
          subst e9
          obtain ⟨ad9, eA9, h9⟩ := pG hC9 (k : Int) (by omega) (by rw [wL]; omega)
          subst eA9
          rw [Int.toNat_natCast, chS_at] at h9
          have hkS : ((k : Nat) : Int) < ((chS sg k).length : Int) := by rw [wL]; omega
          have HOS := aq T.out.sn
          clear hc9 hC9
          have HWS := aq (show wrap64 (sig sg k) = sig sg (k + 1) from by have := pO (sg := sg) (k := k) (s := 1) (by unfold sgS; rw [if_neg (show ¬ rd sg (k : Int) < 0 by omega)]); simpa using this)
          go_wp2_with (first | ((with_reducible refine zA (b := .append) (xs := #[.tmp 79, .tmp 86]) rfl ?_); rw [HWS.out]; at_builtin; refine Kd.xY (Kd.int .i64) (w0 := w) w.heap.size rfl (.tmp 79) (.tmp 86) 23 3 (.int .i64 0) 8 rfl Try.underlying23 sV rfl (by decide) (by omega) _ (chS sg k) (sig sg (k + 1)) [.int .i64 (sig sg (k + 1))] (fun _ => True) (fun _ => False) rfl rfl ?aP (fun _ hk => hk.elim) ?aF ?aO ?aB ?aS ?aL ?_; (case aP => exact rfl); (case aB => exact T.out.B); (case aF => exact (fun _ _ => trivial)); (case aO => exact HOS.out); (case aS => exact T.out.B.size); (case aL => rw [wL]; have := HKN.out; have := HN.out; omega); intro v1 w15 ho hb hg hat; have T2 := aq (T.out.growS ho hb hg hat); clear ho hb hg hat T HOS h9; have T := T2; clear T2))
          rw [HW1.out]
          have hnx := HLT.out
          exact ⟨⟨k + 1, by omega, rfl, aq (T.out.next (by unfold sgK; rw [if_neg (show ¬ rd sg (k : Int) < 0 by omega)]) (if_neg (by rw [ht]; decide)).symm (if_neg (by rw [ht]; decide)).symm)⟩, by simp only [intOf]; omega⟩
        · have h' : ¬ ((k : Nat) : Int) < (tu.length : Int) := by omega
          go_upto_region 16 with fail
          obtain ⟨vv, vn, ve, hv0, hr1, hr0, hr2, hdd⟩ := T.out.bx
          have hcE := (bq hv0 2).trans (show _ = some ve from rfl)
          have hcP := (bq T.out.bp 0).trans (show _ = some (clo w.heap.size) from rfl)
          refine xK (n := 12) (S := fun w' => w'.cell? ⟨w.heap.size, 2, none⟩ = some ve ∧ w'.cell? ⟨gP, 0, none⟩ = some (clo w.heap.size)) (ds := [11]) (msk 12 0) (by kernel_rfl) rfl rfl ⟨hcE, hcP⟩ (fun hHeld => ?_); refine yO ch6.tab16 ch6.bits16 (fun HT_ HW_ => ?_)
          clear hv0 hr1 hr0 hr2 hdd hcE hcP
          have T3 := aq (T.out.step (yX (Below.refl _ _)))
          clear T
          refine pU 0 62 (msk 12 1) HT_.out ?_
          refine tU 1 63 (msk 12 3) HT_.out HW_.out hHeld ?_ ?_ ?_
          rotate_left
          · rintro w' ⟨s0, s1⟩; go_simp; with_reducible rfl
          refine tU 2 64 (msk 12 7) HT_.out HW_.out hHeld ?_ ?_ ?_
          rotate_left
          · rintro w' ⟨s0, s1⟩; go_simp; with_reducible rfl
          refine pU 3 65 (msk 12 15) HT_.out ?_
          refine pU 4 66 (msk 12 31) HT_.out ?_
          refine pU 5 67 (msk 12 63) HT_.out ?_
          refine pU 6 68 (msk 12 127) HT_.out ?_
          refine wW (i := 7) (N := some 69) (msk 12 255) rfl rfl (zG HT_.out (by kernel_rfl)) (by decide) (fun K hK => ?_)
          refine call_ 17 #[.agg (zC ⟨4, ((chN sg tu k).length : Int), ((chN sg tu k).length : Int) + 1, 0, z30, z32, z35⟩), .pointer (some ⟨w.heap.size, 0, none⟩)] (by rfl) rfl ?_ ?_
          · unfold clo
            go_simp
            rfl
          refine (put17 _ T3.out (by rw [List.length_append, List.length_append]; show _ + 1 + 1 ≤ _; have := HLN.out; omega)).mono ?_
          rintro e w9 ⟨rfl, hd, hu⟩
          refine ⟨_, rfl, ?_⟩
          have T := aq hd
          have y2 := hu _ hHeld.1
          have yp := (bq hd.bp 0).trans (show _ = some (clo w.heap.size) from rfl)
          clear hd hu T3 hHeld
          refine hK.out _ _ ⟨y2, yp⟩ (fun hHeld => ?_)
          clear hK K
          refine xV (a' := ?_) ?_ ?_
          rotate_left
          · show Act.put _ (some 69) _ = _
            simp only [Act.put, sq, iw, jw]
            rfl
          clear y2 yp
          refine wW (i := 8) (N := some 70) (msk 12 511) rfl rfl (zG HT_.out (by kernel_rfl)) (by decide) (fun K hK => ?_)
          refine sH (v := .slice (some ⟨w9.heap.size, 0, none⟩) 1 1) (w1 := w9.alloc (.cells #[.int .i64 (((chN sg tu k).length : Int) + 1 + 1)] 3)) (by rfl) rfl (by go_simp; try rfl) ?_
          have bA := zY (Below.refl w9.heap.size w9) (.cells #[.int .i64 (((chN sg tu k).length : Int) + 1 + 1)] 3)
          obtain ⟨vv2, vn2, ve2, hv0, hr1, hr0, hr2, hdd⟩ := T.out.bx
          obtain rfl : ve = ve2 := Option.some.inj (hHeld.1.symm.trans ((bq hv0 2).trans (show _ = some ve2 from rfl)))
          have HV0 := aq (bb_ hv0 bA)
          have HR1 := aq (Kd.zL hr1 bA)
          have HR0 := aq (Kd.zL hr0 bA)
          have HR2 := aq (Kd.zL hr2 bA)
          have HD := aq hdd
          have T3 := aq (T.out.step bA)
          have HX3 := aq (heap_alloc_last w9 (.cells #[.int .i64 (((chN sg tu k).length : Int) + 1 + 1)] 3))
          clear T bA hHeld hv0 hr1 hr0 hr2 hdd
          generalize w9.alloc (.cells #[.int .i64 (((chN sg tu k).length : Int) + 1 + 1)] 3) = w10 at T3 HX3 HV0 HR1 HR0 HR2 ⊢
          generalize w9.heap.size = gx at HX3 ⊢
          have y2 := (bq HV0.out 2).trans (show _ = some ve from rfl)
          have yp := (bq T3.out.bp 0).trans (show _ = some (clo w.heap.size) from rfl)
          refine hK.out _ _ ⟨y2, yp⟩ (fun hHeld => ?_)
          clear hK K y2 yp
          refine xV (a' := ?_) ?_ ?_
          rotate_left
          · show Act.put _ (some 70) _ = _
            simp only [Act.put, sq, iw, jw]
            rfl
          refine wW (i := 9) (N := some 71) (msk 12 1023) rfl rfl (zG HT_.out (by kernel_rfl)) (by decide) (fun K hK => ?_)
          rw [if_pos (by rfl)]
          refine tX (Kd.int .i64) (.tmp 63) (.tmp 70) 23 3 (.int .i64 0) 8 rfl Try.underlying23 sV (by rfl) (by decide) w.heap.size _ (chE k) (((chN sg tu k).length : Int) + 1 + 1) [.int .i64 (((chN sg tu k).length : Int) + 1 + 1)] (fun _ => True) ⟨gx, 0, none⟩ (by rfl) (by rfl) (vL HX3.out 0 _ rfl) rfl (fun _ _ => trivial) HR2.out T3.out.B.size (by rw [tG]; have := HKN.out; have := HN.out; omega) (by rw [tG]; have := HKN.out; have := HN.out; omega) ?_
          intro g1 cap w11 hr hg hat
          have hb := qW T3.out.B HR2.out hg
          have hx9 := zK HV0.out hg (Kd.uX HR2.out HV0.out (by decide))
          have T := aq (T3.out.growE HV0.out HR1.out HR0.out HR2.out HD.out hr hb hg hat)
          have z := (bq hx9 2).trans (show _ = some ve from rfl)
          have f := bf_ hx9 2
          have yp := (zK T3.out.bp hg (Kd.uX HR2.out T3.out.bp (by decide)))
          have yp := (bq yp 0).trans (show _ = some (clo w.heap.size) from rfl)
          clear hx9 hb hr hg hat T3 HV0 HR1 HR0 HR2 HD HX3 hHeld
          refine hK.out _ _ ⟨z, yp⟩ (fun hHeld => ?_)
          clear hK K yp
          refine xV (a' := ?_) ?_ ?_
          rotate_left
          · show Act.put _ (some 71) _ = _
            simp only [Act.put, sq, iw, jw]
            rfl
          refine pU 10 72 (msk 12 2047) HT_.out ?_
          refine uB (i := 11) (N := none) (msk 12 4095) rfl rfl (zG HT_.out (by kernel_rfl)) (by decide) (fun K hK => ?_)
          refine sZ (w1 := w11.setCell ⟨w.heap.size, 2, none⟩ (.slice (some ⟨g1, 0, none⟩) ((chE k).length + 1) cap)) (by rfl) rfl ?_ ?_
          · go_simp
            try rfl
          clear z f hHeld
          generalize w11.setCell ⟨w.heap.size, 2, none⟩ (.slice (some ⟨g1, 0, none⟩) ((chE k).length + 1) cap) = w12 at T ⊢
          refine hK.out _ _ ?_
          clear hK K
          refine wX (yG HT_.out (by kernel_rfl)) ?_
          clear HT_ HW_
          clear yp
          obtain ⟨vv, vn, ve, hv0, hr1, hr0, hr2, hd⟩ := T.out.bx
          have HV0 := aq hv0
          have HR0 := aq hr0
          have HR1 := aq hr1
          have HR2 := aq hr2
          have HD := aq hd
          have y0 := (bq hv0 0).trans (show _ = some vv from rfl)
          clear hv0 hr0 hr1 hr2 hd
          go_upto_region 18 with (first | ((with_reducible refine gD (N := 76) rfl ?_); refine Kd.xW rfl (vA (x := vV) rfl) ?_) | ((with_reducible refine zA (b := .append) (xs := #[.tmp 74, .tmp 76]) rfl ?_); at_builtin; refine Kd.xY k59 (w0 := w) w.heap.size rfl (.tmp 74) (.tmp 76) 44 59 _ 128 rfl Try.underlying44 oS rfl (by decide) (by omega) _ (List.replicate (k + 1) vV) vV (varA vV).toList (fun _ => True) (fun _ => False) rfl rfl ?aP (fun _ hk => hk.elim) ?aF ?aO ?aB ?aS ?aL ?_; (case aP => exact pZ _ _ _ vV); (case aB => exact T.out.B); (case aF => exact fun k hk => trivial); (case aO => exact HR1.out); (case aS => exact T.out.B.size); (case aL => rw [List.length_replicate]; have := HKN.out; have := HN.out; omega); intro v1 w13 ho hb hg hat; have hx9 := zK HV0.out hg (Kd.uX HR1.out HV0.out (by decide)); have T2 := aq (T.out.growV HV0.out HR1.out HR0.out HR2.out HD.out ho hb hg); obtain ⟨A6, c6, e6⟩ := Kd.yT ho; subst e6; clear y0 ho hb hg hat T; have T := T2; clear T2; have y0 := (bq hx9 0).trans (show _ = some vv from rfl); have yf := bf_ hx9 0; clear hx9))
          clear y0 yf HV0 HR0 HR1 HR2 HD
          have T2 := T.out
          rw [List.length_append, List.length_replicate] at T2
          have T2 := aq T2
          clear T
          have T := T2
          clear T2
          simp only [List.length_singleton] at T
          generalize w13.setCell ⟨w.heap.size, 0, none⟩ (.slice A6 (k + 1 + 1) c6) = w14 at T ⊢
          obtain ⟨A9, c9, e9, hc9, hC9⟩ := sL T.out.sn
          subst e9
          obtain ⟨ad9, eA9, h9⟩ := pG hC9 (k : Int) (by omega) (by rw [wL]; omega)
          subst eA9
          rw [Int.toNat_natCast, chS_at] at h9
          have hkS : ((k : Nat) : Int) < ((chS sg k).length : Int) := by rw [wL]; omega
          have HOS := aq T.out.sn
          clear hc9 hC9
          have HWS := aq (show wrap64 (sig sg k) = sig sg (k + 1) from by have := pO (sg := sg) (k := k) (s := 1) (by unfold sgS; rw [if_neg (show ¬ rd sg (k : Int) < 0 by omega)]); simpa using this)
          go_wp2_with (first | ((with_reducible refine zA (b := .append) (xs := #[.tmp 79, .tmp 86]) rfl ?_); rw [HWS.out]; at_builtin; refine Kd.xY (Kd.int .i64) (w0 := w) w.heap.size rfl (.tmp 79) (.tmp 86) 23 3 (.int .i64 0) 8 rfl Try.underlying23 sV rfl (by decide) (by omega) _ (chS sg k) (sig sg (k + 1)) [.int .i64 (sig sg (k + 1))] (fun _ => True) (fun _ => False) rfl rfl ?aP (fun _ hk => hk.elim) ?aF ?aO ?aB ?aS ?aL ?_; (case aP => exact rfl); (case aB => exact T.out.B); (case aF => exact (fun _ _ => trivial)); (case aO => exact HOS.out); (case aS => exact T.out.B.size); (case aL => rw [wL]; have := HKN.out; have := HN.out; omega); intro v1 w15 ho hb hg hat; have T2 := aq (T.out.growS ho hb hg hat); clear ho hb hg hat T HOS h9; have T := T2; clear T2))
          rw [HW1.out]
          have hnx := HLT.out
          exact ⟨⟨k + 1, by omega, rfl, aq (T.out.next (by unfold sgK; rw [if_neg (show ¬ rd sg (k : Int) < 0 by omega)]) (if_neg (by rw [ht]; decide)).symm (if_neg (by rw [ht]; decide)).symm)⟩, by simp only [intOf]; omega⟩
    obtain rfl : k = n := by omega
    have d1 := eq_false (show ¬ (k : Int) < (k : Int) by omega)
    obtain ⟨vv, vn, ve, hv0, hr1, hr0, hr2, hd⟩ := T.out.bx
    obtain ⟨Av, cv, e1, hcv, hC1⟩ := sL hr1
    obtain ⟨An, cn, e2, hcn, hC2⟩ := sL hr0
    obtain ⟨Ae, ce, e3, hce, hC3⟩ := sL hr2
    subst e1
    subst e2
    subst e3
    have HFC := aq (show FlatC (chF sg tu k) Av cv An cn Ae ce none 0 wr from ⟨hC1, hC2, hC3, Kd.C_nil _ _, hcn, hce⟩)
    have HV0 := aq hv0
    have HOK := aq (chF_ok (sg := sg) (tu := tu) k HN.out)
    have HRD := aq (fun (V : World) (hb : Below wr.heap.size wr V) => red15 (chF sg tu k) Av cv An cn Ae ce none 0 V (HFC.out.below hb) HOK.out (by show (chN sg tu k).length + 7 * (List.replicate (k + 1) vV).length ≤ 1900; rw [oC, List.length_replicate]; have := HN.out; omega))
    clear hv0 hr1 hr0 hr2 hd hcv hC1 hcn hC2 hce hC3
    have HV := aq (show wr.heap[w.heap.size]? = some (.cells (flA (chF sg tu k) Av cv An cn Ae ce none 0) 47 (0, 0)) from HV0.out)
    have HSN := aq T.out.sn
    have HB := aq T.out.B
    clear HV0 T HFC HOK
    go_upto_region 20 with (first | ((with_reducible refine gD (N := 89) rfl ?_); (with_reducible refine yY 47 ?_); refine ev_ld (g := w.heap.size) (t := 47) (n := 4) (c := flA (chF sg tu k) Av cv An cn Ae ce none 0) rfl HV.out (by kernel_rfl) (by kernel_rfl) rfl ?_) | (go_at_call 15; refine (HRD.out _ (Below.refl _ _)).mono ?_; rintro e w3 ⟨t, A1, c1', A2, c2, A3, c3, A4, c4, A5, c5, ro⟩; have e3 := ro.ret; subst e3; have RO := aq ro; have HB3 := aq (bt_ HB.out ro.B); have HSN3 := aq (Kd.zL HSN.out ro.B); clear HRD HV HB HSN ro; simp only [flA]))
    have CI := aq (chain_is (sg := sg) (tu := tu) k HN.out RO.out.run)
    have G3 := aq (heap_alloc_last w3 (.cells (flA (xS (chF sg tu k) t).1 A1 c1' A2 c2 A3 c3 A4 c4) 47))
    have B4 := aq (zY HB3.out (.cells (flA (xS (chF sg tu k) t).1 A1 c1' A2 c2 A3 c3 A4 c4) 47))
    have RL := aq (Kd.tV RO.out.list (.cells (flA (xS (chF sg tu k) t).1 A1 c1' A2 c2 A3 c3 A4 c4) 47))
    have HSN4 := aq (Kd.tV HSN3.out (.cells (flA (xS (chF sg tu k) t).1 A1 c1' A2 c2 A3 c3 A4 c4) 47))
    clear RO HB3 HSN3
    unfold flA at G3 B4 RL HSN4
    generalize (xS (chF sg tu k) t).1 = a at G3 B4 RL HSN4 CI ⊢
    generalize (xS (chF sg tu k) t).2 = ls at RL CI ⊢
    generalize w3.alloc (.cells #[.slice A1 a.vars.length c1', .slice A2 a.nodes.length c2, .slice A3 a.eqs.length c3, .slice A4 a.yM.length c4] 47) = W4 at G3 B4 RL HSN4 ⊢
    generalize w3.heap.size = g3 at G3 ⊢
    obtain ⟨x1, x2, x3, x4⟩ := CI.out
    rw [x3] at RL ⊢
    rw [x1, x2] at G3
    rw [x1, x2]
    have mm0 := (bq G3.out 0).trans (show _ = some (.slice A1 1 c1') from rfl)
    have mm2 := (bq G3.out 2).trans (show _ = some (.slice A3 ([] : List Int).length c3) from rfl)
    obtain ⟨A9, c9, e9, hc9, hC9⟩ := sL HSN4.out
    subst e9
    have HS9 := aq hC9
    have HWK := aq (show wrap64 ((k : Int) + 1) = (k : Int) + 1 by unfold wrap64; have := HN.out; omega)
    clear hc9 hC9 HSN4
    have mm2' : W4.cell? ⟨g3, 2, none⟩ = some (.slice A3 0 c3) := mm2
    clear mm2
    go_wp2_with (rw [HWK.out])
    have X3 := aq x3
    have X4 := aq x4
    clear x3 x4 x1 x2 mm0 mm2' G3 CI
    go_loopw [117] (fun i wr2 => ∃ j : Nat, j ≤ k + 1 ∧ i = .int .i64 (j : Int) ∧ zT (Below W4.heap.size W4 wr2)) (fun i _ => k + 1 - (intOf i).toNat)
    case atStart => exact ⟨0, by omega, rfl, ⟨Below.refl _ _⟩⟩
    case round =>
      obtain ⟨j, hj, rfl, HB⟩ := hrel
      by_cases hjl : j < k + 1
      · obtain ⟨gl, eA, l0, l1⟩ := tZ (Kd.zL RL.out HB.out) (i := (j : Int)) (by omega) (by rw [X3.out]; omega)
        cases eA
        rw [X4.out j (by omega), Int.toNat_natCast] at l0 l1
        have l0 : wr.cell? ⟨gl, j * 2, none⟩ = some (.int .i64 0) := l0
        have l1 : wr.cell? ⟨gl, j * 2 + 1, none⟩ = some (.int .i64 (sig sg j)) := l1
        obtain ⟨ad9, eA9, h9⟩ := pG (Kd.xZ HS9.out HB.out) (j : Int) (by omega) (by rw [wL]; omega)
        subst eA9
        rw [Int.toNat_natCast, chS_get (by omega)] at h9
        have hj2 : (j : Int) < ((chS sg k).length : Int) := by rw [wL]; omega
        have hj3 : (j : Int) < (k : Int) + 1 := by omega
        have HW := aq (show wrap64 ((j : Int) + 1) = (j : Int) + 1 by unfold wrap64; have := HN.out; omega)
        have HB2 := aq (zY HB.out (.cells #[.int .i64 0, .int .i64 (sig sg j)] 53))
        clear HB
        go_wp2
        have HX := aq (heap_alloc_last wr (.cells #[.int .i64 0, .int .i64 (sig sg j)] 53))
        obtain ⟨ad9', eA9, h9'⟩ := pG (Kd.xZ HS9.out HB2.out) (j : Int) (by omega) (by rw [wL]; omega)
        cases eA9
        rw [Int.toNat_natCast, chS_get (by omega)] at h9'
        refine xK (n := 7) (S := fun w' => w'.cell? ⟨wr.heap.size, 0, none⟩ = some (.int .i64 0) ∧ w'.cell? ⟨wr.heap.size, 1, none⟩ = some (.int .i64 (sig sg j)) ∧ w'.cell? (ad9.add j) = some (.int .i64 (sig sg j))) (ds := []) (msk 7 0) (by kernel_rfl) rfl rfl ⟨(bq HX.out 0).trans rfl, (bq HX.out 1).trans rfl, h9'⟩ (fun hHeld => ?_); refine yO ch6.tab25 ch6.bits25 (fun HT_ HW_ => ?_)
        refine tU 0 122 (msk 7 1) HT_.out HW_.out hHeld ?_ ?_ ?_
        rotate_left
        · rintro w' ⟨s0, s1, s2⟩; go_simp; with_reducible rfl
        refine pU 1 123 (msk 7 3) HT_.out ?_
        refine pU 2 124 (msk 7 7) HT_.out ?_
        refine pU 3 125 (msk 7 15) HT_.out ?_
        refine tU 4 126 (msk 7 31) HT_.out HW_.out hHeld ?_ ?_ ?_
        rotate_left
        · rintro w' ⟨s0, s1, s2⟩; go_simp; with_reducible rfl
        refine pU 5 127 (msk 7 63) HT_.out ?_
        refine pU 6 128 (msk 7 127) HT_.out ?_
        refine wX (yG HT_.out (by kernel_rfl)) ?_
        have HB3 := aq (yX HB2.out)
        go_wp2
        rw [HW.out]
        refine ⟨⟨_, _, _, .int .i64 ((j : Int) + 1), _, _, _, _, _, _, _, _, _, _, _, _, ⟨j + 1, by omega, rfl, HB3⟩, rfl⟩, ?_⟩
        · show k + 1 - (intOf (Value.int .i64 ((j : Int) + 1))).toNat < k + 1 - (intOf (Value.int .i64 (j : Int))).toNat
          simp only [intOf]
          omega
      · obtain rfl : j = k + 1 := by omega
        have d2 := eq_false (show ¬ ((k + 1 : Nat) : Int) < (k : Int) + 1 by omega)
        have HBW := aq (bt_ B4.out HB.out)
        clear hjl hj
        go_wp2
        refine bodyPost_ret (results_tmp rfl _ _ _) rfl ⟨rfl, HBW.out⟩
end Go.Proofs.Ytoonahobmlnflaa.PC
