/- Texts of this claim, one behind the other (Cp Shelf Up Ud Sr Us Nr). -/
import Derived.Test.YtoonahobmlnflaaVu12
import Derived.Test.YtoonahobmlnflaaVu6
import Derived.Test.YtoonahobmlnflaaVu11
import Derived.Shelf.SlGeneric
import Derived.Shelf.SlSortCmp.WholeK
import Derived.Shelf.SlicesG.Cmp
import Derived.Ground.SlsfProg
import Derived.Ground.SlgcProg
import Derived.Test.YtoonahobmlnflaaProg
import Derived.Test.YtoonahobmlnflaaVu10
import Derived.Shelf.SlSortCmp.NoneTotal
import Derived.Test.YtoonahobmlnflaaVu9
namespace Go.Proofs.Ytoonahobmlnflaa.PC
open Go.RowKit Go.Shelf Go.Proofs.YtoonahobmlnflaaW.PrintWords Go.Proofs.YtoonahobmlnflaaW.PrintLast Go.Proofs.YtoonahobmlnflaaW.PrintMore
set_option linter.unusedVariables false
set_option linter.unusedSimpArgs false
open Go.Lib
attribute [local go_sem high] eql32 neq32
def cp30.T6 : Bool × List (List Nat × List Nat) := (true, [([], []), ([], []), ([0, 1], [0, 1]), ([2], [2]), ([], []), ([], []), ([5], [5]), ([4, 6], [4, 6]), ([7], [7]), ([3, 8], [3, 8])])
def cp30.B6 : List Nat := [0, 0, 3, 7, 0, 0, 32, 112, 240, 511]
theorem cp30.tab6 : rtab .any (opsOf Try.f30 6) = cp30.T6 := by kernel_rfl
theorem cp30.bits6 : waitsOk cp30.T6.2 cp30.B6 = true := by kernel_rfl
def cp30.T11 : Bool × List (List Nat × List Nat) := (true, [([], []), ([], []), ([0, 1], [0, 1]), ([2], [2]), ([], []), ([], []), ([5], [5]), ([4, 6], [4, 6]), ([7], [7]), ([3, 8], [3, 8])])
def cp30.B11 : List Nat := [0, 0, 3, 7, 0, 0, 32, 112, 240, 511]
theorem cp30.tab11 : rtab .any (opsOf Try.f30 11) = cp30.T11 := by kernel_rfl
theorem cp30.bits11 : waitsOk cp30.T11.2 cp30.B11 = true := by kernel_rfl
set_option maxHeartbeats 4000000 in
set_option maxRecDepth 100000 in
theorem compact30 (g c : Nat) (cs : Array Value) (d : Array (Int × Int)) (w : World) (hx : w.heap[g]? = some (.cells cs 32 (0, 0))) (hr : Row2 cs d) (hc : d.size ≤ c) (hsz : d.size ≤ 4000) :
    Calls Try.prog 30 #[.slice (some ⟨g, 0, none⟩) d.size c] w fun e w' => ∃ cs', e = .returned (.slice (some ⟨g, 0, none⟩) (compactUpTo d d.size).length c) ∧ w'.heap[g]? = some (.cells cs' 32 (0, 0)) ∧ Row2 cs' (compactUpTo d d.size).toArray ∧ Below g w w' := by
  have hgt : Try.prog.eqGuardType Try.prog.depth 32 = false := by kernel_rfl
  have same : (∀ j, j < d.size → keeps d j = true) → compactUpTo d d.size = d.toList := fun h => by rw [compactUpTo_all d _ h, range_map_get]
  have HS := Aside0.mk same
  have HR := Aside0.mk hr
  clear same hr
  by_cases h2 : d.size < 2
  · have HX := Aside0.mk hx
    clear hx
    go_enter Try.func30, Try.ntmps30
    go_wp2
    go_ret
    have e := HS.out (fun j hj => keeps_lt_one d j (by omega))
    exact ⟨cs, by rw [e]; simp, HX.out, by rw [e]; exact HR.out, Below.refl _ _⟩
  · have HX0 := Aside0.mk hx
    clear hx
    go_enter Try.func30, Try.ntmps30
    go_wp2
    go_loopw [3] (fun i wr => ∃ kz : Int, i = .int .i64 kz ∧ 1 ≤ kz ∧ kz ≤ (d.size : Int) ∧ Aside0 (wr.heap[g]? = some (.cells cs 32 (0, 0))) ∧ Aside0 (Below g w wr) ∧ Aside0 (∀ j, j < kz.toNat → keeps d j = true)) (fun i _ => d.size - (intOf i).toNat)
    case atStart => exact ⟨1, rfl, by omega, by omega, HX0, ⟨Below.refl _ _⟩, ⟨fun j hj => keeps_lt_one d j (by simpa using hj)⟩⟩
    case round =>
      obtain ⟨kz, rfl, k1, kn, HX, HB, HK⟩ := hrel
      clear HX0
      by_cases hlt : kz < (d.size : Int)
      · have hw : wrap64 (kz - 1) = kz - 1 := by unfold wrap64; omega
        have HA0 := Aside0.mk (HR.out.a kz.toNat (by omega))
        have HA1 := Aside0.mk (HR.out.b kz.toNat (by omega))
        have HB0 := Aside0.mk (HR.out.a (wrap64 (kz - 1)).toNat (by omega))
        have HB1 := Aside0.mk (HR.out.b (wrap64 (kz - 1)).toNat (by omega))
        have hkp : keeps d kz.toNat = decide (d[kz.toNat]! ≠ d[(wrap64 (kz - 1)).toNat]!) := by
          exact keeps_at (by omega)
        generalize d[kz.toNat]! = x at HA0 HA1 hkp
        generalize d[(wrap64 (kz - 1)).toNat]! = y at HB0 HB1 hkp
        obtain ⟨x0, x1⟩ := x
        obtain ⟨y0, y1⟩ := y
        dsimp only at HA0 HA1 HB0 HB1
        have HKP := Aside0.mk hkp
        have HW := Aside0.mk hw
        have HLT := Aside0.mk hlt
        have HK1 := Aside0.mk k1
        have a0 := eq_true (show 0 ≤ kz by omega)
        have a1 := eq_true (show 0 ≤ wrap64 (kz - 1) by omega)
        have a2 := eq_true (show wrap64 (kz - 1) < (d.size : Int) by omega)
        replace hlt := eq_true hlt
        clear hkp hw k1 kn
        go_wp2
        refine start_ (n := 10) (S := fun w' => w'.cell? ⟨g, kz.toNat * 2, none⟩ = some (.int .i64 x0) ∧ w'.cell? ⟨g, kz.toNat * 2 + 1, none⟩ = some (.int .i64 x1) ∧ w'.cell? ⟨g, (wrap64 (kz - 1)).toNat * 2, none⟩ = some (.int .i64 y0) ∧ w'.cell? ⟨g, (wrap64 (kz - 1)).toNat * 2 + 1, none⟩ = some (.int .i64 y1)) (ds := []) (msk 10 0) (by kernel_rfl) rfl rfl ⟨(blk_cell (blk_drew HX.out) _).trans HA0.out, (blk_cell (blk_drew HX.out) _).trans HA1.out, (blk_cell (blk_drew HX.out) _).trans HB0.out, (blk_cell (blk_drew HX.out) _).trans HB1.out⟩ (fun hHeld => ?_); refine with_tabW cp30.tab6 cp30.bits6 (fun HT_ HW_ => ?_)
        refine pu_ 0 16 (msk 10 1) HT_.out ?_ ?_ ?_ ?_ ?_
        rotate_left
        · intro w'; go_simp; with_reducible rfl
        rotate_left
        · simp only [Act.put, sq, i64_w, i32_w]; rfl
        refine pu_ 1 17 (msk 10 3) HT_.out ?_ ?_ ?_ ?_ ?_
        rotate_left
        · intro w'; go_simp; with_reducible rfl
        rotate_left
        · simp only [Act.put, sq, i64_w, i32_w]; rfl
        refine pu_ 2 18 (msk 10 7) HT_.out ?_ ?_ ?_ ?_ ?_
        rotate_left
        · intro w'; go_simp; with_reducible rfl
        rotate_left
        · simp only [Act.put, sq, i64_w, i32_w]; rfl
        refine tk_ 3 19 (msk 10 15) HT_.out HW_.out hHeld ?_ ?_ ?_ ?_ ?_
        rotate_left
        · rintro w' ⟨s0, s1, s2, s3⟩; go_simp; with_reducible rfl
        rotate_left
        · simp only [Act.put, sq, i64_w, i32_w]; rfl
        refine pu_ 4 20 (msk 10 31) HT_.out ?_ ?_ ?_ ?_ ?_
        rotate_left
        · intro w'; go_simp; with_reducible rfl
        rotate_left
        · simp only [Act.put, sq, i64_w, i32_w]; rfl
        refine pu_ 5 21 (msk 10 63) HT_.out ?_ ?_ ?_ ?_ ?_
        rotate_left
        · intro w'; go_simp; with_reducible rfl
        rotate_left
        · simp only [Act.put, sq, i64_w, i32_w]; rfl
        refine pu_ 6 22 (msk 10 127) HT_.out ?_ ?_ ?_ ?_ ?_
        rotate_left
        · intro w'; go_simp; with_reducible rfl
        rotate_left
        · simp only [Act.put, sq, i64_w, i32_w]; rfl
        refine pu_ 7 23 (msk 10 255) HT_.out ?_ ?_ ?_ ?_ ?_
        rotate_left
        · intro w'; go_simp; with_reducible rfl
        rotate_left
        · simp only [Act.put, sq, i64_w, i32_w]; rfl
        refine tk_ 8 24 (msk 10 511) HT_.out HW_.out hHeld ?_ ?_ ?_ ?_ ?_
        rotate_left
        · rintro w' ⟨s0, s1, s2, s3⟩; go_simp; with_reducible rfl
        rotate_left
        · simp only [Act.put, sq, i64_w, i32_w]; rfl
        refine pu_ 9 25 (msk 10 1023) HT_.out ?_ ?_ ?_ ?_ ?_
        rotate_left
        · intro w'; go_simp; with_reducible rfl
        rotate_left
        · simp only [Act.put, sq, i64_w, i32_w]; rfl
        refine done_ (done_of HT_.out (by kernel_rfl)) ?_
        have HX2 := Aside0.mk (blk_drew HX.out)
        have HB2 := Aside0.mk (below_drew1 HB.out)
        generalize wr.drew = w2 at HX2 HB2 ⊢
        clear HA0 HA1 HB0 HB1 HX HB
        cases hq : eqK (x0, x1) (y0, y1) with
        | false =>
          clear a0 a1 a2
          have HKN := Aside0.mk (show keeps d kz.toNat = true by rw [HKP.out]; exact eqK_f hq)
          go_wp2
          refine ⟨⟨kz + 1, by rw [show wrap64 (kz + 1) = kz + 1 by have := HLT.out; have := HK1.out; unfold wrap64; omega], by have := HK1.out; omega, by have := HLT.out; omega, HX2, HB2, ⟨fun j hj => ?_⟩⟩, ?_⟩
          · by_cases e : j = kz.toNat
            · subst e; exact HKN.out
            · exact HK.out j (by have := HK1.out; omega)
          · rw [show wrap64 (kz + 1) = kz + 1 by have := HLT.out; have := HK1.out; unfold wrap64; omega]; have := HLT.out; have := HK1.out; simp only [intOf]; omega
        | true =>
          have HKN := Aside0.mk (show keeps d kz.toNat = false by rw [HKP.out]; exact eqK_t hq)
          have b1 := eq_true (show kz ≤ (d.size : Int) by have := HLT.out; omega)
          have b2 : (c = kz.toNat) = False := eq_false (by have := HLT.out; omega)
          have b3 : (kz.toNat = c) = False := eq_false (by have := HLT.out; omega)
          clear a1 a2
          go_wp2
          clear b1 b2 b3
          have HI0 := Aside0.mk (CompInv.start (d := d) HK.out HKN.out)
          go_loopw [3, 5] (fun s3 s5 wr => ∃ (kk k2 : Int) (cs1 : Array Value) (dk : Array (Int × Int)), s3 = .int .i64 kk ∧ s5 = .int .i64 k2 ∧ 1 ≤ k2 ∧ 0 ≤ kk ∧ kz + k2 ≤ (d.size : Int) ∧ Aside0 (wr.heap[g]? = some (.cells cs1 32 (0, 0))) ∧ Aside0 (Row2 cs1 dk) ∧ Aside0 (Below g w wr) ∧ Aside0 (CompInv d (kz + k2).toNat kk.toNat dk)) (fun _ s5 _ => d.size - (kz + intOf s5).toNat)
          case atStart => exact ⟨kz, 1, cs, d, rfl, rfl, by omega, by have := HK1.out; omega, by have := HLT.out; omega, HX2, HR, HB2, by rw [show (kz + 1).toNat = kz.toNat + 1 by have := HK1.out; omega]; exact HI0⟩
          case round =>
            obtain ⟨kk, k2, cs1, dk, rfl, rfl, q1, q0, q2, HX3, HR3, HB3, HI⟩ := hrel
            clear HX2 HB2 HI0 HK
            have HKK := Aside0.mk (show kk.toNat < (kz + k2).toNat from HI.out.lt)
            have HDS := Aside0.mk (show dk.size = d.size from HI.out.size)
            obtain ⟨mz, hmz⟩ : ∃ mz : Int, mz = ((d.size - kz.toNat : Nat) : Int) := ⟨_, rfl⟩
            by_cases hl2 : k2 < mz
            · have hw2 : wrap64 (k2 - 1) = k2 - 1 := by unfold wrap64; omega
              have HA0 := Aside0.mk (HR3.out.a (kz.toNat + k2.toNat) (by have := HK1.out; have := HDS.out; omega))
              have HA1 := Aside0.mk (HR3.out.b (kz.toNat + k2.toNat) (by have := HK1.out; have := HDS.out; omega))
              have HB0 := Aside0.mk (HR3.out.a (kz.toNat + (wrap64 (k2 - 1)).toNat) (by have := HK1.out; have := HDS.out; omega))
              have HB1 := Aside0.mk (HR3.out.b (kz.toNat + (wrap64 (k2 - 1)).toNat) (by have := HK1.out; have := HDS.out; omega))
              rw [HI.out.high _ (by have := HKK.out; have := HK1.out; omega), show (kz.toNat + k2.toNat) * 2 = kz.toNat * 2 + k2.toNat * 2 by omega] at HA0
              rw [HI.out.high _ (by have := HKK.out; have := HK1.out; omega), show (kz.toNat + k2.toNat) * 2 = kz.toNat * 2 + k2.toNat * 2 by omega] at HA1
              rw [HI.out.high _ (by have := HKK.out; have := HK1.out; omega), show (kz.toNat + (wrap64 (k2 - 1)).toNat) * 2 = kz.toNat * 2 + (wrap64 (k2 - 1)).toNat * 2 by omega] at HB0
              rw [HI.out.high _ (by have := HKK.out; have := HK1.out; omega), show (kz.toNat + (wrap64 (k2 - 1)).toNat) * 2 = kz.toNat * 2 + (wrap64 (k2 - 1)).toNat * 2 by omega] at HB1
              have hkp : keeps d (kz + k2).toNat = decide (d[kz.toNat + k2.toNat]! ≠ d[kz.toNat + (wrap64 (k2 - 1)).toNat]!) := by
                rw [show (kz + k2).toNat = kz.toNat + k2.toNat by have := HK1.out; omega]
                exact keeps_at (by omega)
              have hdx : d[(kz + k2).toNat]! = d[kz.toNat + k2.toNat]! := by rw [show (kz + k2).toNat = kz.toNat + k2.toNat by have := HK1.out; omega]
              generalize d[kz.toNat + k2.toNat]! = x' at HA0 HA1 hkp hdx
              generalize d[kz.toNat + (wrap64 (k2 - 1)).toNat]! = y' at HB0 HB1 hkp
              obtain ⟨u0, u1⟩ := x'
              obtain ⟨v0, v1⟩ := y'
              dsimp only at HA0 HA1 HB0 HB1
              have HKP2 := Aside0.mk hkp
              have HDX := Aside0.mk hdx
              have HW2 := Aside0.mk hw2
              have HL2 := Aside0.mk hl2
              have HMZ := Aside0.mk hmz
              have HQ1 := Aside0.mk q1
              have HQ2 := Aside0.mk q2
              have HQ0 := Aside0.mk q0
              have a1 := eq_true (show 0 ≤ k2 by omega)
              have a2 := eq_true (show 0 ≤ wrap64 (k2 - 1) by omega)
              have a3 := eq_true (show wrap64 (k2 - 1) < mz by omega)
              replace hl2 := eq_true hl2
              clear hkp hdx hw2 q1 q2 hmz
              rw [HMZ.out] at hl2 a3
              go_wp2
              refine start_ (n := 10) (S := fun w' => w'.cell? ⟨g, kz.toNat * 2 + k2.toNat * 2, none⟩ = some (.int .i64 u0) ∧ w'.cell? ⟨g, kz.toNat * 2 + k2.toNat * 2 + 1, none⟩ = some (.int .i64 u1) ∧ w'.cell? ⟨g, kz.toNat * 2 + (wrap64 (k2 - 1)).toNat * 2, none⟩ = some (.int .i64 v0) ∧ w'.cell? ⟨g, kz.toNat * 2 + (wrap64 (k2 - 1)).toNat * 2 + 1, none⟩ = some (.int .i64 v1)) (ds := []) (msk 10 0) (by kernel_rfl) rfl rfl ⟨(blk_cell (blk_drew HX3.out) _).trans HA0.out, (blk_cell (blk_drew HX3.out) _).trans HA1.out, (blk_cell (blk_drew HX3.out) _).trans HB0.out, (blk_cell (blk_drew HX3.out) _).trans HB1.out⟩ (fun hHeld => ?_); refine with_tabW cp30.tab11 cp30.bits11 (fun HT_ HW_ => ?_)
              refine pu_ 0 35 (msk 10 1) HT_.out ?_ ?_ ?_ ?_ ?_
              rotate_left
              · intro w'; go_simp; with_reducible rfl
              rotate_left
              · simp only [Act.put, sq, i64_w, i32_w]; rfl
              refine pu_ 1 36 (msk 10 3) HT_.out ?_ ?_ ?_ ?_ ?_
              rotate_left
              · intro w'; go_simp; with_reducible rfl
              rotate_left
              · simp only [Act.put, sq, i64_w, i32_w]; rfl
              refine pu_ 2 37 (msk 10 7) HT_.out ?_ ?_ ?_ ?_ ?_
              rotate_left
              · intro w'; go_simp; with_reducible rfl
              rotate_left
              · simp only [Act.put, sq, i64_w, i32_w]; rfl
              refine tk_ 3 38 (msk 10 15) HT_.out HW_.out hHeld ?_ ?_ ?_ ?_ ?_
              rotate_left
              · rintro w' ⟨s0, s1, s2, s3⟩; go_simp; with_reducible rfl
              rotate_left
              · simp only [Act.put, sq, i64_w, i32_w]; rfl
              refine pu_ 4 39 (msk 10 31) HT_.out ?_ ?_ ?_ ?_ ?_
              rotate_left
              · intro w'; go_simp; with_reducible rfl
              rotate_left
              · simp only [Act.put, sq, i64_w, i32_w]; rfl
              refine pu_ 5 40 (msk 10 63) HT_.out ?_ ?_ ?_ ?_ ?_
              rotate_left
              · intro w'; go_simp; with_reducible rfl
              rotate_left
              · simp only [Act.put, sq, i64_w, i32_w]; rfl
              refine pu_ 6 41 (msk 10 127) HT_.out ?_ ?_ ?_ ?_ ?_
              rotate_left
              · intro w'; go_simp; with_reducible rfl
              rotate_left
              · simp only [Act.put, sq, i64_w, i32_w]; rfl
              refine pu_ 7 42 (msk 10 255) HT_.out ?_ ?_ ?_ ?_ ?_
              rotate_left
              · intro w'; go_simp; with_reducible rfl
              rotate_left
              · simp only [Act.put, sq, i64_w, i32_w]; rfl
              refine tk_ 8 43 (msk 10 511) HT_.out HW_.out hHeld ?_ ?_ ?_ ?_ ?_
              rotate_left
              · rintro w' ⟨s0, s1, s2, s3⟩; go_simp; with_reducible rfl
              rotate_left
              · simp only [Act.put, sq, i64_w, i32_w]; rfl
              refine pu_ 9 44 (msk 10 1023) HT_.out ?_ ?_ ?_ ?_ ?_
              rotate_left
              · intro w'; go_simp; with_reducible rfl
              rotate_left
              · simp only [Act.put, sq, i64_w, i32_w]; rfl
              refine done_ (done_of HT_.out (by kernel_rfl)) ?_
              have HX4 := Aside0.mk (blk_drew HX3.out)
              have HB4 := Aside0.mk (below_drew1 HB3.out)
              have HBB := HB3
              generalize wr.drew = w4 at HX4 HB4 ⊢
              have hw5 : wrap64 (k2 + 1) = k2 + 1 := by have := HL2.out; have := HMZ.out; have := HQ1.out; unfold wrap64; omega
              have HW5 := Aside0.mk hw5
              clear hw5
              cases hq2 : eqK (u0, u1) (v0, v1) with
              | true =>
                have HKN2 := Aside0.mk (show keeps d (kz + k2).toNat = false by rw [HKP2.out]; exact eqK_t hq2)
                clear HA0 HA1 HB0 HB1 HX3 HB3
                go_wp2
                refine ⟨⟨kk, k2 + 1, cs1, dk, rfl, by rw [HW5.out], by have := HQ1.out; omega, by have := HQ0.out; omega, by have := HL2.out; have := HMZ.out; have := HLT.out; omega, HX4, HR3, HB4, ?_⟩, ?_⟩
                · rw [show (kz + (k2 + 1)).toNat = (kz + k2).toNat + 1 by have := HQ1.out; have := HK1.out; omega]
                  exact ⟨HI.out.skip HKN2.out⟩
                · have := HW5.out; have := HQ1.out; have := HK1.out; have := HQ2.out; have := HL2.out; have := HMZ.out; simp only [intOf]; omega
              | false =>
                have HKN2 := Aside0.mk (show keeps d (kz + k2).toNat = true by rw [HKP2.out]; exact eqK_f hq2)
                have z0 := (blk_cell HX4.out _).trans HA0.out
                have z1 := (blk_cell HX4.out _).trans HA1.out
                have hkn : kk < (d.size : Int) := by have := HKK.out; have := HQ0.out; have := HL2.out; have := HMZ.out; have := HK1.out; have := HLT.out; omega
                have HKN3 := Aside0.mk hkn
                have HPUT := Aside0.mk (HR3.out.put kk.toNat (by have := HDS.out; have := HQ0.out; omega) u0 u1)
                have HKEEP := Aside0.mk (HI.out.keep (by have := HL2.out; have := HMZ.out; have := HK1.out; have := HQ1.out; have := HLT.out; omega) HKN2.out)
                have b1 := eq_true HQ0.out
                have b2 := eq_true hkn
                clear HA0 HA1 HB0 HB1 HX3 HB3 hkn
                go_wp2_with (with_reducible refine gate_store 32 ?_; refine ev_store_at (g := g) (o := kk.toNat * 2) (t0 := 32) (c' := #[.int .i64 u0, .int .i64 u1]) (cur := cs1) rfl rfl HX4.out (by kernel_rfl) (by have := HR3.out.sz; have := HDS.out; have := HKN3.out; have := HQ0.out; simp; omega) (by kernel_rfl) rfl ?_; intro w5 hx5 ho5; have HX5 := Aside0.mk hx5; have HB5 := Aside0.mk (HB4.out.trans (ho5.below (Nat.le_refl _))); clear hx5 ho5 HX4 HB4)
                have hw6 : wrap64 (kk + 1) = kk + 1 := by have := HKN3.out; have := HQ0.out; unfold wrap64; omega
                go_wp2
                refine ⟨⟨kk + 1, k2 + 1, _, _, by rw [hw6], by rw [HW5.out], by have := HQ1.out; omega, by have := HQ0.out; omega, by have := HL2.out; have := HMZ.out; have := HLT.out; omega, HX5, HPUT, HB5, ?_⟩, ?_⟩
                · rw [show (kz + (k2 + 1)).toNat = (kz + k2).toNat + 1 by have := HQ1.out; have := HK1.out; omega, show (kk + 1).toNat = kk.toNat + 1 by have := HQ0.out; omega]
                  refine ⟨?_⟩
                  have := HKEEP.out
                  rwa [HDX.out] at this
                · have := HW5.out; have := HQ1.out; have := HK1.out; have := HQ2.out; have := HL2.out; have := HMZ.out; simp only [intOf]; omega
            · have HE := Aside0.mk (show (kz + k2).toNat = d.size by have := HLT.out; have := HK1.out; omega)
              have hI := HI.out
              rw [HE.out] at hI
              have HIE := Aside0.mk hI
              obtain ⟨cs2, hcl, hsz2, hfirst⟩ := run_clear40 g (kk.toNat * 2) (d.size - kk.toNat) (c - kk.toNat) cs1 wr 0 HX3.out (by have := HIE.out.lt; omega) (by have := HIE.out.lt; have := HR3.out.sz; have := HDS.out; omega)
              have HFIRST := Aside0.mk hfirst
              have HSZ2 := Aside0.mk hsz2
              clear hI hfirst hsz2
              have hkl := HIE.out.lt
              have HKL := Aside0.mk hkl
              have b0 := eq_true (show 0 ≤ kk from q0)
              have b1 := eq_true (show kk ≤ (d.size : Int) by omega)
              have b2 : (c = kk.toNat) = False := eq_false (by omega)
              have b3 : (kk.toNat = c) = False := eq_false (by omega)
              have b4 := eq_true (show kk ≤ (c : Int) by omega)
              have d2 := eq_false hl2
              rw [hmz] at d2
              clear q0 q1 q2 hmz hl2 hkl
              go_wp2
              go_ret
              have hlen := HIE.out.len
              have hE := HX3.out
              refine ⟨cs2, by rw [hlen]; rfl, setRow_heap wr g cs1 cs2 32 (0, 0) HX3.out, ?_, HB3.out.trans ((oneB_setRow wr g cs2).below (Nat.le_refl _))⟩
              refine Row2.first HR3.out _ (by have := HDS.out; have := HKL.out; omega) (fun j hj => HIE.out.low j (by omega)) HSZ2.out (fun i hi => HFIRST.out i (by omega))
      · obtain rfl : kz = (d.size : Int) := by omega
        clear k1 kn hlt
        go_wp2
        go_ret
        have e := HS.out (fun j hj => HK.out j (by simpa using hj))
        exact ⟨cs, by rw [e]; simp, HX.out, by rw [e]; exact HR.out, HB.out⟩
end Go.Proofs.Ytoonahobmlnflaa.PC
namespace Go.Proofs
open Go.Shelf
def Try.sortKey_ren : Go.Shelf.Ren := ⟨fun | 6 => 26 | 15 => 51 | 14 => 50 | 28 => 82 | 29 => 83 | 20 => 74 | 21 => 75 | 22 => 76 | 23 => 77 | 24 => 78 | 25 => 79 | 26 => 80 | 27 => 81 | 46 => 111 | 47 => 112 | 48 => 113 | 49 => 114 | 50 => 115 | 57 => 127 | n => n, fun | 22 => 40 | 24 => 32 | 25 => 76 | 3 => 3 | 39 => 104 | 0 => 0 | 53 => 140 | 55 => 142 | 4 => 4 | 46 => 134 | 45 => 133 | 50 => 128 | 5 => 5 | 9 => 9 | 66 => 161 | 70 => 165 | 76 => 176 | 77 => 177 | n => n, fun | n => n⟩
theorem Try.sortKey : Go.Proofs.SlLaysF0.n6 Try.prog Try.sortKey_ren := {
  mixed := by kernel_rfl
  f6 := ⟨Try.f26.name, by decide, Try.func26.trans (congrArg some (by kernel_rfl))⟩
  f14 := ⟨Try.f50.name, by decide, Try.func50.trans (congrArg some (by kernel_rfl))⟩
  f15 := Try.func51.trans (congrArg some (by kernel_rfl))
  f20 := ⟨Try.f74.name, by decide, Try.func74.trans (congrArg some (by kernel_rfl))⟩
  f21 := ⟨Try.f75.name, by decide, Try.func75.trans (congrArg some (by kernel_rfl))⟩
  f22 := ⟨Try.f76.name, by decide, Try.func76.trans (congrArg some (by kernel_rfl))⟩
  f23 := ⟨Try.f77.name, by decide, Try.func77.trans (congrArg some (by kernel_rfl))⟩
  f24 := ⟨Try.f78.name, by decide, Try.func78.trans (congrArg some (by kernel_rfl))⟩
  f25 := ⟨Try.f79.name, by decide, Try.func79.trans (congrArg some (by kernel_rfl))⟩
  f26 := ⟨Try.f80.name, by decide, Try.func80.trans (congrArg some (by kernel_rfl))⟩
  f27 := ⟨Try.f81.name, by decide, Try.func81.trans (congrArg some (by kernel_rfl))⟩
  f28 := Try.func82.trans (congrArg some (by kernel_rfl))
  f29 := Try.func83.trans (congrArg some (by kernel_rfl))
  f46 := ⟨Try.f111.name, by decide, Try.func111.trans (congrArg some (by kernel_rfl))⟩
  f47 := Try.func112.trans (congrArg some (by kernel_rfl))
  f48 := Try.func113.trans (congrArg some (by kernel_rfl))
  f49 := ⟨Try.f114.name, by decide, Try.func114.trans (congrArg some (by kernel_rfl))⟩
  f50 := ⟨Try.f115.name, by decide, Try.func115.trans (congrArg some (by kernel_rfl))⟩
  f57 := ⟨Try.f127.name, by decide, Try.func127.trans (congrArg some (by kernel_rfl))⟩
  t0 := Try.underlying0
  a0 := Try.isAgg0
  z0 := Try.sizeOf0
  v0 := Try.zeroValue0
  t3 := Try.underlying3
  a3 := Try.isAgg3
  z3 := Try.sizeOf3
  v3 := Try.zeroValue3
  t4 := Try.underlying4
  a4 := Try.isAgg4
  z4 := Try.sizeOf4
  v4 := Try.zeroValue4
  t5 := Try.underlying5
  a5 := Try.isAgg5
  z5 := Try.sizeOf5
  v5 := Try.zeroValue5
  t9 := Try.underlying9
  a9 := Try.isAgg9
  z9 := Try.sizeOf9
  v9 := Try.zeroValue9
  t22 := Try.underlying40
  a22 := Try.isAgg40
  z22 := Try.sizeOf40
  v22 := Try.zeroValue40
  t25 := Try.underlying76
  a25 := Try.isAgg76
  z25 := Try.sizeOf76
  v25 := Try.zeroValue76
  t39 := Try.underlying104
  a39 := Try.isAgg104
  z39 := Try.sizeOf104
  v39 := Try.zeroValue104
  t45 := Try.underlying133
  a45 := Try.isAgg133
  z45 := Try.sizeOf133
  v45 := Try.zeroValue133
  t46 := Try.underlying134
  a46 := Try.isAgg134
  z46 := Try.sizeOf134
  v46 := Try.zeroValue134
  t50 := Try.underlying128
  a50 := Try.isAgg128
  z50 := Try.sizeOf128
  v50 := Try.zeroValue128
  t53 := Try.underlying140
  a53 := Try.isAgg140
  z53 := Try.sizeOf140
  v53 := Try.zeroValue140
  t55 := Try.underlying142
  a55 := Try.isAgg142
  z55 := Try.sizeOf142
  v55 := Try.zeroValue142
  t66 := Try.underlying161
  a66 := Try.isAgg161
  z66 := Try.sizeOf161
  v66 := Try.zeroValue161
  t70 := Try.underlying165
  a70 := Try.isAgg165
  z70 := Try.sizeOf165
  v70 := Try.zeroValue165
  t76 := Try.underlying176
  a76 := Try.isAgg176
  z76 := Try.sizeOf176
  v76 := Try.zeroValue176
  t77 := Try.underlying177
  a77 := Try.isAgg177
  z77 := Try.sizeOf177
  v77 := Try.zeroValue177 }
def Try.cmpInt_ren : Go.Shelf.Ren := ⟨fun | 5 => 29 | 7 => 52 | n => n, fun | 22 => 3 | 3 => 3 | 4 => 4 | n => n, fun | n => n⟩
theorem Try.cmpInt : Go.Proofs.SlLaysC2.n5 Try.prog Try.cmpInt_ren := {
  mixed := by kernel_rfl
  f5 := ⟨Try.f29.name, by decide, Try.func29.trans (congrArg some (by kernel_rfl))⟩
  f7 := ⟨Try.f52.name, by decide, Try.func52.trans (congrArg some (by kernel_rfl))⟩
  t3 := Try.underlying3
  a3 := Try.isAgg3
  z3 := Try.sizeOf3
  v3 := Try.zeroValue3
  t4 := Try.underlying4
  a4 := Try.isAgg4
  z4 := Try.sizeOf4
  v4 := Try.zeroValue4
  t22 := Try.underlying3
  a22 := Try.isAgg3
  z22 := Try.sizeOf3
  v22 := Try.zeroValue3 }
open Go.RowKit Go.Lib in
theorem Try.cmp_Compare_int (x y : Int) (w : World) : Calls Try.prog 29 #[.int .i64 x, .int .i64 y] w fun e w' => e = .returned (.int .i64 (Lib.compareInt x y)) ∧ w' = w := AnyG.cmp_Compare_int Try.cmpInt x y w
end Go.Proofs
namespace Go.Proofs.Ytoonahobmlnflaa.PC
open Go.RowKit Go.Shelf Go.Proofs.YtoonahobmlnflaaW.PrintWords Go.Proofs.YtoonahobmlnflaaW.PrintLast Go.Proofs.YtoonahobmlnflaaW.PrintMore
set_option linter.unusedVariables false
set_option linter.unusedSimpArgs false
open Go.Lib Go.Sort
def up27.T1 : Bool × List (List Nat × List Nat) := (true, [([], []), ([0], [0]), ([], []), ([2], [2]), ([1, 3], [1, 3]), ([], []), ([5], [5]), ([], []), ([7], [7]), ([6, 8, 4], [6, 8]), ([4, 9], [4, 9]), ([10, 9], [10]), ([11, 11, 0, 1, 2, 3, 4, 5, 6, 7, 8, 9, 10, 11], [11])])
def up27.B1 : List Nat := [0, 1, 0, 4, 15, 0, 32, 0, 128, 511, 1023, 2047, 4095]
theorem up27.tab1 : rtab .any (opsOf Try.f27 1) = up27.T1 := by kernel_rfl
theorem up27.bits1 : waitsOk up27.T1.2 up27.B1 = true := by kernel_rfl
/-- Which of two numbers tells. -/
def orI (a b : Int) : Int := if a = 0 then b else a
set_option maxHeartbeats 4000000 in
set_option maxRecDepth 100000 in
theorem or28 (g : Nat) (a b : Int) (W : World) (hg : W.heap[g]? = some (.cells #[.int .i64 a, .int .i64 b] 3 (0, 0))) :
    Calls Try.prog 28 #[.slice (some ⟨g, 0, none⟩) 2 2] W fun e w' => e = .returned (.int .i64 (orI a b)) ∧ w' = W := by
  have z0 := (blk_cell hg 0).trans (show _ = some (.int .i64 a) from rfl)
  have z1 := (blk_cell hg 1).trans (show _ = some (.int .i64 b) from rfl)
  have HO := Aside0.mk (show orI a b = if a = 0 then b else a from rfl)
  generalize orI a b = o at HO ⊢
  clear hg
  go_enter Try.func28, Try.ntmps28
  go_wp2
  go_loopw [8] (fun i wr => ∃ j : Int, i = .int .i64 j ∧ wr = W ∧ (j = 0 ∨ j = 1 ∧ a = 0 ∨ j = 2 ∧ a = 0 ∧ b = 0)) (fun i _ => 2 - (intOf i).toNat)
  case atStart => exact ⟨0, rfl, rfl, .inl rfl⟩
  case round =>
    obtain ⟨j, rfl, rfl, h⟩ := hrel
    rcases h with rfl | ⟨rfl, ha⟩ | ⟨rfl, ha, hb⟩
    · by_cases ha : a = 0
      · subst ha
        go_wp2
        exact ⟨⟨1, rfl, by simp⟩, by simp [intOf]⟩
      · go_wp2
        go_ret
        exact ⟨by rw [HO.out, if_neg ha]; rfl, rfl⟩
    · by_cases hb : b = 0
      · subst hb
        go_wp2
        exact ⟨⟨2, rfl, by simp [ha]⟩, by simp [intOf]⟩
      · go_wp2
        go_ret
        exact ⟨by rw [HO.out, if_pos ha]; rfl, rfl⟩
    · go_wp2
      go_ret
      exact ⟨by rw [HO.out, if_pos ha, hb]; rfl, rfl⟩
/-- How two keys stand. -/
def cmpK (x y : Int × Int) : Int := orI (Lib.compareInt x.1 y.1) (Lib.compareInt x.2 y.2)
def encK (x : Int × Int) : List Value := [.int .i64 x.1, .int .i64 x.2]
set_option maxHeartbeats 4000000 in
set_option maxRecDepth 100000 in
theorem closure27 (x y : Int × Int) (W : World) : Calls Try.prog 27 #[.agg #[.int .i64 x.1, .int .i64 x.2], .agg #[.int .i64 y.1, .int .i64 y.2]] W fun e w' => e = .returned (.int .i64 (cmpK x y)) ∧ ∃ q os', w' = grow (W.drewN q) os' := by
  have hx := heap_alloc_last W (.cells #[.int .i64 x.1, .int .i64 x.2] 32)
  have hy := heap_alloc_last (W.alloc (.cells #[.int .i64 x.1, .int .i64 x.2] 32)) (.cells #[.int .i64 y.1, .int .i64 y.2] 32)
  rw [World.size_alloc] at hy
  have HX := Aside0.mk (blk_drew (blk_alloc hx (.cells #[.int .i64 y.1, .int .i64 y.2] 32)))
  have HY := Aside0.mk (blk_drew hy)
  clear hx hy
  go_enter Try.func27, Try.ntmps27
  go_wp2
  refine start_ (n := 13) (S := fun w' => w'.cell? ⟨W.heap.size, 0, none⟩ = some (.int .i64 x.1) ∧ w'.cell? ⟨W.heap.size, 1, none⟩ = some (.int .i64 x.2) ∧ w'.cell? ⟨W.heap.size + 1, 0, none⟩ = some (.int .i64 y.1) ∧ w'.cell? ⟨W.heap.size + 1, 1, none⟩ = some (.int .i64 y.2)) (ds := []) (msk 13 0) (by kernel_rfl) rfl rfl ⟨(blk_cell HX.out 0).trans rfl, (blk_cell HX.out 1).trans rfl, (blk_cell HY.out 0).trans rfl, (blk_cell HY.out 1).trans rfl⟩ (fun hHeld => ?_); refine with_tabW up27.tab1 up27.bits1 (fun HT_ HW_ => ?_)
  refine pu_ 0 5 (msk 13 1) HT_.out ?_ ?_ ?_ ?_ ?_
  rotate_left
  · intro w'; go_simp; with_reducible rfl
  rotate_left
  · simp only [Act.put, sq, i64_w, i32_w]; rfl
  refine tk_ 1 6 (msk 13 3) HT_.out HW_.out hHeld ?_ ?_ ?_ ?_ ?_
  rotate_left
  · rintro w' ⟨s0, s1, s2, s3⟩; go_simp; with_reducible rfl
  rotate_left
  · simp only [Act.put, sq, i64_w, i32_w]; rfl
  refine pu_ 2 7 (msk 13 7) HT_.out ?_ ?_ ?_ ?_ ?_
  rotate_left
  · intro w'; go_simp; with_reducible rfl
  rotate_left
  · simp only [Act.put, sq, i64_w, i32_w]; rfl
  refine tk_ 3 8 (msk 13 15) HT_.out HW_.out hHeld ?_ ?_ ?_ ?_ ?_
  rotate_left
  · rintro w' ⟨s0, s1, s2, s3⟩; go_simp; with_reducible rfl
  rotate_left
  · simp only [Act.put, sq, i64_w, i32_w]; rfl
  refine pu_ 5 10 (msk 13 47) HT_.out ?_ ?_ ?_ ?_ ?_
  rotate_left
  · intro w'; go_simp; with_reducible rfl
  rotate_left
  · simp only [Act.put, sq, i64_w, i32_w]; rfl
  refine tk_ 6 11 (msk 13 111) HT_.out HW_.out hHeld ?_ ?_ ?_ ?_ ?_
  rotate_left
  · rintro w' ⟨s0, s1, s2, s3⟩; go_simp; with_reducible rfl
  rotate_left
  · simp only [Act.put, sq, i64_w, i32_w]; rfl
  refine pu_ 7 12 (msk 13 239) HT_.out ?_ ?_ ?_ ?_ ?_
  rotate_left
  · intro w'; go_simp; with_reducible rfl
  rotate_left
  · simp only [Act.put, sq, i64_w, i32_w]; rfl
  refine tk_ 8 13 (msk 13 495) HT_.out HW_.out hHeld ?_ ?_ ?_ ?_ ?_
  rotate_left
  · rintro w' ⟨s0, s1, s2, s3⟩; go_simp; with_reducible rfl
  rotate_left
  · simp only [Act.put, sq, i64_w, i32_w]; rfl
  refine one_ (i := 4) (N := some 9) (msk 13 511) rfl rfl (one_of HT_.out (by kernel_rfl)) (by decide) (fun K hK => ?_)
  refine goes_ Try.func29 (by kernel_rfl) rfl #[.int .i64 x.1, .int .i64 y.1] (by rfl) rfl rfl (by (try simp only [List.map_toArray, List.map_cons, List.map_nil]); first | done | rfl) ?_
  refine (Try.cmp_Compare_int x.1 y.1 _).mono ?_
  rintro e w' ⟨rfl, rfl⟩
  refine ⟨_, rfl, ?_⟩
  refine hK.out _ _ ⟨(blk_cell HX.out 0).trans rfl, (blk_cell HX.out 1).trans rfl, (blk_cell HY.out 0).trans rfl, (blk_cell HY.out 1).trans rfl⟩ (fun hHeld => ?_)
  clear hK K
  refine norm_ (a' := ?_) ?_ ?_
  rotate_left
  · show Act.put _ (some 9) _ = _
    simp only [Act.put, sq, i64_w, i32_w]
    rfl
  refine one_ (i := 9) (N := some 14) (msk 13 1023) rfl rfl (one_of HT_.out (by kernel_rfl)) (by decide) (fun K hK => ?_)
  refine goes_ Try.func29 (by kernel_rfl) rfl #[.int .i64 x.2, .int .i64 y.2] (by rfl) rfl rfl (by (try simp only [List.map_toArray, List.map_cons, List.map_nil]); first | done | rfl) ?_
  refine (Try.cmp_Compare_int x.2 y.2 _).mono ?_
  rintro e w' ⟨rfl, rfl⟩
  refine ⟨_, rfl, ?_⟩
  refine hK.out _ _ ⟨(blk_cell HX.out 0).trans rfl, (blk_cell HX.out 1).trans rfl, (blk_cell HY.out 0).trans rfl, (blk_cell HY.out 1).trans rfl⟩ (fun hHeld => ?_)
  clear hK K
  refine norm_ (a' := ?_) ?_ ?_
  rotate_left
  · show Act.put _ (some 14) _ = _
    simp only [Act.put, sq, i64_w, i32_w]
    rfl
  refine one_ (i := 10) (N := some 15) (msk 13 2047) rfl rfl (one_of HT_.out (by kernel_rfl)) (by decide) (fun K hK => ?_)
  rw [if_pos (by rfl)]
  refine wp_value (v := .slice (some ⟨(((W.alloc (.cells #[.int .i64 x.1, .int .i64 x.2] 32)).alloc (.cells #[.int .i64 y.1, .int .i64 y.2] 32)).drew).heap.size, 0, none⟩) 2 2) (W1 := (((W.alloc (.cells #[.int .i64 x.1, .int .i64 x.2] 32)).alloc (.cells #[.int .i64 y.1, .int .i64 y.2] 32)).drew).alloc (.cells #[.int .i64 (Lib.compareInt x.1 y.1), .int .i64 (Lib.compareInt x.2 y.2)] 3)) ?hr ?_
  case hr => go_simp
  have HX3 := Aside0.mk (blk_alloc HX.out (.cells #[.int .i64 (Lib.compareInt x.1 y.1), .int .i64 (Lib.compareInt x.2 y.2)] 3))
  have HY3 := Aside0.mk (blk_alloc HY.out (.cells #[.int .i64 (Lib.compareInt x.1 y.1), .int .i64 (Lib.compareInt x.2 y.2)] 3))
  refine hK.out _ _ ⟨(blk_cell HX3.out 0).trans rfl, (blk_cell HX3.out 1).trans rfl, (blk_cell HY3.out 0).trans rfl, (blk_cell HY3.out 1).trans rfl⟩ (fun hHeld => ?_)
  clear hK K
  refine norm_ (a' := ?_) ?_ ?_
  rotate_left
  · show Act.put _ (some 15) _ = _
    simp only [Act.put, sq, i64_w, i32_w]
    rfl
  refine one_ (i := 11) (N := some 16) (msk 13 4095) rfl rfl (one_of HT_.out (by kernel_rfl)) (by decide) (fun K hK => ?_)
  refine goes_ Try.func28 (by kernel_rfl) rfl #[.slice (some ⟨(((W.alloc (.cells #[.int .i64 x.1, .int .i64 x.2] 32)).alloc (.cells #[.int .i64 y.1, .int .i64 y.2] 32)).drew).heap.size, 0, none⟩) 2 2] (by rfl) rfl rfl (by (try simp only [List.map_toArray, List.map_cons, List.map_nil]); first | done | rfl) ?_
  refine (or28 _ (Lib.compareInt x.1 y.1) (Lib.compareInt x.2 y.2) _ (heap_alloc_last _ _)).mono ?_
  rintro e w' ⟨rfl, rfl⟩
  refine ⟨_, rfl, ?_⟩
  refine hK.out _ _ ⟨(blk_cell HX3.out 0).trans rfl, (blk_cell HX3.out 1).trans rfl, (blk_cell HY3.out 0).trans rfl, (blk_cell HY3.out 1).trans rfl⟩ (fun hHeld => ?_)
  clear hK K
  refine norm_ (a' := ?_) ?_ ?_
  rotate_left
  · show Act.put _ (some 16) _ = _
    simp only [Act.put, sq, i64_w, i32_w]
    rfl
  refine pu_ 12 4 (msk 13 8191) HT_.out ?_ ?_ ?_ ?_ ?_
  rotate_left
  · intro w'; go_simp; with_reducible rfl
  rotate_left
  · simp only [Act.put, sq, i64_w, i32_w]; rfl
  refine done_ (done_of HT_.out (by kernel_rfl)) ?_
  go_wp2
  go_ret
  refine ⟨rfl, 1, #[.cells #[.int .i64 x.1, .int .i64 x.2] 32, .cells #[.int .i64 y.1, .int .i64 y.2] 32, .cells #[.int .i64 (Lib.compareInt x.1 y.1), .int .i64 (Lib.compareInt x.2 y.2)] 3], ?_⟩
  rw [alloc_eq_grow, alloc_eq_grow, alloc_eq_grow]
  show grow (grow (grow W.drew _) _) _ = _
  rw [grow_grow, grow_grow]
  rfl
end Go.Proofs.Ytoonahobmlnflaa.PC
namespace Go.Proofs.Ytoonahobmlnflaa.PC
open Go.RowKit Go.Shelf Go.Proofs.YtoonahobmlnflaaW.PrintWords Go.Proofs.YtoonahobmlnflaaW.PrintLast Go.Proofs.YtoonahobmlnflaaW.PrintMore
open Go.Lib
set_option linter.unusedVariables false
set_option linter.unusedSimpArgs false
/-- Keys in order: by the first number, then by the second. -/
def keyLt (x y : Int × Int) : Bool := decide (x.1 < y.1 ∨ x.1 = y.1 ∧ x.2 < y.2)
/-- The keys in order. -/
def sortK (d : Array (Int × Int)) : Array (Int × Int) := (d.toList.mergeSort fun x y => !keyLt y x).toArray
theorem sortK_size (d : Array (Int × Int)) : (sortK d).size = d.size := by simp [sortK]
/-- The keys that are needed, in the nodes' order. -/
def usedTo (nodes : List S37) (bs : List Bool) (j : Nat) : List S32 := ((List.range j).filter fun i : Nat => rdOf false bs (i : Int) && (rd_T37 nodes (i : Int)).f0 == 2).map fun i : Nat => (rd_T37 nodes (i : Int)).f5
theorem usedTo_succ (nodes : List S37) (bs : List Bool) (j : Nat) : usedTo nodes bs (j + 1) = usedTo nodes bs j ++ (if rdOf false bs (j : Int) && (rd_T37 nodes (j : Int)).f0 == 2 then [(rd_T37 nodes (j : Int)).f5] else []) := by
  unfold usedTo
  rw [List.range_succ, List.filter_append, List.map_append]
  congr 1
  by_cases h : (rdOf false bs (j : Int) && (rd_T37 nodes (j : Int)).f0 == 2) = true <;> simp [List.filter_cons, h]
theorem usedTo_len (nodes : List S37) (bs : List Bool) (j : Nat) : (usedTo nodes bs j).length ≤ j := by
  unfold usedTo
  rw [List.length_map]
  exact Nat.le_trans (List.length_filter_le _ _) (by simp)
def toP (x : S32) : Int × Int := (x.f0, x.f1)
def toS (x : Int × Int) : S32 := ⟨x.1, x.2⟩
/-- What Uses tells, but for the errors: the keys in order, each once. -/
def usesL (nodes : List S37) (root : Int) : List (Int × Int) :=
  if chkE nodes [root] = 0 then compactUpTo (sortK ((usedTo nodes (needB nodes [root]) nodes.length).map toP).toArray) ((usedTo nodes (needB nodes [root]) nodes.length).map toP).toArray.size else []
theorem chk_ok {nodes : List S37} {root : Int} (h : chkE nodes [root] = 0) : graphB nodes = true ∧ 0 ≤ root ∧ root < (nodes.length : Int) := by
  unfold chkE at h
  split at h
  · rename_i hc
    simp only [Bool.and_eq_true, List.any_cons, List.any_nil, Bool.or_false, Bool.not_eq_true'] at hc
    refine ⟨hc.1, ?_⟩
    have := hc.2
    unfold outN at this
    simp at this
    omega
  · omega
theorem chk_or (nodes : List S37) (l : List Int) : chkE nodes l = 0 ∨ chkE nodes l = 170 := by
  unfold chkE; split
  · exact .inl rfl
  · exact .inr rfl
/-! ### in order, each once -/
theorem keyLt_trans {x y z : Int × Int} (h1 : keyLt x y = true) (h2 : keyLt y z = true) : keyLt x z = true := by simp [keyLt] at *; omega
theorem keyLt_irrefl (x : Int × Int) : keyLt x x = false := by simp [keyLt]
theorem keyLt_tot {x y : Int × Int} (h1 : keyLt x y = false) (h : x ≠ y) : keyLt y x = true := by
  by_cases h2 : keyLt y x = true
  · exact h2
  · exfalso
    apply h
    simp [keyLt] at *
    exact Prod.ext (by omega) (by omega)
theorem sort_pair (l : List (Int × Int)) : (l.mergeSort fun x y => !keyLt y x).Pairwise (fun x y => keyLt y x = false) := by
  have h := List.pairwise_mergeSort (le := fun x y : Int × Int => !keyLt y x) (fun a b c h1 h2 => by simp [keyLt] at *; omega) (fun a b => by simp [keyLt]; omega) l
  exact h.imp (fun h => by simpa using h)
/-- Neighbours that are the same are struck: what stays of a row in order goes up, and holds the same keys. -/
theorem compact_up (d : Array (Int × Int)) (hd : ∀ i j, i < j → j < d.size → keyLt d[j]! d[i]! = false) : ∀ m, m ≤ d.size → (compactUpTo d m).Pairwise (fun x y => keyLt x y = true) ∧ (∀ k, k ∈ compactUpTo d m ↔ ∃ i, i < m ∧ d[i]! = k) := by
  intro m
  induction m with
  | zero => intro _; exact ⟨by simp [compactUpTo], fun k => by simp [compactUpTo]⟩
  | succ m ih =>
    intro hm
    obtain ⟨h1, h2⟩ := ih (by omega)
    rw [compactUpTo_succ]
    cases hk : keeps d m with
    | false =>
      simp only [Bool.false_eq_true, if_false, List.append_nil]
      refine ⟨h1, fun k => ?_⟩
      rw [h2 k]
      constructor
      · rintro ⟨i, hi, e⟩; exact ⟨i, by omega, e⟩
      · rintro ⟨i, hi, e⟩
        by_cases him : i = m
        · subst him
          unfold keeps at hk
          simp at hk
          exact ⟨i - 1, by omega, by rw [← hk.2]; exact e⟩
        · exact ⟨i, by omega, e⟩
    | true =>
      simp only [if_true]
      refine ⟨List.pairwise_append.2 ⟨h1, List.pairwise_singleton _ _, fun x hx y hy => ?_⟩, fun k => ?_⟩
      · obtain rfl : y = d[m]! := by simpa using hy
        obtain ⟨i, hi, rfl⟩ := (h2 x).1 hx
        have hle := hd i m hi (by omega)
        by_cases e : d[i]! = d[m]!
        · exfalso
          have hm0 : m ≠ 0 := by omega
          unfold keeps at hk
          simp [hm0] at hk
          -- between them all are the same
          have ha : keyLt d[m]! d[m - 1]! = false := hd (m - 1) m (by omega) (by omega)
          have hb : i = m - 1 ∨ keyLt d[m - 1]! d[i]! = false := by
            rcases Nat.lt_or_ge i (m - 1) with h | h
            · exact .inr (hd i (m - 1) h (by omega))
            · exact .inl (by omega)
          rcases hb with rfl | hb
          · exact hk e.symm
          · rw [e] at hb
            have := keyLt_tot ha hk
            rw [this] at hb
            cases hb
        · have := keyLt_tot hle (fun h => e h.symm)
          exact this
      · rw [List.mem_append, h2 k]
        constructor
        · rintro (⟨i, hi, e⟩ | h)
          · exact ⟨i, by omega, e⟩
          · exact ⟨m, by omega, (show k = d[m]! by simpa using h).symm⟩
        · rintro ⟨i, hi, e⟩
          by_cases him : i = m
          · subst him; exact .inr (by simp [e])
          · exact .inl ⟨i, by omega, e⟩
/-- The keys of the nodes that are needed. -/
def keysOf (nodes : List S37) (root : Int) : List (Int × Int) := (usedTo nodes (needB nodes [root]) nodes.length).map toP
theorem usesL_spec {nodes : List S37} {root : Int} (h : chkE nodes [root] = 0) : (usesL nodes root).Pairwise (fun x y => keyLt x y = true) ∧ ∀ k, k ∈ usesL nodes root ↔ k ∈ keysOf nodes root := by
  unfold usesL
  rw [if_pos h]
  change (compactUpTo (sortK (keysOf nodes root).toArray) (keysOf nodes root).toArray.size).Pairwise _ ∧ ∀ k, k ∈ compactUpTo (sortK (keysOf nodes root).toArray) (keysOf nodes root).toArray.size ↔ _
  generalize keysOf nodes root = l
  have hp := List.mergeSort_perm l (fun x y : Int × Int => !keyLt y x)
  have hs := sort_pair l
  have e : sortK l.toArray = (l.mergeSort fun x y => !keyLt y x).toArray := rfl
  rw [e]
  generalize (l.mergeSort fun x y : Int × Int => !keyLt y x) = t at hp hs
  have hlen : l.toArray.size = t.toArray.size := by simpa using hp.length_eq.symm
  rw [hlen]
  have hget : ∀ i (hi : i < t.length), t.toArray[i]! = t[i] := fun i hi => by simp [Array.getElem!_eq_getD, Array.getD, hi]
  have hu := compact_up t.toArray (fun i j hij hj => by
    have hj' : j < t.length := by simpa using hj
    rw [hget i (by omega), hget j hj']
    exact List.pairwise_iff_getElem.1 hs i j (by omega) hj' hij) t.toArray.size (Nat.le_refl _)
  refine ⟨hu.1, fun k => ?_⟩
  rw [hu.2 k, ← hp.mem_iff]
  constructor
  · rintro ⟨i, hi, e⟩
    have hi' : i < t.length := by simpa using hi
    rw [← e, hget i hi']
    exact List.getElem_mem _
  · intro hk
    obtain ⟨i, hi, e⟩ := List.mem_iff_getElem.1 hk
    exact ⟨i, by simpa using hi, by rw [hget i hi]; exact e⟩
/-! ### the next one -/
/-- The least key that is told, behind the last one that was told. -/
def bestK (last : Option (Int × Int)) (b k : Int × Int) : Int × Int := if (last.any fun x => !keyLt x k) then b else if b.1 < 0 ∨ keyLt k b = true then k else b
def bestS (nodes : List S37) (bs : List Bool) (last : Option (Int × Int)) (b : Int × Int) (i : Nat) : Int × Int :=
  if rdOf false bs (i : Int) && (rd_T37 nodes (i : Int)).f0 == 2 then bestK last b (toP (rd_T37 nodes (i : Int)).f5) else b
def bestTo (nodes : List S37) (bs : List Bool) (last : Option (Int × Int)) (j : Nat) : Int × Int := (List.range j).foldl (bestS nodes bs last) (-1, 0)
theorem bestTo_succ (nodes : List S37) (bs : List Bool) (last : Option (Int × Int)) (j : Nat) : bestTo nodes bs last (j + 1) = bestS nodes bs last (bestTo nodes bs last j) j := by
  unfold bestTo; rw [List.range_succ, List.foldl_append]; rfl
theorem bestTo_keys (nodes : List S37) (bs : List Bool) (last : Option (Int × Int)) (j : Nat) : bestTo nodes bs last j = ((usedTo nodes bs j).map toP).foldl (bestK last) (-1, 0) := by
  induction j with
  | zero => rfl
  | succ j ih =>
    rw [bestTo_succ, usedTo_succ, ih]
    unfold bestS
    split
    · simp [*]
    · simp [*]
theorem snoc_ind {α : Type} {P : List α → Prop} (h0 : P []) (h1 : ∀ l a, P l → P (l ++ [a])) (l : List α) : P l := by
  have key : ∀ n (l : List α), l.length = n → P l := by
    intro n
    induction n with
    | zero => intro l hl; obtain rfl := List.eq_nil_of_length_eq_zero hl; exact h0
    | succ n ih =>
      intro l hl
      have hne : l ≠ [] := fun e => by rw [e] at hl; simp at hl
      rw [← List.dropLast_concat_getLast hne]
      exact h1 _ _ (ih _ (by rw [List.length_dropLast, hl]; rfl))
  exact key _ l rfl
/-- Which is the least behind the last one. -/
theorem best_fold (last : Option (Int × Int)) (l : List (Int × Int)) (hl : ∀ k ∈ l, 0 ≤ k.1) :
    (l.foldl (bestK last) (-1, 0) = (-1, 0) ∧ ∀ k ∈ l, (last.any fun x => !keyLt x k) = true) ∨
    ((l.foldl (bestK last) (-1, 0)) ∈ l ∧ (last.any fun x => !keyLt x (l.foldl (bestK last) (-1, 0))) = false ∧ ∀ k ∈ l, (last.any fun x => !keyLt x k) = false → keyLt k (l.foldl (bestK last) (-1, 0)) = false) := by
  refine snoc_ind (P := fun l : List (Int × Int) => (∀ k ∈ l, (0 : Int) ≤ k.1) → (l.foldl (bestK last) (-1, 0) = (-1, 0) ∧ ∀ k ∈ l, (last.any fun x => !keyLt x k) = true) ∨ ((l.foldl (bestK last) (-1, 0)) ∈ l ∧ (last.any fun x => !keyLt x (l.foldl (bestK last) (-1, 0))) = false ∧ ∀ k ∈ l, (last.any fun x => !keyLt x k) = false → keyLt k (l.foldl (bestK last) (-1, 0)) = false)) ?_ ?_ l hl
  · intro _; left; exact ⟨rfl, fun k hk => by cases hk⟩
  · intro l a ih hl
    rw [List.foldl_append, List.foldl_cons, List.foldl_nil]
    have ha := hl a (by simp)
    specialize ih (fun k hk => hl k (by simp [hk]))
    generalize l.foldl (bestK last) (-1, 0) = b at ih
    unfold bestK
    by_cases h1 : (last.any fun x => !keyLt x a) = true
    · rw [if_pos h1]
      rcases ih with ⟨rfl, h⟩ | ⟨h2, h3, h4⟩
      · left
        refine ⟨rfl, fun k hk => ?_⟩
        rcases List.mem_append.1 hk with hk | hk
        · exact h k hk
        · obtain rfl : k = a := by simpa using hk
          exact h1
      · right
        refine ⟨List.mem_append.2 (.inl h2), h3, fun k hk hn => ?_⟩
        rcases List.mem_append.1 hk with hk | hk
        · exact h4 k hk hn
        · obtain rfl : k = a := by simpa using hk
          rw [h1] at hn; cases hn
    · rw [if_neg h1]
      have h1' : (last.any fun x => !keyLt x a) = false := by simpa using h1
      rcases ih with ⟨rfl, h⟩ | ⟨h2, h3, h4⟩
      · right
        rw [if_pos (.inl (by decide))]
        refine ⟨by simp, h1', fun k hk hn => ?_⟩
        rcases List.mem_append.1 hk with hk | hk
        · rw [h k hk] at hn; cases hn
        · obtain rfl : k = a := by simpa using hk
          exact keyLt_irrefl _
      · right
        have hb0 : ¬ b.1 < 0 := by have := hl b (by simp [h2]); omega
        by_cases h5 : keyLt a b = true
        · rw [if_pos (.inr h5)]
          refine ⟨by simp, h1', fun k hk hn => ?_⟩
          rcases List.mem_append.1 hk with hk | hk
          · have := h4 k hk hn
            simp [keyLt] at *; omega
          · obtain rfl : k = a := by simpa using hk
            exact keyLt_irrefl _
        · rw [if_neg (by simp [hb0, h5])]
          refine ⟨List.mem_append.2 (.inl h2), h3, fun k hk hn => ?_⟩
          rcases List.mem_append.1 hk with hk | hk
          · exact h4 k hk hn
          · obtain rfl : k = a := by simpa using hk
            simpa using h5
/-- What is found behind the first m keys in order is the next one. -/
theorem best_next (L l : List (Int × Int)) (hL : L.Pairwise (fun x y => keyLt x y = true)) (hm : ∀ k, k ∈ L ↔ k ∈ l) (hl : ∀ k ∈ l, 0 ≤ k.1) (m : Nat) (hmL : m ≤ L.length) :
    l.foldl (bestK (L.take m).getLast?) (-1, 0) = (L[m]?).getD (-1, 0) := by
  have hlast : ∀ k ∈ L, ((L.take m).getLast?.any fun x => !keyLt x k) = true ↔ ∃ i, i < m ∧ L[i]? = some k := fun k hk => by
    rcases Nat.eq_zero_or_pos m with rfl | hpos
    · simp
    · have e : (L.take m).getLast? = some (L[m - 1]'(by omega)) := by
        rw [List.getLast?_eq_getElem?, List.length_take, Nat.min_eq_left hmL, List.getElem?_take_of_lt (by omega), List.getElem?_eq_getElem (by omega)]
      rw [e]
      obtain ⟨i, hi, rfl⟩ := List.mem_iff_getElem.1 hk
      simp only [Option.any_some, Bool.not_eq_true']
      constructor
      · intro h
        refine ⟨i, ?_, List.getElem?_eq_getElem hi⟩
        rcases Nat.lt_or_ge i m with h1 | h1
        · exact h1
        · have := List.pairwise_iff_getElem.1 hL (m - 1) i (by omega) hi (by omega)
          rw [this] at h; cases h
      · rintro ⟨j, hj, he⟩
        have hjl : j < L.length := by omega
        rw [List.getElem?_eq_getElem hjl] at he
        injection he with he
        rw [← he]
        rcases Nat.lt_or_ge j (m - 1) with h1 | h1
        · have h3 := List.pairwise_iff_getElem.1 hL j (m - 1) hjl (by omega) h1
          cases h2 : keyLt (L[m - 1]'(by omega)) (L[j]'hjl) with
          | false => rfl
          | true => have := keyLt_trans h3 h2; rw [keyLt_irrefl] at this; cases this
        · have : j = m - 1 := by omega
          subst this
          exact keyLt_irrefl _
  rcases best_fold (L.take m).getLast? l hl with ⟨h1, h2⟩ | ⟨h1, h2, h3⟩
  · rw [h1]
    rcases Nat.lt_or_ge m L.length with h | h
    · exfalso
      have hk := List.getElem_mem h
      obtain ⟨i, hi, he⟩ := (hlast _ hk).1 (h2 _ ((hm _).1 hk))
      rw [List.getElem?_eq_getElem (by omega)] at he
      injection he with he
      have := List.pairwise_iff_getElem.1 hL i m (by omega) h hi
      rw [he, keyLt_irrefl] at this
      cases this
    · rw [List.getElem?_eq_none h]; rfl
  · generalize l.foldl (bestK (L.take m).getLast?) (-1, 0) = b at h1 h2 h3
    have hb := (hm b).2 h1
    obtain ⟨i, hi, rfl⟩ := List.mem_iff_getElem.1 hb
    have him : m ≤ i := by
      rcases Nat.lt_or_ge i m with h | h
      · have := (hlast _ hb).2 ⟨i, h, List.getElem?_eq_getElem hi⟩
        rw [this] at h2; cases h2
      · exact h
    have hmlt : m < L.length := by omega
    rw [List.getElem?_eq_getElem hmlt]
    simp only [Option.getD_some]
    rcases Nat.eq_or_lt_of_le him with h | h
    · subst h; rfl
    · exfalso
      have hk := List.getElem_mem hmlt
      have hno : ((L.take m).getLast?.any fun x => !keyLt x L[m]) = false := by
        cases hx : ((L.take m).getLast?.any fun x => !keyLt x L[m]) with
        | false => rfl
        | true =>
          obtain ⟨j, hj, he⟩ := (hlast _ hk).1 hx
          rw [List.getElem?_eq_getElem (by omega)] at he
          injection he with he
          have := List.pairwise_iff_getElem.1 hL j m (by omega) hmlt hj
          rw [he, keyLt_irrefl] at this
          cases this
      have h4 := h3 _ ((hm _).1 hk) hno
      have h5 := List.pairwise_iff_getElem.1 hL m i hmlt hi h
      rw [h5] at h4; cases h4
theorem keys_nonneg {nodes : List S37} {root : Int} (h : chkE nodes [root] = 0) : ∀ k ∈ keysOf nodes root, 0 ≤ k.1 := fun k hk => by
  obtain ⟨hg, _⟩ := chk_ok h
  unfold keysOf at hk
  obtain ⟨x, hx, rfl⟩ := List.mem_map.1 hk
  unfold usedTo at hx
  obtain ⟨i, hi, rfl⟩ := List.mem_map.1 hx
  obtain ⟨hi, hk2⟩ := List.mem_filter.1 hi
  rw [List.mem_range] at hi
  rw [Bool.and_eq_true, beq_iff_eq] at hk2
  unfold graphB at hg
  rw [Bool.and_eq_true] at hg
  have h1 := hg.1
  unfold okTo at h1
  rw [List.all_eq_true] at h1
  have h2 := h1 i (List.mem_range.2 hi)
  unfold okN at h2
  simp only [Bool.and_eq_true] at h2
  obtain ⟨⟨⟨⟨⟨_, _⟩, _⟩, _⟩, h5⟩, _⟩ := h2
  rw [hk2.2] at h5
  simp at h5
  exact h5.1.1
/-- Behind the first m keys the next one is found. -/
theorem best_spec {nodes : List S37} {root : Int} (h : chkE nodes [root] = 0) (m : Nat) (hm : m ≤ (usesL nodes root).length) :
    bestTo nodes (needB nodes [root]) ((usesL nodes root).take m).getLast? nodes.length = ((usesL nodes root)[m]?).getD (-1, 0) := by
  obtain ⟨h1, h2⟩ := usesL_spec h
  rw [bestTo_keys]
  exact best_next _ _ h1 h2 (keys_nonneg h) m hm
theorem usesL_nonneg {nodes : List S37} {root : Int} (h : chkE nodes [root] = 0) : ∀ k ∈ usesL nodes root, 0 ≤ k.1 := fun k hk => keys_nonneg h k (((usesL_spec h).2 k).1 hk)
end Go.Proofs.Ytoonahobmlnflaa.PC
namespace Go.Proofs.Ytoonahobmlnflaa.PC
open Go.RowKit Go.Shelf Go.Proofs.YtoonahobmlnflaaW.PrintWords Go.Proofs.YtoonahobmlnflaaW.PrintLast Go.Proofs.YtoonahobmlnflaaW.PrintMore
open Go.Lib Go.Sort
set_option linter.unusedVariables false
set_option linter.unusedSimpArgs false
theorem ltK (x y : Int × Int) : ltOf cmpK x y = keyLt x y := by
  unfold ltOf cmpK orI Lib.compareInt keyLt
  by_cases h1 : x.1 < y.1
  · simp [h1]
  · by_cases h2 : y.1 < x.1
    · have : ¬ x.1 = y.1 := by omega
      simp [h1, h2, this]
    · have : x.1 = y.1 := by omega
      by_cases h3 : x.2 < y.2
      · simp [this, h3]
      · by_cases h4 : y.2 < x.2 <;> simp [this, h3, h4]
theorem swoK : SWO (ltOf cmpK) where
  irrefl x := by rw [ltK]; simp [keyLt]
  trans x y z h1 h2 := by rw [ltK] at *; simp [keyLt] at *; omega
  ntrans x y z h1 h2 := by rw [ltK] at *; simp [keyLt] at *; omega
theorem totK (x y : Int × Int) (h1 : ltOf cmpK x y = false) (h2 : ltOf cmpK y x = false) : x = y := by
  rw [ltK] at *
  simp [keyLt] at *
  exact Prod.ext (by omega) (by omega)
theorem row2_holds {W : World} {g : Nat} {cs : Array Value} {d : Array (Int × Int)} (hx : W.heap[g]? = some (.cells cs 32 (0, 0))) (hr : Row2 cs d) : HoldsK encK 2 W g 0 d := fun t ht => by
  rw [size_flatK] at ht
  refine ⟨?_, blk_frozen hx _⟩
  refine (blk_cell hx _).trans ?_
  rw [get_flatK _ _ _ _ ht, Nat.zero_add]
  have hj : t / 2 < d.size := by omega
  rcases (show t % 2 = 0 ∨ t % 2 = 1 by omega) with h | h
  · rw [h, show t = t / 2 * 2 by omega, hr.a _ hj, show t / 2 * 2 / 2 = t / 2 by omega]; rfl
  · rw [h, show t = t / 2 * 2 + 1 by omega, hr.b _ hj, show (t / 2 * 2 + 1) / 2 = t / 2 by omega]; rfl
theorem holds_row2 {W : World} {g : Nat} {cs : Array Value} {d : Array (Int × Int)} (hx : W.heap[g]? = some (.cells cs 32 (0, 0))) (h : HoldsK encK 2 W g 0 d) : Row2 cs d := by
  have key : ∀ j c, j < d.size → c < 2 → cs[j * 2 + c]? = some (encK d[j]!)[c]! := fun j c hj hc => by
    have h1 := (h.cell hj hc).1
    rw [Nat.zero_add] at h1
    exact (blk_cell hx _).symm.trans h1
  refine ⟨?_, fun j hj => key j 0 hj (by omega), fun j hj => key j 1 hj (by omega)⟩
  rcases Nat.eq_zero_or_pos d.size with h0 | h0
  · omega
  · have := (Array.getElem?_eq_some_iff.1 (key (d.size - 1) 1 (by omega) (by omega))).1
    omega
theorem sortK_eq (d : Array (Int × Int)) : (d.toList.mergeSort fun x y => !(ltOf cmpK) y x).toArray = sortK d := by
  unfold sortK
  congr 2
  funext x y
  rw [ltK]
theorem sort26 (g cap : Nat) (cs : Array Value) (d : Array (Int × Int)) (W : World) (hx : W.heap[g]? = some (.cells cs 32 (0, 0))) (hr : Row2 cs d) (hsz : d.size ≤ 4000) :
    Calls Try.prog 26 #[.slice (some ⟨g, 0, none⟩) d.size cap, .func (.func 27) #[] #[]] W fun e w' => e = .returned (.tuple #[]) ∧ ∃ cs', w'.heap[g]? = some (.cells cs' 32 (0, 0)) ∧ Row2 cs' (sortK d) ∧ Below g W w' := by
  have eg : ∀ args w, (callFunc 27 args).run Try.prog w = .ok (.enter 27 args) w := enters_of Try.func27 (by kernel_rfl) rfl
  have hcon := AnyQ.slices_SortFunc_total Try.sortKey 2 Try.isAgg32 Try.sizeOf32 encK (fun _ => rfl) (fun x v hv => by simp [encK] at hv; rcases hv with rfl | rfl <;> rfl) cmpK swoK 27 #[] g 0 cap d W eg (fun _ _ _ _ x y => closure27 x y _) (row2_holds hx hr) (blk_lt hx) (by omega) totK
  rw [sortK_eq] at hcon
  change Calls Try.prog 26 _ _ _ at hcon
  refine hcon.mono ?_
  rintro e w' ⟨rfl, n, os, rfl⟩
  refine ⟨rfl, ?_⟩
  have hg := blk_lt hx
  have hb : (sortWorldK encK 2 W g 0 n (sortK d) os).heap[g]? = some (.cells (putCells id 0 (flatK encK 2 (sortK d)) cs) 32 (0, 0)) := by
    unfold sortWorldK putRowK
    rw [heap_grow_old _ _ (by simpa using hg)]
    simp [putRow, mapBlock, Sort.ahead, Array.getElem?_modify, hx, onCells]
  have hh : HoldsK encK 2 (sortWorldK encK 2 W g 0 n (sortK d) os) g 0 (sortK d) := holdsK_sortWorldK encK 2 W g 0 n d (sortK d) os hg (row2_holds hx hr) (sortK_size d)
  refine ⟨_, hb, holds_row2 hb hh, ⟨rfl, rfl, rfl, by simp [sortWorldK, putRowK, Sort.ahead], fun k hk => ?_⟩⟩
  unfold sortWorldK putRowK
  rw [heap_grow_old _ _ (by simp; omega)]
  have : g ≠ k := by omega
  simp [putRow, mapBlock, Sort.ahead, Array.getElem?_modify, this]
theorem sort26_nil (p : Option Addr) (cap : Nat) (fv : Value) (W : World) : Calls Try.prog 26 #[.slice p 0 cap, fv] W fun e w' => e = .returned (.tuple #[]) ∧ w' = W := by
  have h := AnyF.slices_SortFunc_none Try.sortKey p cap fv W
  exact h
end Go.Proofs.Ytoonahobmlnflaa.PC
namespace Go.Proofs.Ytoonahobmlnflaa.PC
open Go.RowKit Go.Shelf Go.Proofs.YtoonahobmlnflaaW.PrintWords Go.Proofs.YtoonahobmlnflaaW.PrintLast Go.Proofs.YtoonahobmlnflaaW.PrintMore
set_option linter.unusedVariables false
set_option linter.unusedSimpArgs false
open Go.Lib Go.Sort
theorem C_one {W : World} {g : Nat} {r : Int} {t : TypeId} (hx : W.heap[g]? = some (.cells #[.int .i64 r] t (0, 0))) : Kd.C (Kd.int .i64) W (some ⟨g, 0, none⟩) [r].length [r] :=
  ⟨rfl, by simp, fun _ => ⟨_, rfl, fun j p hj => by
    cases j with
    | succ j => simp at hj
    | zero =>
      obtain rfl : r = p := by simpa using hj
      refine ⟨[.int .i64 r], rfl, rfl, fun i u hi => ?_⟩
      cases i with
      | succ i => simp at hi
      | zero =>
        obtain rfl : Value.int .i64 r = u := by simpa using hi
        exact blk_cell hx 0⟩⟩
theorem row2_of_C {W : World} {g : Nat} {cs : Array Value} {l : List S32} (hx : W.heap[g]? = some (.cells cs 32 (0, 0))) (hC : Kd.C k32 W (some ⟨g, 0, none⟩) l.length l) : Row2 cs (l.map toP).toArray := by
  have key : ∀ j : Nat, j < l.length → cs[j * 2]? = some (.int .i64 (l.map toP).toArray[j]!.1) ∧ cs[j * 2 + 1]? = some (.int .i64 (l.map toP).toArray[j]!.2) := fun j hj => by
    obtain ⟨ad, ead, h0, h1⟩ := at_T32 hC (j : Int) (by omega) (by omega)
    cases ead
    have e : (l.map toP).toArray[j]! = toP (rd_T32 l (j : Int)) := by
      simp [Array.getElem!_eq_getD, Array.getD, hj, rd_T32, List.getD_eq_getElem?_getD]
    rw [e]
    rw [add_off] at h0 h1
    simp only [Nat.zero_add, Int.toNat_natCast] at h0 h1
    exact ⟨(blk_cell hx _).symm.trans h0, (blk_cell hx _).symm.trans h1⟩
  refine ⟨?_, fun j hj => (key j (by simpa using hj)).1, fun j hj => (key j (by simpa using hj)).2⟩
  simp only [List.size_toArray, List.length_map]
  rcases Nat.eq_zero_or_pos l.length with h0 | h0
  · omega
  · have := (Array.getElem?_eq_some_iff.1 (key (l.length - 1) (by omega)).2).1
    omega
theorem C_of_row2 {W : World} {g : Nat} {cs : Array Value} {d : List (Int × Int)} (hx : W.heap[g]? = some (.cells cs 32 (0, 0))) (hr : Row2 cs d.toArray) (hl : d.length ≤ 4000) : Kd.C k32 W (some ⟨g, 0, none⟩) d.length (d.map toS) :=
  ⟨by simp, by omega, fun _ => ⟨_, rfl, fun j p hj => by
    rw [List.getElem?_map] at hj
    obtain ⟨q, hq, rfl⟩ := Option.map_eq_some_iff.1 hj
    have hlt : j < d.length := (List.getElem?_eq_some_iff.1 hq).1
    have e : d.toArray[j]! = q := by
      rw [List.getElem?_eq_getElem hlt] at hq
      injection hq with hq
      simp [Array.getElem!_eq_getD, Array.getD, hlt, hq]
    have ha := hr.a j (by simpa using hlt)
    have hb := hr.b j (by simpa using hlt)
    rw [e] at ha hb
    refine ⟨[.int .i64 q.1, .int .i64 q.2], rfl, k32_mk W (toS q), fun i u hi => ?_⟩
    rw [add_off]
    rw [show k32.sz = 2 from rfl, Nat.zero_add]
    cases i with
    | zero => obtain rfl : Value.int .i64 q.1 = u := by simpa using hi
              exact (blk_cell hx _).trans ha
    | succ i =>
      cases i with
      | zero => obtain rfl : Value.int .i64 q.2 = u := by simpa using hi
                exact (blk_cell hx _).trans hb
      | succ i => simp at hi⟩⟩
set_option maxHeartbeats 4000000 in
theorem compact30_nil (p : Option Addr) (c : Nat) (w : World) : Calls Try.prog 30 #[.slice p 0 c] w fun e w' => e = .returned (.slice p 0 c) ∧ w' = w := by
  go_enter Try.func30, Try.ntmps30
  go_wp2
  go_ret
  exact ⟨rfl, rfl⟩
set_option maxHeartbeats 4000000 in
set_option maxRecDepth 100000 in
theorem uses12 (nodes : List S37) (root : Int) (A : Option Addr) (c : Nat) (w : World) (hC : Kd.C k37 w A nodes.length nodes) (hc : nodes.length ≤ c) (hI : ∀ x ∈ nodes, NodeI x) :
    Calls Try.prog 12 #[.slice A nodes.length c, .int .i64 root] w fun e w' => ∃ A' c', e = .returned (.tuple #[.slice A' (usesL nodes root).length c', .int .i64 (chkE nodes [root])]) ∧ Kd.C k32 w' A' (usesL nodes root).length ((usesL nodes root).map toS) ∧ (usesL nodes root).length ≤ c' ∧ Below w.heap.size w w' := by
  have hm := Kd.C_max hC
  have hx := heap_alloc_last w (.cells #[.int .i64 root] 3)
  have hb := below_alloc (Below.refl w.heap.size w) (.cells #[.int .i64 root] 3)
  have HCK := Aside0.mk (check20 nodes [root] A c (some ⟨w.heap.size, 0, none⟩) 1 (w.alloc (.cells #[.int .i64 root] 3)) (Kd.C_below hC hb) hc hI (C_one hx) (by simp))
  have HB0 := Aside0.mk hb
  have HC := Aside0.mk hC
  have HI := Aside0.mk hI
  clear hx hb hC hI
  go_enter Try.func12, Try.ntmps12
  rcases chk_or nodes [root] with hk | hk
  · have HU := Aside0.mk (show usesL nodes root = compactUpTo (sortK ((usedTo nodes (needB nodes [root]) nodes.length).map toP).toArray) ((usedTo nodes (needB nodes [root]) nodes.length).map toP).toArray.size by unfold usesL; rw [if_pos hk])
    obtain ⟨hgb, r0, r1⟩ := chk_ok hk
    have HOK := Aside0.mk (ops_of_graph hgb).1
    have HLEN := Aside0.mk (ops_of_graph hgb).2
    have HR0 := Aside0.mk r0
    have HR1 := Aside0.mk r1
    rw [hk] at HCK ⊢
    clear hgb r0 r1
    go_wp2_with (go_at_call 20; refine HCK.out.mono ?_; rintro e w2 ⟨rfl, hd⟩; have HB2 := Aside0.mk (below_step HB0.out hd); clear hd HCK HB0)
    have hx3 := heap_alloc_last w2 (.cells #[.int .i64 root] 3)
    have HB3 := Aside0.mk (below_alloc HB2.out (.cells #[.int .i64 root] 3))
    have HND := Aside0.mk (needed25 nodes [root] A c (some ⟨w2.heap.size, 0, none⟩) 1 (w2.alloc (.cells #[.int .i64 root] 3)) (Kd.C_below HC.out HB3.out) hc (C_one hx3) (by simp) (fun r hr => (List.mem_singleton.1 hr) ▸ ⟨HR0.out, HR1.out⟩) HOK.out (by have := HLEN.out; omega))
    clear hx3 HB2
    go_wp2_with (go_at_call 25; refine HND.out.mono ?_; rintro e w4 ⟨v, rfl, hR, hd⟩; have HB4 := Aside0.mk (below_step HB3.out hd); have HO4 := Aside0.mk (Kd.R_lower hR HB3.out.size); obtain ⟨Av, cv, ev⟩ := Kd.R_slice hR; subst ev; clear hR hd HND HB3)
    have HNL := Aside0.mk (show (needB nodes [root]).length = nodes.length by unfold needB; rw [fold_needS_len, fold_setB_len, List.length_replicate])
    go_loopw [7, 22] (fun s7 i wr => ∃ (j : Int), 0 ≤ j ∧ j ≤ (nodes.length : Int) ∧ i = .int .i64 j ∧ Aside0 (Kd.R k32 32 wr w.heap.size (fun _ => True) s7 (usedTo nodes (needB nodes [root]) j.toNat)) ∧ Aside0 (Kd.R Kd.bool 4 wr w.heap.size (fun _ => True) (.slice Av (needB nodes [root]).length cv) (needB nodes [root])) ∧ Aside0 (Below w.heap.size w wr)) (fun _ i _ => nodes.length - (intOf i).toNat)
    case atStart => exact ⟨0, Int.le_refl _, by omega, rfl, ⟨Kd.R_nil _ _ _ _ _⟩, HO4, HB4⟩
    case round =>
      obtain ⟨j, j0, j1, rfl, HL, HO, HB⟩ := hrel
      clear HO4 HB4
      generalize hl : usedTo nodes (needB nodes [root]) j.toNat = l at HL
      have hlen : l.length ≤ j.toNat := by rw [← hl]; exact usedTo_len _ _ _
      have hsucc := usedTo_succ nodes (needB nodes [root]) j.toNat
      rw [hl, show ((j.toNat : Nat) : Int) = j by omega] at hsucc
      have HLE := Aside0.mk hl
      have HLN := Aside0.mk hlen
      have HSU := Aside0.mk hsucc
      clear hl hlen hsucc
      by_cases hlt : j < (nodes.length : Int)
      · have hpos : 0 < (needB nodes [root]).length := by rw [HNL.out]; omega
        obtain ⟨go, co, eo, gb, gl, cl, HG⟩ := Kd.R_form HO.out hpos
        injection eo with ea en ec
        subst ea
        obtain ⟨hx1, hf1⟩ := Kd.R_celln false HO.out j j0 (by rw [HNL.out]; exact hlt)
        obtain ⟨ad, ead, q0, _, _, _, _, _, q6, q7, _⟩ := at_T37 (Kd.C_below HC.out HB.out) j j0 hlt
        subst ead
        have HW := Aside0.mk (show wrap64 (j + 1) = j + 1 by unfold wrap64; have := HLEN.out; omega)
        have HLT := Aside0.mk hlt
        have HJ := Aside0.mk j0
        have e5 := eq_true (show j < ((needB nodes [root]).length : Int) by rw [HNL.out]; exact hlt)
        clear gb gl cl HG en ec hpos
        replace j0 := eq_true j0
        replace hlt := eq_true hlt
        have fin : ∀ (V : World) (vy : Value) (l' : List S32), usedTo nodes (needB nodes [root]) (j.toNat + 1) = l' → Kd.R k32 32 V w.heap.size (fun _ => True) vy l' → Kd.R Kd.bool 4 V w.heap.size (fun _ => True) (.slice (some ⟨go, 0, none⟩) (needB nodes [root]).length cv) (needB nodes [root]) → Below w.heap.size w V →
            (∃ (j_1 : Int), 0 ≤ j_1 ∧ j_1 ≤ (nodes.length : Int) ∧ (Value.int .i64 (wrap64 (j + 1))) = .int .i64 j_1 ∧ Aside0 (Kd.R k32 32 V w.heap.size (fun _ => True) vy (usedTo nodes (needB nodes [root]) j_1.toNat)) ∧ Aside0 (Kd.R Kd.bool 4 V w.heap.size (fun _ => True) (.slice (some ⟨go, 0, none⟩) (needB nodes [root]).length cv) (needB nodes [root])) ∧ Aside0 (Below w.heap.size w V)) ∧ nodes.length - (intOf (.int .i64 (wrap64 (j + 1)))).toNat < nodes.length - (intOf (.int .i64 j)).toNat := fun V vy l' hl' hR hO hB => by
          have hj := HJ.out
          have hl := HLT.out
          have hw := HW.out
          subst hl'
          rw [hw]
          refine ⟨⟨j + 1, by omega, by omega, rfl, ?_, ⟨hO⟩, ⟨hB⟩⟩, ?_⟩
          · rw [show (j + 1).toNat = j.toNat + 1 by omega]; exact ⟨hR⟩
          · simp only [intOf]; omega
        have FIN := Aside0.mk fin
        clear fin
        generalize hkk : (rd_T37 nodes j).f0 = kk at q0 HSU
        generalize hkv : (rd_T37 nodes j).f5 = kx at q6 q7 HSU
        obtain ⟨kv, kd⟩ := kx
        dsimp only at q6 q7
        cases hb : rdOf false (needB nodes [root]) j with
        | false =>
          rw [hb] at hx1
          have HS2 := Aside0.mk (show usedTo nodes (needB nodes [root]) (j.toNat + 1) = l by rw [HSU.out, hb]; simp)
          clear q0 q6 q7
          go_wp2
          exact FIN.out _ _ _ HS2.out HL.out HO.out HB.out
        | true =>
          rw [hb] at hx1
          by_cases hk2 : kk = 2
          · subst hk2
            have HS2 := Aside0.mk (show usedTo nodes (needB nodes [root]) (j.toNat + 1) = l ++ [(⟨kv, kd⟩ : S32)] by rw [HSU.out, hb]; simp)
            go_wp2_with ((with_reducible refine gate_builtin (b := .append) (xs := #[.tmp 36, .tmp 42]) rfl ?_); at_builtin; refine Kd.R_append k32 (w0 := w) w.heap.size rfl (.tmp 36) (.tmp 42) 40 32 (.agg #[(.int .i64 0), (.int .i64 0)]) 16 rfl Try.underlying40 info32 rfl (by decide) (by omega) _ l (⟨kv, kd⟩ : S32) [.int .i64 kv, .int .i64 kd] (fun _ => True) (fun _ => False) rfl rfl ?aP (fun _ hk => hk.elim) ?aF ?aO ?aB ?aS ?aL ?_; (case aP => exact k32_mkM _ _ _ (⟨kv, kd⟩ : S32)); (case aB => exact HB.out); (case aF => exact fun _ _ => trivial); (case aO => exact HL.out); (case aS => exact below_size HB.out); (case aL => have := HLN.out; have := HLEN.out; omega); intro v1 w1 ho hb hg hat; have HO1 := Aside0.mk (Kd.R_over HO.out HL.out (by decide) hg); have HB1 := Aside0.mk hb; have HL1 := Aside0.mk ho; clear ho hb hg hat HO HB HL)
            go_wp2
            exact FIN.out _ _ _ HS2.out HL1.out HO1.out HB1.out
          · have HS2 := Aside0.mk (show usedTo nodes (needB nodes [root]) (j.toNat + 1) = l by rw [HSU.out, hb]; simp [hk2])
            clear q6 q7
            go_wp2
            exact FIN.out _ _ _ HS2.out HL.out HO.out HB.out
      · obtain rfl : j = (nodes.length : Int) := by omega
        rw [Int.toNat_natCast] at HLE HLN
        have d1 := eq_false (show ¬ (nodes.length : Int) < ((needB nodes [root]).length : Int) by rw [HNL.out]; omega)
        clear hlt j0 j1 HSU HO
        obtain ⟨Ax, cx, ex⟩ := Kd.R_slice HL.out
        subst ex
        cases l with
        | nil =>
          have HUN := Aside0.mk (show usesL nodes root = [] by rw [HU.out, HLE.out]; rfl)
          go_wp2_with (first | (go_at_call 26; refine (sort26_nil Ax cx _ _).mono ?_; rintro e w5 ⟨rfl, rfl⟩) | (go_at_call 30; refine (compact30_nil Ax cx _).mono ?_; rintro e w6 ⟨rfl, rfl⟩))
          refine bodyPost_ret (results_tmp2 rfl _ _ _) rfl ?_
          exact ⟨Ax, cx, by rw [HUN.out]; rfl, by rw [HUN.out]; exact ⟨rfl, by simp, fun h => absurd h (by simp)⟩, by rw [HUN.out]; exact Nat.zero_le _, HB.out⟩
        | cons l0 ls =>
          obtain ⟨g, cap, eo, gb, gl, cs, hG⟩ := Kd.R_form HL.out (by simp)
          injection eo with ea en ec
          subst ea
          have hcap := (Kd.R_reads' HL.out).2.1
          have hr2 := row2_of_C hG (Kd.R_reads' HL.out).2.2
          have hS := sort26 g cx cs ((l0 :: ls).map toP).toArray wr hG hr2 (by have h9 := HLN.out; have h8 := HLEN.out; simp only [List.size_toArray, List.length_map]; omega)
          rw [show ((l0 :: ls).map toP).toArray.size = (l0 :: ls).length by simp] at hS
          have HS := Aside0.mk hS
          have HGB := Aside0.mk gb
          have HCAP := Aside0.mk hcap
          clear hS hr2 hG gb gl hcap en ec HL
          go_wp2_with (first | (go_at_call 26; refine HS.out.mono ?_; rintro e w5 ⟨rfl, cs5, hx5, hr5, hd⟩; have HX5 := Aside0.mk hx5; have HR5 := Aside0.mk hr5; have HB5 := Aside0.mk (HB.out.trans (hd.mono HGB.out)); clear hx5 hr5 hd HB; have hC5 := compact30 g cx cs5 (sortK ((l0 :: ls).map toP).toArray) w5 HX5.out HR5.out (by rw [sortK_size]; simpa using HCAP.out) (by rw [sortK_size]; have h9 := HLN.out; have h8 := HLEN.out; simp only [List.size_toArray, List.length_map]; omega); rw [show (sortK ((l0 :: ls).map toP).toArray).size = (l0 :: ls).length by rw [sortK_size]; simp] at hC5; have HC5 := Aside0.mk hC5; clear hC5) | (go_at_call 30; refine HC5.out.mono ?_; rintro e w6 ⟨cs6, rfl, hx6, hr6, hd⟩; have HX6 := Aside0.mk hx6; have HR6 := Aside0.mk hr6; have HB6 := Aside0.mk (HB5.out.trans (hd.mono HGB.out)); clear hx6 hr6 hd HB5))
          refine bodyPost_ret (results_tmp2 rfl _ _ _) rfl ?_
          have hu : usesL nodes root = compactUpTo (sortK ((l0 :: ls).map toP).toArray) (l0 :: ls).length := by rw [HU.out, HLE.out]; simp
          have hlu : (usesL nodes root).length ≤ (l0 :: ls).length := by
            rw [hu]; unfold compactUpTo; rw [List.length_map]; exact Nat.le_trans (List.length_filter_le _ _) (by simp)
          rw [← hu] at HR6
          refine ⟨some ⟨g, 0, none⟩, cx, by rw [hu]; rfl, C_of_row2 HX6.out HR6.out (by have := HLN.out; have := HLEN.out; omega), Nat.le_trans hlu HCAP.out, HB6.out⟩
  · have HU := Aside0.mk (show usesL nodes root = [] by unfold usesL; rw [if_neg (by omega)])
    rw [hk] at HCK ⊢
    go_wp2_with (go_at_call 20; refine HCK.out.mono ?_; rintro e w2 ⟨rfl, hd⟩; have HB2 := Aside0.mk (below_step HB0.out hd); clear hd HCK HB0)
    refine bodyPost_ret (results_tmp2 rfl _ _ _) rfl ?_
    exact ⟨none, 0, by rw [HU.out]; rfl, by rw [HU.out]; exact Kd.C_nil _ _, by rw [HU.out]; exact Nat.zero_le _, HB2.out⟩
end Go.Proofs.Ytoonahobmlnflaa.PC
namespace Go.Proofs.Ytoonahobmlnflaa.PC
open Go.RowKit Go.Shelf Go.Proofs.YtoonahobmlnflaaW.PrintWords Go.Proofs.YtoonahobmlnflaaW.PrintLast Go.Proofs.YtoonahobmlnflaaW.PrintMore
set_option linter.unusedVariables false
set_option linter.unusedSimpArgs false
theorem rargs_ge (k : Nat) (x : Int) : orreryref14_Args.f (k + 9) x = some (argN x) := by
  unfold orreryref14_Args.f argN
  simp only [orreryref14_Args.j0, orreryref14_Args.j1, beq_iff_eq, decide_eq_true_eq, Bool.false_eq_true, if_false, if_true]
  repeat' split
  all_goals first | rfl | (exfalso; omega) | (congr 1; omega)
def bI (b : Bool) : Int := if b then 1 else 0
theorem rd_bI (s : List Bool) (j : Int) : rd (s.map bI) j = bI (rdOf false s j) := by
  unfold rd rdOf
  simp only [List.getD_eq_getElem?_getD, List.getElem?_map]
  cases s[j.toNat]? <;> rfl
theorem set_bI (s : List Bool) (j : Int) : (s.map bI).set j.toNat 1 = (setB s j).map bI := by
  unfold setB
  rw [List.map_set]
  rfl
theorem bI_one (b : Bool) : (bI b = 1) = (b = true) := by cases b <;> simp [bI]
theorem dn_rev (n : Nat) : dn n 0 = (List.range n).reverse := by
  unfold dn
  apply List.ext_getElem
  · simp
  · intro i h1 h2
    simp at h1 h2 ⊢
    try omega
theorem needed_l1 (nodes : List S37) (hok : OpsOK nodes) (hn : nodes.length ≤ 4000) : ∀ (m : Nat), m ≤ nodes.length → ∀ s : List Bool, s.length = nodes.length →
    orreryref14_Needed.l1 (2 * m + 20) nodes (s.map bI) ((m : Int) - 1) = some (((List.range m).reverse.foldl (needS nodes) s).map bI) := by
  intro m
  induction m with
  | zero => intro _ s hs; simp [orreryref14_Needed.l1]
  | succ m ih =>
    intro hm s hs
    have hw : wrap64 (((m + 1 : Nat) : Int) - 1 - 1) = (m : Int) - 1 := by unfold wrap64; omega
    have e : (((m + 1 : Nat) : Int) - 1) = (m : Int) := by omega
    have hops := hok (m : Int) (by omega) (by omega)
    rw [show 2 * (m + 1) + 20 = (2 * m + 20 + 1) + 1 by omega]
    rw [e] at hw ⊢
    rw [orreryref14_Needed.l1, if_pos (by omega), if_pos (by omega), if_pos (by omega), show 2 * m + 20 + 1 = (2 * m + 12) + 9 by omega, rargs_ge, Option.bind_some, List.length_map, if_pos (by omega), rd_bI]
    rw [show 2 * m + 12 + 9 = 2 * m + 20 + 1 by omega]
    rw [List.range_succ, List.reverse_append, List.reverse_singleton, List.singleton_append, List.foldl_cons]
    have hneed : needS nodes s m = if rdOf false s (m : Int) = true ∧ 0 < argN (rd_T37 nodes (m : Int)).f0 then (if 1 < argN (rd_T37 nodes (m : Int)).f0 then setB (setB s (rd_T37 nodes (m : Int)).f1) (rd_T37 nodes (m : Int)).f2 else setB s (rd_T37 nodes (m : Int)).f1) else s := rfl
    generalize argN (rd_T37 nodes (m : Int)).f0 = kN at hops hneed
    cases hb : rdOf false s (m : Int) with
    | false =>
      rw [if_neg (by simp [bI]), orreryref14_Needed.j2]
      simp only [Bool.false_eq_true, if_false]
      rw [if_pos (by omega), List.length_map, if_pos (by omega), rd_bI, hb, if_neg (by simp [bI]), hw, ih (by omega) s hs, hneed, hb]
      simp
    | true =>
      rw [if_pos (by simp [bI]), orreryref14_Needed.j2]
      by_cases k0 : 0 < kN
      · obtain ⟨a0, a1⟩ := hops.1 k0
        have hs1 : rdOf false (setB s (rd_T37 nodes (m : Int)).f1) (m : Int) = true := by
          unfold rdOf setB at *
          rw [List.getD_eq_getElem?_getD] at *
          by_cases hj : (rd_T37 nodes (m : Int)).f1.toNat = (m : Int).toNat
          · rw [hj, List.getElem?_set_self (by simp; omega)]; rfl
          · rw [List.getElem?_set_ne hj]; exact hb
        rw [if_pos (by simpa using k0), if_pos (by omega), if_pos (by omega), if_pos a0, List.length_map, if_pos (by omega), set_bI, Option.bind_some, if_pos (by omega), rd_bI, hs1, if_pos (by simp [bI])]
        by_cases k1 : 1 < kN
        · obtain ⟨b0, b1⟩ := hops.2 k1
          rw [if_pos k1, if_pos b0, if_pos (by omega), set_bI, hw, ih (by omega) _ (by rw [setB_len, setB_len, hs]), hneed, hb, if_pos ⟨rfl, k0⟩, if_pos k1]
        · rw [if_neg k1, hw, ih (by omega) _ (by rw [setB_len, hs]), hneed, hb, if_pos ⟨rfl, k0⟩, if_neg k1]
      · rw [if_neg (by simpa using k0), if_pos (by omega), List.length_map, if_pos (by omega), rd_bI, hb, if_pos (by simp [bI]), if_neg (by omega), hw, ih (by omega) s hs, hneed, hb, if_neg (by omega)]
theorem needed_l0 (nodes : List S37) (roots : List Int) (hok : OpsOK nodes) (hn : nodes.length ≤ 4000) (hr : ∀ r ∈ roots, 0 ≤ r ∧ r < (nodes.length : Int)) (hl : roots.length ≤ 9223372036854775807) : ∀ (m j : Nat), j + m = roots.length → ∀ s : List Bool, s.length = nodes.length →
    orreryref14_Needed.l0 (m + 1 + (2 * nodes.length + 20)) nodes (s.map bI) roots (roots.length : Int) (j : Int) = some ((dn nodes.length 0).foldl (needS nodes) ((roots.drop j).foldl setB s) |>.map bI) := by
  intro m
  induction m with
  | zero =>
    intro j hj s hs
    rw [show 0 + 1 + (2 * nodes.length + 20) = (2 * nodes.length + 20) + 1 by omega, orreryref14_Needed.l0, if_neg (by omega), show wrap64 ((nodes.length : Int) - 1) = (nodes.length : Int) - 1 by unfold wrap64; omega, needed_l1 nodes hok hn _ (Nat.le_refl _) s hs, List.drop_eq_nil_of_le (by omega), dn_rev]
    rfl
  | succ m ih =>
    intro j hj s hs
    have hlt : j < roots.length := by omega
    have er : rd roots (j : Int) = roots[j] := by simp [rd, List.getD_eq_getElem?_getD, List.getElem?_eq_getElem hlt]
    have hm := hr _ (List.getElem_mem hlt)
    rw [show m + 1 + 1 + (2 * nodes.length + 20) = (m + 1 + (2 * nodes.length + 20)) + 1 by omega, orreryref14_Needed.l0, if_pos (by omega), if_pos (by omega), if_pos (by omega), er, if_pos hm.1, List.length_map, if_pos (by omega), set_bI, show wrap64 ((j : Int) + 1) = ((j + 1 : Nat) : Int) by unfold wrap64; omega, ih (j + 1) (by omega) _ (by rw [setB_len, hs])]
    rw [List.drop_eq_getElem_cons hlt, List.foldl_cons]
theorem needR (nodes : List S37) (roots : List Int) (hok : OpsOK nodes) (hn : nodes.length ≤ 4000) (hr : ∀ r ∈ roots, 0 ≤ r ∧ r < (nodes.length : Int)) (hl : roots.length ≤ 9223372036854775807) : ∃ k, orreryref14_Needed.f k nodes roots = some ((needB nodes roots).map bI) := by
  refine ⟨roots.length + 1 + (2 * nodes.length + 20), ?_⟩
  unfold orreryref14_Needed.f
  rw [if_pos (by omega), if_pos (by simp; omega)]
  have h := needed_l0 nodes roots hok hn hr hl roots.length 0 (by omega) (List.replicate nodes.length false) (by simp)
  rw [List.map_replicate] at h
  rw [Int.toNat_natCast]
  rw [show (0 : Int) = ((0 : Nat) : Int) from rfl]
  refine h.trans ?_
  rw [List.drop_zero]
  rfl
/-- Needed's contract. -/
theorem needed9 (nodes : List S37) (roots : List Int) (A : Option Addr) (c : Nat) (A1 : Option Addr) (c1 : Nat) (w : World) (hC : Kd.C k37 w A nodes.length nodes) (hc : nodes.length ≤ c) (hR : Kd.C (Kd.int .i64) w A1 roots.length roots) (hc1 : roots.length ≤ c1)
    (hroots : ∀ r ∈ roots, 0 ≤ r ∧ r < (nodes.length : Int)) (hok : OpsOK nodes) (hlen : nodes.length ≤ 4000) :
    Calls Try.prog 9 #[.slice A nodes.length c, .slice A1 roots.length c1] w fun e w' => ∃ v, e = .returned v ∧ Kd.R (Kd.int .i64) 3 w' w.heap.size (fun _ => True) v ((needB nodes roots).map bI) ∧ Below w.heap.size w w' := by
  obtain ⟨k, hk⟩ := needR nodes roots hok hlen hroots (Kd.C_max hR)
  exact orreryref14_Needed.calls k A c nodes A1 c1 roots _ w hC hc hR hc1 hk
end Go.Proofs.Ytoonahobmlnflaa.PC
