import Derived.Test.YtamloclgignfgaaGc
import Derived.StillTailTactics
namespace Go.Proofs.Ytamloclgignfgaa.PA
open Go.RowKit Go.Proofs.YtamloclgignfgaaW.PrintWords Go.Proofs.YtamloclgignfgaaW.PrintLast Go.Proofs.YtamloclgignfgaaW.PrintMore
set_option linter.unusedVariables false
set_option linter.unusedSimpArgs false

/-- The closure's own value. -/
def fnV (bn bs bo bf : Nat) : Value := .func (.func 29) #[] #[.pointer (some ⟨bn, 0, none⟩), .pointer (some ⟨bs, 0, none⟩), .pointer (some ⟨bo, 0, none⟩), .pointer (some ⟨bf, 0, none⟩)]

set_option maxHeartbeats 1000000 in
set_option maxRecDepth 100000 in
theorem clo29 (W0 : World) (bn bs bo bf : Nat) (A : Option Addr) (c m : Nat) (rows : List (List Int)) (vS vO : Value)
    (hbn : W0.cell? ⟨bn, 0, none⟩ = some (.slice A rows.length c)) (hC : Kd.C (Kd.slice 3 (Kd.int .i64)) W0 A rows.length rows) (hrows : ∀ row ∈ rows, RowOk m row) (d : Nat) :
    ∀ (i : Int) (s : List Bool) (o : List Int) (W : World), 0 ≤ i → i < (rows.length : Int) → unseen s < d → Good rows.length m s o → Fs W0 W bs bo bf (fnV bn bs bo bf) vS vO s o →
    Calls Try.prog 29 #[.int .i64 i, .pointer (some ⟨bn, 0, none⟩), .pointer (some ⟨bs, 0, none⟩), .pointer (some ⟨bo, 0, none⟩), .pointer (some ⟨bf, 0, none⟩)] W fun e W' =>
      e = .returned (.bool (findF rows d i s o).1) ∧ Fs W0 W' bs bo bf (fnV bn bs bo bf) vS vO (findF rows d i s o).2.1 (findF rows d i s o).2.2 := by
  induction d with
  | zero => intro i s o W _ _ h; omega
  | succ d ih =>
    intro i s o W h0 hi hu hg hF
    have e29 : ∀ args w, (callFunc 29 args).run Try.prog w = .ok (.enter 29 args) w := enters_of Try.func29 (by kernel_rfl) rfl
    have hrow : RowOk m (rd_L3 rows i) := by
      unfold rd_L3
      rw [List.getD_eq_getElem?_getD]
      cases hg : rows[i.toNat]? with
      | none => intro x hx; simp at hx
      | some row => exact hrows row (List.mem_of_getElem? hg)
    obtain ⟨ad, A0, c0, rfl, hx, hl0, hR0⟩ := at_L3 hC i h0 hi
    generalize hrw : rd_L3 rows i = row at hrow hx hl0 hR0
    have HF := Aside0.mk (show findF rows (d + 1) i s o = findL (findF rows d) i row s o by unfold findF; rw [hrw])
    have hm : row.length ≤ 9223372036854775807 := hR0.2.1
    have hxn : W.cell? ⟨bn, 0, none⟩ = some (.slice (some ad) rows.length c) := (hF.below.cell (World.block_lt_of_cell? W0 _ hbn)).trans hbn
    have hxr : W.cell? (ad.add i.toNat) = some (.slice A0 row.length c0) := (hF.below.cell (World.block_lt_of_cell? W0 _ hx)).trans hx
    have IH := Aside0.mk ih
    have HROW := Aside0.mk hrow
    have HG := Aside0.mk hg
    have HU := Aside0.mk hu
    have HFS := Aside0.mk hF
    have HR0 := Aside0.mk hR0
    have HB0 := Aside0.mk hbn
    have HC0 := Aside0.mk hC
    have HX0 := Aside0.mk hx
    clear ih hrow hg hu hF hR0 hbn hC hx hrw hl0
    have HRS := Aside0.mk hrows
    clear hrows
    have p1 := eq_true h0
    have p2 := eq_true hi
    go_enter Try.func29, Try.ntmps29
    go_wp2
    go_loopg [14] row.length (fun gg v14 wr => ∃ (kk : Nat) (s1 : List Bool) (o1 : List Int), v14 = .int .i64 kk ∧ kk ≤ row.length ∧ row.length - kk ≤ gg ∧ Aside0 (findL (findF rows d) i row s o = findL (findF rows d) i (row.drop kk) s1 o1) ∧ Aside0 (Fs W0 wr bs bo bf (fnV bn bs bo bf) vS vO s1 o1) ∧ Aside0 (Good rows.length m s1 o1) ∧ Aside0 (unseen s1 < d + 1))
    case atStart => exact ⟨0, s, o, rfl, Nat.zero_le _, by omega, ⟨rfl⟩, HFS, HG, HU⟩
    case round =>
      clear HFS HG HU hxn hxr
      obtain ⟨kk, s1, o1, rfl, hkk, hgk, HE, HFS, HG, HU⟩ := hrel
      have GU := (HU.out : unseen s1 < d + 1)
      by_cases hlt : kk < row.length
      · have hltz : (kk : Int) < (row.length : Int) := by omega
        obtain ⟨aj, rfl, hxj⟩ := Kd.at_int HR0.out (kk : Int) (by omega) hltz
        rw [Int.toNat_natCast] at hxj
        have hd : row.drop kk = row[kk] :: row.drop (kk + 1) := List.drop_eq_getElem_cons hlt
        have hj : rd row (kk : Int) = row[kk] := by simp [rd, List.getD_eq_getElem?_getD, List.getElem?_eq_getElem hlt]
        have hjr := HROW.out row[kk] (List.getElem_mem hlt)
        rw [← hj] at hjr hd
        generalize rd row (kk : Int) = j at hxj hd hjr
        clear hj
        replace hxj : wr.cell? (aj.add kk) = some (.int .i64 j) := (HFS.out.below.cell (World.block_lt_of_cell? W0 _ hxj)).trans hxj
        obtain ⟨hj0, hj1⟩ := hjr
        have hls : (j : Int) < (s1.length : Int) := by have := HG.out.1; omega
        have hlo : (j : Int) < (o1.length : Int) := by have := HG.out.2.1; omega
        obtain ⟨gS, cS, eS, hgS, hgS2, _⟩ := Kd.R_form HFS.out.rowS (by omega)
        obtain ⟨gO, cO, eO, hgO, hgO2, _⟩ := Kd.R_form HFS.out.rowO (by omega)
        have hbs := blk_cell HFS.out.boxS 0
        have hbo := blk_cell HFS.out.boxO 0
        have hbf := blk_cell HFS.out.boxF 0
        have HFS' := HFS.out
        rw [eS, eO] at HFS'
        simp only [eS, eO] at hbs hbo
        obtain ⟨hS1, hS2⟩ := Kd.R_celln false HFS'.rowS j hj0 hls
        obtain ⟨hO1, hO2⟩ := Kd.R_celln 0 HFS'.rowO j hj0 hlo
        have ES := Aside0.mk eS
        have EO := Aside0.mk eO
        have HD := Aside0.mk hd
        have HFW := Aside0.mk HFS'
        clear eS eO hd HFS hgS hgO hgS2 hgO2 HFS' hO2
        have q1 := eq_true hj0
        have q2 := eq_true hj1
        have q3 := eq_true hls
        have q4 := eq_true hlo
        by_cases hsj : rdOf false s1 j = true
        · have hsj' := hsj
          rw [hsj'] at hS1
          have HSJ := Aside0.mk hsj
          clear hsj hsj'
          go_wp2
          go_roundg (row.length - (kk + 1))
          case measure => omega
          case rel =>
            refine ⟨kk + 1, s1, o1, by go_num, by omega, by omega, ⟨?_⟩, ⟨?_⟩, HG, HU⟩
            · rw [HE.out, HD.out]; show (if _ then _ else _) = _; rw [if_pos HSJ.out]
            · have := HFW.out; rw [← ES.out, ← EO.out] at this; exact this
        · have hsj' : rdOf false s1 j = false := by simpa using hsj
          rw [hsj'] at hS1
          have HSJ := Aside0.mk hsj
          clear hsj hsj'
          go_wp2_with (fail)
          have HF1 := Fs.setS HFW.out (by omega) j true
          generalize wr.setCell ⟨gS, j.toNat, none⟩ (.bool true) = W1 at HF1 ⊢
          clear hbs hbo hbf hS1 hS2 hO1 hxj
          have hbs := blk_cell HF1.boxS 0
          have hbo := blk_cell HF1.boxO 0
          have hbf : W1.cell? ⟨bf, 0, none⟩ = some (.func (.func 29) #[] #[.pointer (some ⟨bn, 0, none⟩), .pointer (some ⟨bs, 0, none⟩), .pointer (some ⟨bo, 0, none⟩), .pointer (some ⟨bf, 0, none⟩)]) := blk_cell HF1.boxF 0
          obtain ⟨hO1, hO2⟩ := Kd.R_celln 0 HF1.rowO j hj0 hlo
          have hrd : rdOf 0 o1 j = rd o1 j := rfl
          rw [hrd] at hO1
          have hG1 := HG.out.setS j.toNat true
          have hU1 : unseen (s1.set j.toNat true) + 1 = unseen s1 := unseen_set s1 j.toNat (by omega) (by have := HSJ.out; unfold rdOf at this; simpa using this)
          have hx1 := HG.out.2.2 _ (rd_mem o1 j hj0 hlo)
          have HF1' := Aside0.mk HF1
          clear HF1 hrd HG HU
          have HG := Aside0.mk hG1
          have HU := Aside0.mk hU1
          clear hG1 hU1
          by_cases hneg : rd o1 j < 0
          · have hd1 : decide (rd o1 j < 0) = true := decide_eq_true hneg
            have HN := Aside0.mk hneg
            clear hneg hx1
            go_still_tail 11, (by kernel_rfl)
            go_wp2
            go_ret
            have h1 : findF rows (d + 1) i s o = (true, s1.set j.toNat true, o1.set j.toNat i) := by
              rw [HF.out, HE.out, HD.out]; unfold findL; rw [if_neg HSJ.out, if_pos HN.out]
            rw [h1]
            refine ⟨rfl, ?_⟩
            rw [EO.out, ES.out]
            first | exact Fs.setO HF1'.out.drew (by omega) j i | exact (Fs.setO HF1'.out (by omega) j i).drew
          · have hd1 : decide (rd o1 j < 0) = false := decide_eq_false hneg
            have HN := Aside0.mk hneg
            have hx0 : 0 ≤ rd o1 j := by omega
            clear hneg
            go_still_tail 11, (by kernel_rfl)
            have hc := IH.out (rd o1 j) (s1.set j.toNat true) o1 _ hx0 hx1 (by have := HU.out; omega) HG.out (by have := HF1'.out.drew; rw [← ES.out, ← EO.out] at this; exact this)
            generalize hrec : findF rows d (rd o1 j) (s1.set j.toNat true) o1 = R at hc
            have hk := findF_keeps HRS.out d (rd o1 j) (s1.set j.toNat true) o1 hx0 hx1 HG.out
            rw [hrec] at hk
            obtain ⟨r1, s2, o2⟩ := R
            have hl2 : 0 < o2.length := by have := hk.1.2.1; have := HG.out.2.1; simp only at *; omega
            have HREC := Aside0.mk hrec
            have HC := Aside0.mk hc
            have HK := Aside0.mk hk
            clear hrec hc hk hO1 hO2 hbo hbf hbs
            cases r1 with
            | true =>
              go_wp2_with (go_at_call 29; refine HC.out.mono ?_; rintro e W' ⟨rfl, hF2⟩; simp only at hF2; rw [ES.out, EO.out] at hF2; have HF2 := Aside0.mk hF2; have hbo2 := blk_cell hF2.boxO 0; obtain ⟨hO3, hO4⟩ := Kd.R_celln 0 hF2.rowO j hj0 hlo; clear hF2)
              go_ret
              have h1 : findF rows (d + 1) i s o = (true, s2, o2.set j.toNat i) := by
                rw [HF.out, HE.out, HD.out]; unfold findL; rw [if_neg HSJ.out, if_neg (show ¬ rd o1 j < 0 by have := HN.out; omega), HREC.out]; rfl
              rw [h1]
              refine ⟨rfl, ?_⟩
              rw [EO.out, ES.out]
              exact Fs.setO HF2.out hl2 j i
            | false =>
              go_wp2_with (go_at_call 29; refine HC.out.mono ?_; rintro e W' ⟨rfl, hF2⟩; simp only at hF2; have HF2 := Aside0.mk hF2; clear hF2)
              go_roundg (row.length - (kk + 1))
              case measure => omega
              case rel =>
                refine ⟨kk + 1, s2, o2, by go_num, by omega, by omega, ⟨?_⟩, HF2, ⟨HK.out.1⟩, ⟨?_⟩⟩
                · rw [HE.out, HD.out]; conv => lhs; unfold findL
                  rw [if_neg HSJ.out, if_neg (show ¬ rd o1 j < 0 by have := HN.out; omega), HREC.out]; rfl
                · have a := HK.out.2; have b := HU.out; change unseen s2 ≤ _ at a; omega
      · have HE3 : Aside0 (row.drop kk = []) := ⟨List.drop_eq_nil_of_le (by omega)⟩
        have hltz : ¬ (kk : Int) < (row.length : Int) := by omega
        go_wp2
        go_ret
        have h1 : findF rows (d + 1) i s o = (false, s1, o1) := by rw [HF.out, HE.out, HE3.out]; rfl
        rw [h1]
        exact ⟨rfl, HFS.out⟩
end Go.Proofs.Ytamloclgignfgaa.PA
