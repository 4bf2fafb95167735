/- PartsPlays: the statement's walk, both joiners, act for act. -/
import Derived.Test.YtoclbcpfiacoaaaPlay2
namespace Go.Proofs.Ytoclbcpfiacoaaa
set_option linter.unusedVariables false
set_option linter.unusedSimpArgs false
open Go.RowKit

set_option maxRecDepth 100000 in
set_option maxHeartbeats 20000000 in
theorem plays_loop (most opn : Int) (a : Option Addr) (len cap : Nat) (Z : List AC) (w : World) (hz : IsActs w a len Z) (hwf : ∀ z ∈ Z, (0 ≤ z.1 ∧ z.1 ≤ 255) ∧ -9223372036854775808 ≤ z.2.1 ∧ z.2.1 ≤ 9223372036854775807) (c1 : ¬ (60 : Int) < (len : Int))
    (g1 : 0 ≤ most ∧ most ≤ 1073741824) (g2 : 1 ≤ opn ∧ opn ≤ 32) :
    Calls Try.prog 4 #[.int .i64 most, .int .i64 opn, .slice a len cap] w fun e w' => e = .returned (.bool true) ∧ Below w.heap.size w w' := by
  have HA := sh alive30
  have HN := sh (fun W => new_ok most opn g1 g2 W)
  have k1 : ¬ most < 0 := by omega
  have k2 : ¬ 1073741824 < most := by omega
  have k3 : ¬ opn < 1 := by omega
  have k4 : ¬ 32 < opn := by omega
  have HZ := sh hz
  have HF := sh hwf
  have hZl := hz.1
  clear hz hwf
  go_enter Try.func4, Try.ntmps4
  go_wp2_with (first
    | (go_at_call 9; refine (HA.out _).mono ?_; clear HA; rintro e' w2 ⟨rfl, hb⟩)
    | (go_at_call 13; refine (HN.out _).mono ?_; clear HN; rintro e' w3 ⟨rfl, rfl⟩))
  have S0 := sh (plS_start w2 most opn g1 g2)
  have Z0 := sh (HZ.out.below hb (Nat.le_refl _))
  have hb0 : Below w2.heap.size w2 (((w2.alloc (.map #[] 0)).alloc (.cells #[.int .i64 most, .int .i64 opn, .int .i64 0, .map (some w2.heap.size)] 86)).alloc (.cells #[.int .i64 most, .int .i64 opn, .slice none 0 0] 46)) := (((Below.refl _ w2).alloc (Nat.le_refl _) _).alloc (by simp) _).alloc (by simp; omega) _
  clear HZ
  generalize hW0 : (((w2.alloc (.map #[] 0)).alloc (.cells #[.int .i64 most, .int .i64 opn, .int .i64 0, .map (some w2.heap.size)] 86)).alloc (.cells #[.int .i64 most, .int .i64 opn, .slice none 0 0] 46)) = W0 at *
  have hZ2 := Z0.out.below hb0 (Nat.le_refl _)
  generalize hBB : w2.heap.size = B at *
  go_loopw [13] (fun v13 wr => ∃ (k : Nat) (A : List AB) (L : List PT) (al : Option Addr) (cp : Nat), k ≤ len ∧ v13 = .int .i64 (k : Int) ∧ Sh (PlS B (B + 1 + 1) most opn A al L cp k wr) ∧ Below B w2 wr) (fun v13 _ => len - (RowKit.intOf v13).toNat)
  case atStart => exact ⟨0, [], [], none, 0, by omega, rfl, S0, hb0⟩
  case round =>
    obtain ⟨k, A, L, al, cp, hk, rfl, HS, hbr⟩ := hrel
    by_cases hlt : k < len
    · obtain ⟨z, hzk⟩ : ∃ z, Z[k]? = some z := ⟨_, List.getElem?_eq_getElem (by omega)⟩
      obtain ⟨x, rfl, hxb, a0, a1, a2, a3, a4⟩ := (Z0.out.below hbr (by omega)).at_ hzk
      have hzw := HF.out z (List.mem_of_getElem? hzk)
      clear hzk
      obtain ⟨kd, id, n, of, t⟩ := z
      simp only at a0 a1 a2 a3 a4 hzw
      obtain ⟨⟨w0, w1⟩, w2', w3⟩ := hzw
      by_cases c3 : (300 : Int) < (t.size : Int)
      · go_wp2_with fail
        go_ret
        exact ⟨rfl, hb.trans ((hbr.alloc (by have := hbr.size; omega) _).mono (by rw [← hBB]; exact hb.size))⟩
      · have hN : B + 1 + 1 < wr.heap.size := HS.out.box.lt
        have S1 := sh (HS.out.below ((Below.refl _ wr).alloc (Nat.le_refl _) (.cells #[.int .u8 kd, .int .i64 id, .int .i64 n, .int .i64 of, .string t] 48)))
        have hb1 := hbr.alloc (show B ≤ wr.heap.size by omega) (.cells #[.int .u8 kd, .int .i64 id, .int .i64 n, .int .i64 of, .string t] 48)
        have HQ := sh (Bk.made wr 48 #[.int .u8 kd, .int .i64 id, .int .i64 n, .int .i64 of, .string t])
        have j0 := HS.out.box.cell 0
        have j1 := HS.out.box.cell 1
        have j2 := HS.out.box.cell 2
        have hlen1 : L.length ≤ 1000 := by have := HS.out.len; omega
        have hsz1 : sizes L ≤ 1000000 := by have := HS.out.siz; omega
        have HI9 : ∀ (x y : Nat), x + 1 ≤ y + 1 → x ≤ y := fun x y h => by omega
        by_cases e3 : (kd % 4 == 3) = true
        · have HE := sh (HS.out.rel.erase HS.out.ok id)
          have HK := sh (aok_erase HS.out.ok id)
          have HD := sh (fun (W : World) (hr : RowL W al L) => rdrop_any (cp := cp) HS.out.rel HS.out.ok hlen1 id W hr)
          have HX := sh (fun (W : World) (hj : Jn W B (B + 1) B most opn A) => drop_any hj HS.out.ok id w2' w3)
          have HL := sh (And.intro (dropL_len L id) (sizes_drop id L))
          have HLk := sh (And.intro HS.out.len HS.out.siz)
          unfold DropRPost at HD
          unfold JnPost at HX
          generalize (findA A id).isSome = fb at *
          go_wp2_with (first
            | (go_at_call 18
               refine (HD.out _ S1.out.row).mono ?_
               clear HD
               rintro e' w4 ⟨a4, c4, rfl, hc4, hr4, hb4⟩
               have S4 := sh (S1.out.below hb4)
               have HQ4 := sh (HQ.out.below hb4 HQ.out.lt)
               have q1 := HQ4.out.cell 1
               have hq4 := HQ4.out.lt
               have r0 := S4.out.box.cell 0
               have r1 := S4.out.box.cell 1
               have r2 := S4.out.box.cell 2
               have y0 := S4.out.box.free 0
               have y1 := S4.out.box.free 1
               have y2 := S4.out.box.free 2
               have hN4 : B + 1 + 1 < w4.heap.size := S4.out.box.lt
               have hbl4 := hb1.trans (hb4.mono (by simp; omega))
               obtain ⟨W5, hW5, hj5, hb5, hr5, hbl5, hk5⟩ := box_store (cp' := c4) S4.out.jn S4.out.box (show B ≤ B + 1 + 1 by omega) hr4
               have H5 := sh (And.intro (hj5.below ((Below.refl _ _).alloc (Nat.le_refl _) (.cells #[.int .i64 most, .int .i64 opn, .slice a4 (dropL L id).length c4] 46))) (And.intro (hb5.alloc (.cells #[.int .i64 most, .int .i64 opn, .slice a4 (dropL L id).length c4] 46)) (hr5.below ((Below.refl _ _).alloc (Nat.le_refl _) (.cells #[.int .i64 most, .int .i64 opn, .slice a4 (dropL L id).length c4] 46)))))
               have HB5 := sh ((hbl4.trans hbl5).alloc (show B ≤ W5.heap.size by have := hbl5.size; omega) (.cells #[.int .i64 most, .int .i64 opn, .slice a4 (dropL L id).length c4] 46))
               clear hj5 hb5 hr5 hbl5 hk5 hr4 hb4
               subst hW5)
            | (go_at_call 17
               refine (HX.out _ H5.out.1).mono ?_
               clear HX
               rintro e' w6 ⟨rfl, hj6, hk6⟩))
          obtain ⟨A9, L9, al9, cp9, S9, hb9⟩ : ∃ A9 L9 al9 cp9, Sh (PlS B (B + 1 + 1) most opn A9 al9 L9 cp9 (k + 1) w6) ∧ Sh (Below B w2 w6) := by
            refine ⟨_, _, _, _, ⟨⟨hj6, HK.out, HE.out, H5.out.2.1.kp hk6.kp (by decide) (by decide), H5.out.2.2.kp hk6.kp, hc4, ?_, ?_⟩⟩, ⟨HB5.out.trans hk6.bel⟩⟩
            · have := HL.out.1; have := HLk.out.1; omega
            · have := HL.out.2; have := HLk.out.2; omega
          clear HK HE H5 hj6 hk6 hc4 HB5 HL HLk
          generalize w6 = W9 at *
          have hk60 : k + 1 ≤ 1000 := by omega
          have HI := sh (fun (W : World) (h : PlS B (B + 1 + 1) most opn A9 al9 L9 cp9 (k + 1) W) => open_pl h)
          have HR := sh (fun (W : World) (h : PlS B (B + 1 + 1) most opn A9 al9 L9 cp9 (k + 1) W) => ids_pl h hk60)
          have hBk : B ≤ W9.heap.size := by have := hb9.out.size; have := S9.out.box.lt; omega
          have S10 := sh (S9.out.drewN 1)
          have hb10 := sh (below_drewN hb9.out 1)
          have j0 := S9.out.box.cell 0
          have j1 := S9.out.box.cell 1
          have j2 := S9.out.box.cell 2
          go_region_with (first
            | (go_at_call 15
               refine (HI.out _ S10.out).mono ?_
               rintro e' wa ⟨xa, ca, rfl, hra, hba⟩
               have Ta := sh (S10.out.below hba)
               have hbda := hb10.out.trans (hba.mono hBk)
               have j0 := Ta.out.box.cell 0
               have j1 := Ta.out.box.cell 1
               have j2 := Ta.out.box.cell 2)
            | (go_at_call 15
               refine (HI.out _ Tb.out).mono ?_
               rintro e' wa ⟨xa, ca, rfl, hra, hba⟩
               have HF := sh (PlE.mk (Tb.out.below hba) hra (hrb.below hba) (hbdb.trans (hba.mono (by have := hbdb.size; have := Tb.out.box.lt; omega)))))
            | (go_at_call 21
               refine (HR.out _ S10.out).mono ?_
               rintro e' wb ⟨xb, cb, rfl, hrb, hbb⟩
               have Tb := sh (S10.out.below hbb)
               have hbdb := hb10.out.trans (hbb.mono hBk))
            | (go_at_call 21
               refine (HR.out _ Ta.out).mono ?_
               rintro e' wb ⟨xb, cb, rfl, hrb, hbb⟩
               have HF := sh (PlE.mk (Ta.out.below hbb) (hra.below hbb) hrb (hbda.trans (hbb.mono (by have := hbda.size; have := Ta.out.box.lt; omega))))))
          all_goals
            clear HI HR S10 hb10 Ta hra hrb hba hbb hbda j0 j1 j2 S9 hb9
            have hu1 : ¬ most < ((usedA A9 : Nat) : Int) := by have := HF.out.s.ok.use; omega
            have hu2 : ¬ opn < (A9.length : Int) := by have := HF.out.s.ok.len; omega
            have hA9 : A9.length ≤ 9223372036854775807 := by have := HF.out.s.ok.len; omega
            have HU := sh (fun (W : World) (hS : W.cell? ⟨B + 1 + 1, 0, none⟩ = some (.int .i64 most) ∧ W.cell? ⟨B + 1 + 1, 1, none⟩ = some (.int .i64 opn) ∧ W.cell? ⟨B + 1 + 1, 2, none⟩ = some (.slice al9 L9.length cp9) ∧ PlE B (B + 1 + 1) most opn A9 al9 L9 cp9 (k + 1) w2 xa xb W) => used_any hS.2.2.2.s.jn)
            have HV := sh (fun (W : World) (hS : W.cell? ⟨B + 1 + 1, 0, none⟩ = some (.int .i64 most) ∧ W.cell? ⟨B + 1 + 1, 1, none⟩ = some (.int .i64 opn) ∧ W.cell? ⟨B + 1 + 1, 2, none⟩ = some (.slice al9 L9.length cp9) ∧ PlE B (B + 1 + 1) most opn A9 al9 L9 cp9 (k + 1) w2 xa xb W) => used_pl hS.2.2.2.s hk60)
            generalize hug : usedA A9 = ug at hu1 HU HV
            have hd1 : decide (most < (ug : Int)) = false := decide_eq_false hu1
            have hd2 : decide (opn < (A9.length : Int)) = false := decide_eq_false hu2
            have HC := sh (ple_cells HF.out)
            go_wp2_with fail
            go_region_held3 (fun W => W.cell? ⟨B + 1 + 1, 0, none⟩ = some (.int .i64 most) ∧ W.cell? ⟨B + 1 + 1, 1, none⟩ = some (.int .i64 opn) ∧ W.cell? ⟨B + 1 + 1, 2, none⟩ = some (.slice al9 L9.length cp9) ∧ PlE B (B + 1 + 1) most opn A9 al9 L9 cp9 (k + 1) w2 xa xb W)
              (first | assumption | exact HC.out | exact ple_keep (by assumption) (by assumption))
              (first
                | (go_at_call 16; refine (HU.out _ (by assumption)).mono ?_; rintro e' w7 ⟨rfl, rfl⟩)
                | (go_at_call 22; refine (HV.out _ (by assumption)).mono ?_; rintro e' w8 ⟨rfl, hb8⟩))
            all_goals
              rename_i hH
              have HE := sh hH.2.2.2
              clear hH HC HF HU HV hd1 hd2
              go_wp2_with fail
              go_loopw [26] (fun v26 wq => ∃ i : Nat, i ≤ A9.length ∧ v26 = .int .i64 (i : Int) ∧ Sh (PlE B (B + 1 + 1) most opn A9 al9 L9 cp9 (k + 1) w2 xa xb wq)) (fun v26 _ => A9.length - (RowKit.intOf v26).toNat)
              case atStart => exact ⟨0, by omega, rfl, HE⟩
              case round =>
                obtain ⟨i, hi, rfl, HEi⟩ := hrel
                by_cases hil : i < A9.length
                · obtain ⟨y, hy⟩ : ∃ y, (idsA A9)[i]? = some y := ⟨_, List.getElem?_eq_getElem (by rw [idsA_len]; exact hil)⟩
                  obtain ⟨ga, rfl, ca0⟩ := HEi.out.ra.at_ hy
                  obtain ⟨gb, rfl, cb0⟩ := HEi.out.rb.at_ hy
                  clear hy
                  go_wp2_with fail
                  go_quiet (fail)
                  all_goals
                    have HEj := sh (HEi.out.below (below_drewN (Below.refl _ _) nq))
                    go_wp2_with fail
                    go_roundw
                    case rel => exact ⟨i + 1, by omega, by go_num, HEj⟩
                    case measure => simp [RowKit.intOf]; omega
                · go_wp2_with fail
                  go_roundw
                  case rel => exact ⟨k + 1, A9, L9, al9, cp9, by omega, by go_num, ⟨HEi.out.s⟩, HEi.out.bel⟩
                  case measure => simp [RowKit.intOf]; omega
        · have hAB := rel_addR HS.out.rel HS.out.ok id n of t
          have hLn := addR_len most opn A.length L id n of t
          have hok := aok_add HS.out.ok id n of t
          have HO := sh (fun W => of_part id n of t W)
          have HD := sh (fun (W : World) (hr : RowL W al L) => radd_any HS.out.rel HS.out.ok HS.out.hcp hlen1 hsz1 id n of t W hr)
          have HX := sh (fun (W : World) (hj : Jn W B (B + 1) B most opn A) => add_any hj HS.out.ok id n of t)
          have HLk := sh (And.intro HS.out.len HS.out.siz)
          unfold AddRPost at HD
          unfold JnPost addRet at HX
          have HK := sh hok
          have HE := sh hAB.2
          have HL := sh hLn
          clear hAB hLn hok
          generalize addB most opn A id n of t = r at *
          generalize (addR most opn A.length L id n of t).1 = L' at *
          obtain ⟨A', s', b', f'⟩ := r
          simp only at HD HX HK HE
          have e3' : (kd % 4 == 3) = false := by simpa using e3
          clear e3
          go_wp2_with (first
            | (go_at_call 19
               refine (HO.out _).mono ?_
               clear HO
               rintro e' w3 ⟨rfl, hb3⟩
               have S3 := sh (S1.out.below hb3)
               have HQ3 := sh (HQ.out.below hb3 HQ.out.lt)
               have hbl3 := hb1.trans (hb3.mono (by simp; omega)))
            | (go_at_call 14
               refine (HX.out _ S3.out.jn).mono ?_
               clear HX
               rintro e' w4 ⟨rfl, hj4, hk4⟩
               have HQ4 := sh (HQ3.out.kp hk4.kp (by decide) (by decide))
               have HB4 := sh (S3.out.box.kp hk4.kp (by decide) (by decide))
               have HR4 := sh (S3.out.row.kp hk4.kp)
               have HJ4 := sh hj4
               have hbl4 := hbl3.trans hk4.bel
               clear hj4 hk4
               have q1 := HQ4.out.cell 1
               have q2 := HQ4.out.cell 2
               have q3 := HQ4.out.cell 3
               have q4 := HQ4.out.cell 4
               have j0 := HB4.out.cell 0
               have j1 := HB4.out.cell 1
               have j2 := HB4.out.cell 2)
            | (go_at_call 20
               refine (HD.out _ HR4.out).mono ?_
               clear HD
               rintro e' w5 ⟨a5, c5, rfl, hc5, hr5, hb5⟩
               have HB5 := sh (HB4.out.below hb5 HB4.out.lt)
               have HJ5 := sh (HJ4.out.below hb5)
               have r0 := HB5.out.cell 0
               have r1 := HB5.out.cell 1
               have r2 := HB5.out.cell 2
               have y0 := HB5.out.free 0
               have y1 := HB5.out.free 1
               have y2 := HB5.out.free 2
               have hN5 : B + 1 + 1 < w5.heap.size := HB5.out.lt
               have hbl5 := hbl4.trans (hb5.mono (by have := HB4.out.lt; omega))
               obtain ⟨W6, hW6, hj6, hb6, hr6, hbl6, hk6⟩ := box_store (cp' := c5) HJ5.out HB5.out (show B ≤ B + 1 + 1 by omega) hr5
               have H6 := sh (And.intro (hj6.below ((Below.refl _ _).alloc (Nat.le_refl _) (.cells #[.int .i64 most, .int .i64 opn, .slice a5 L'.length c5] 46))) (And.intro (hb6.alloc (.cells #[.int .i64 most, .int .i64 opn, .slice a5 L'.length c5] 46)) (hr6.below ((Below.refl _ _).alloc (Nat.le_refl _) (.cells #[.int .i64 most, .int .i64 opn, .slice a5 L'.length c5] 46)))))
               have HBl6 := sh ((hbl5.trans hbl6).alloc (show B ≤ W6.heap.size by have := hbl6.size; omega) (.cells #[.int .i64 most, .int .i64 opn, .slice a5 L'.length c5] 46))
               clear hj6 hb6 hr6 hbl6 hk6 hr5 hb5
               subst hW6))
          obtain ⟨A9, L9, al9, cp9, S9, hb9⟩ : ∃ A9 L9 al9 cp9, Sh (PlS B (B + 1 + 1) most opn A9 al9 L9 cp9 (k + 1) ((((w5.setCell ⟨B + 1 + 1, 0, none⟩ (.int .i64 most)).setCell ⟨B + 1 + 1, 1, none⟩ (.int .i64 opn)).setCell ⟨B + 1 + 1, 2, none⟩ (.slice a5 L'.length c5)).alloc (.cells #[.int .i64 most, .int .i64 opn, .slice a5 L'.length c5] 46))) ∧ Sh (Below B w2 ((((w5.setCell ⟨B + 1 + 1, 0, none⟩ (.int .i64 most)).setCell ⟨B + 1 + 1, 1, none⟩ (.int .i64 opn)).setCell ⟨B + 1 + 1, 2, none⟩ (.slice a5 L'.length c5)).alloc (.cells #[.int .i64 most, .int .i64 opn, .slice a5 L'.length c5] 46))) := by
            refine ⟨_, _, _, _, ⟨⟨H6.out.1, HK.out, HE.out, H6.out.2.1, H6.out.2.2, hc5, ?_, ?_⟩⟩, HBl6⟩
            · have := HL.out.1; have := HLk.out.1; omega
            · have := HL.out.2; have := HLk.out.2; omega
          clear HK HE H6 hc5 HBl6 HL HLk HB5 HJ5 r0 r1 r2 y0 y1 y2
          generalize ((((w5.setCell ⟨B + 1 + 1, 0, none⟩ (.int .i64 most)).setCell ⟨B + 1 + 1, 1, none⟩ (.int .i64 opn)).setCell ⟨B + 1 + 1, 2, none⟩ (.slice a5 L'.length c5)).alloc (.cells #[.int .i64 most, .int .i64 opn, .slice a5 L'.length c5] 46)) = W9 at *
          have hk60 : k + 1 ≤ 1000 := by omega
          have HI := sh (fun (W : World) (h : PlS B (B + 1 + 1) most opn A9 al9 L9 cp9 (k + 1) W) => open_pl h)
          have HR := sh (fun (W : World) (h : PlS B (B + 1 + 1) most opn A9 al9 L9 cp9 (k + 1) W) => ids_pl h hk60)
          have hBk : B ≤ W9.heap.size := by have := hb9.out.size; have := S9.out.box.lt; omega
          have S10 := sh (S9.out.drewN 1)
          have hb10 := sh (below_drewN hb9.out 1)
          have j0 := S9.out.box.cell 0
          have j1 := S9.out.box.cell 1
          have j2 := S9.out.box.cell 2
          go_region_with (first
            | (go_at_call 15
               refine (HI.out _ S10.out).mono ?_
               rintro e' wa ⟨xa, ca, rfl, hra, hba⟩
               have Ta := sh (S10.out.below hba)
               have hbda := hb10.out.trans (hba.mono hBk)
               have j0 := Ta.out.box.cell 0
               have j1 := Ta.out.box.cell 1
               have j2 := Ta.out.box.cell 2)
            | (go_at_call 15
               refine (HI.out _ Tb.out).mono ?_
               rintro e' wa ⟨xa, ca, rfl, hra, hba⟩
               have HF := sh (PlE.mk (Tb.out.below hba) hra (hrb.below hba) (hbdb.trans (hba.mono (by have := hbdb.size; have := Tb.out.box.lt; omega)))))
            | (go_at_call 21
               refine (HR.out _ S10.out).mono ?_
               rintro e' wb ⟨xb, cb, rfl, hrb, hbb⟩
               have Tb := sh (S10.out.below hbb)
               have hbdb := hb10.out.trans (hbb.mono hBk))
            | (go_at_call 21
               refine (HR.out _ Ta.out).mono ?_
               rintro e' wb ⟨xb, cb, rfl, hrb, hbb⟩
               have HF := sh (PlE.mk (Ta.out.below hbb) (hra.below hbb) hrb (hbda.trans (hbb.mono (by have := hbda.size; have := Ta.out.box.lt; omega))))))
          all_goals
            clear HI HR S10 hb10 Ta hra hrb hba hbb hbda j0 j1 j2 S9 hb9
            have hu1 : ¬ most < ((usedA A9 : Nat) : Int) := by have := HF.out.s.ok.use; omega
            have hu2 : ¬ opn < (A9.length : Int) := by have := HF.out.s.ok.len; omega
            have hA9 : A9.length ≤ 9223372036854775807 := by have := HF.out.s.ok.len; omega
            have HU := sh (fun (W : World) (hS : W.cell? ⟨B + 1 + 1, 0, none⟩ = some (.int .i64 most) ∧ W.cell? ⟨B + 1 + 1, 1, none⟩ = some (.int .i64 opn) ∧ W.cell? ⟨B + 1 + 1, 2, none⟩ = some (.slice al9 L9.length cp9) ∧ PlE B (B + 1 + 1) most opn A9 al9 L9 cp9 (k + 1) w2 xa xb W) => used_any hS.2.2.2.s.jn)
            have HV := sh (fun (W : World) (hS : W.cell? ⟨B + 1 + 1, 0, none⟩ = some (.int .i64 most) ∧ W.cell? ⟨B + 1 + 1, 1, none⟩ = some (.int .i64 opn) ∧ W.cell? ⟨B + 1 + 1, 2, none⟩ = some (.slice al9 L9.length cp9) ∧ PlE B (B + 1 + 1) most opn A9 al9 L9 cp9 (k + 1) w2 xa xb W) => used_pl hS.2.2.2.s hk60)
            generalize hug : usedA A9 = ug at hu1 HU HV
            have hd1 : decide (most < (ug : Int)) = false := decide_eq_false hu1
            have hd2 : decide (opn < (A9.length : Int)) = false := decide_eq_false hu2
            have HC := sh (ple_cells HF.out)
            go_wp2_with fail
            go_region_held3 (fun W => W.cell? ⟨B + 1 + 1, 0, none⟩ = some (.int .i64 most) ∧ W.cell? ⟨B + 1 + 1, 1, none⟩ = some (.int .i64 opn) ∧ W.cell? ⟨B + 1 + 1, 2, none⟩ = some (.slice al9 L9.length cp9) ∧ PlE B (B + 1 + 1) most opn A9 al9 L9 cp9 (k + 1) w2 xa xb W)
              (first | assumption | exact HC.out | exact ple_keep (by assumption) (by assumption))
              (first
                | (go_at_call 16; refine (HU.out _ (by assumption)).mono ?_; rintro e' w7 ⟨rfl, rfl⟩)
                | (go_at_call 22; refine (HV.out _ (by assumption)).mono ?_; rintro e' w8 ⟨rfl, hb8⟩))
            all_goals
              rename_i hH
              have HE := sh hH.2.2.2
              clear hH HC HF HU HV hd1 hd2
              go_wp2_with fail
              go_loopw [26] (fun v26 wq => ∃ i : Nat, i ≤ A9.length ∧ v26 = .int .i64 (i : Int) ∧ Sh (PlE B (B + 1 + 1) most opn A9 al9 L9 cp9 (k + 1) w2 xa xb wq)) (fun v26 _ => A9.length - (RowKit.intOf v26).toNat)
              case atStart => exact ⟨0, by omega, rfl, HE⟩
              case round =>
                obtain ⟨i, hi, rfl, HEi⟩ := hrel
                by_cases hil : i < A9.length
                · obtain ⟨y, hy⟩ : ∃ y, (idsA A9)[i]? = some y := ⟨_, List.getElem?_eq_getElem (by rw [idsA_len]; exact hil)⟩
                  obtain ⟨ga, rfl, ca0⟩ := HEi.out.ra.at_ hy
                  obtain ⟨gb, rfl, cb0⟩ := HEi.out.rb.at_ hy
                  clear hy
                  go_wp2_with fail
                  go_quiet (fail)
                  all_goals
                    have HEj := sh (HEi.out.below (below_drewN (Below.refl _ _) nq))
                    go_wp2_with fail
                    go_roundw
                    case rel => exact ⟨i + 1, by omega, by go_num, HEj⟩
                    case measure => simp [RowKit.intOf]; omega
                · go_wp2_with fail
                  go_roundw
                  case rel => exact ⟨k + 1, A9, L9, al9, cp9, by omega, by go_num, ⟨HEi.out.s⟩, HEi.out.bel⟩
                  case measure => simp [RowKit.intOf]; omega
    · go_wp2_with fail
      go_ret
      exact ⟨rfl, hb.trans (hbr.mono (by rw [← hBB]; exact hb.size))⟩
end Go.Proofs.Ytoclbcpfiacoaaa
