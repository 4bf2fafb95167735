/- ScorePlays: the statement's walk, both boards, act for act. -/
import Derived.Test.YtckdahojhdbpjaaDoorPly2
import Derived.Deep.LoopGhost
import Derived.Deep.DeepCutAuto
import Derived.Deep.CutBlock
import Derived.Deep.CutRange
namespace Go.Proofs.YtckdahojhdbpjaaDoor
set_option linter.unusedVariables false
set_option linter.unusedSimpArgs false
open Go.RowKit

def Cut1 (B N Y Q : Nat) (lim hal ban : Int) (k : Nat) (kd : Int) (pr : ByteArray) (nw er : Int) (w2 : World) (v14 v15 : Value) (W : World) : Prop :=
  ∃ (x : Int) (L : LA) (a : Option Addr) (cp : Nat), v14 = .int .i64 x ∧ v15 = .int .i64 x ∧ PlM B N Y Q lim hal ban L a cp (k + 1) kd pr nw er w2 W
abbrev BnC (B N Y Q : Nat) (lim hal ban : Int) (L : LA) (a : Option Addr) (cp k : Nat) (kd : Int) (pr : ByteArray) (nw er : Int) (w2 W : World) : Prop :=
  W.cell? ⟨N, 0, none⟩ = some (.int .i64 lim) ∧ W.cell? ⟨N, 1, none⟩ = some (.int .i64 hal) ∧ W.cell? ⟨N, 2, none⟩ = some (.int .i64 ban) ∧ W.cell? ⟨N, 3, none⟩ = some (.slice a L.length cp) ∧
  W.cell? ⟨Q, 1, none⟩ = some (.string pr) ∧ W.cell? ⟨Q, 2, none⟩ = some (.int .i64 nw) ∧ PlM B N Y Q lim hal ban L a cp k kd pr nw er w2 W
theorem bnc_keep {B N Y Q : Nat} {lim hal ban : Int} {L : LA} {a : Option Addr} {cp k : Nat} {kd : Int} {pr : ByteArray} {nw er : Int} {w2 W W' : World}
    (h : BnC B N Y Q lim hal ban L a cp k kd pr nw er w2 W) (hb : Below W.heap.size W W') : BnC B N Y Q lim hal ban L a cp k kd pr nw er w2 W' := by
  obtain ⟨h1, h2, h3, h4, h5, h6, h7⟩ := h
  have e : ∀ {b o : Nat} {v : Value}, W.cell? ⟨b, o, none⟩ = some v → W'.cell? ⟨b, o, none⟩ = some v := fun {b o v} hc => (hb.cell (p := ⟨b, o, none⟩) (World.block_lt_of_cell? W ⟨b, o, none⟩ hc)).trans hc
  exact ⟨e h1, e h2, e h3, e h4, e h5, e h6, h7.below hb⟩
def Cut2 (B N Q : Nat) (lim hal ban : Int) (L : LA) (a : Option Addr) (cp k : Nat) (kd : Int) (pr : ByteArray) (nw er : Int) (w2 : World) (v17 v18 : Value) (W : World) : Prop :=
  ∃ (xa : Option Addr) (ca : Nat) (xb : Option Addr) (cb : Nat), v17 = .slice xa L.length ca ∧ v18 = .slice xb L.length cb ∧ PlE B N Q lim hal ban L a cp k kd pr nw er w2 xa xb W
def Rel2 (B N Q : Nat) (lim hal ban : Int) (L : LA) (a : Option Addr) (cp k : Nat) (kd : Int) (pr : ByteArray) (nw er : Int) (w2 : World) (xa xb : Option Addr) (gj : Nat) (v19 : Value) (W : World) : Prop :=
  ∃ j : Nat, j + gj = L.length ∧ v19 = .int .i64 (j : Int) ∧ PlE B N Q lim hal ban L a cp k kd pr nw er w2 xa xb W
def Rel1 (B : Nat) (lim hal ban : Int) (len : Nat) (w2 : World) (gk : Nat) (v12 : Value) (wr : World) : Prop :=
  ∃ (k : Nat) (L : LA) (al : Option Addr) (cp : Nat), k + gk = len ∧ v12 = .int .i64 (k : Int) ∧ PlS B (B + 1 + 1) lim hal ban L al cp k wr ∧ Below B w2 wr
set_option maxRecDepth 100000 in
set_option maxHeartbeats 20000000 in
theorem plays_loop (lim hal ban : Int) (a : Option Addr) (len cap : Nat) (Z : List AC) (w : World) (hT : Tab w) (h0 : 0 < w.heap.size) (hz : IsActs w a len Z) (hwf : ∀ z ∈ Z, (0 ≤ z.1 ∧ z.1 ≤ 255)) (hsz : ∀ z ∈ Z, z.2.1.size ≤ 9223372036854775807) (c1 : ¬ (80 : Int) < (len : Int))
    (hr : rightB lim hal ban = true) :
    Calls Tryd.prog 5 #[.int .i64 lim, .int .i64 hal, .int .i64 ban, .slice a len cap] w fun e w' => e = .returned (.bool true) ∧ Below w.heap.size w w' := by
  have HA := sh (alive_any w hT h0)
  have HN := sh (fun W => new_right lim hal ban W hr)
  unfold NewPost at HN
  have HR : Sh (∀ W, Calls Tryd.prog 7 #[.int .i64 lim, .int .i64 hal, .int .i64 ban] W fun e w' => e = .returned (.bool true) ∧ W = w') := ⟨fun W => by have := right_any lim hal ban W; rw [hr] at this; exact this⟩
  have HT := sh (fun (W : World) (hb : Below w.heap.size w W) => hT.below hb h0)
  have HZ := sh hz
  have HF := sh (And.intro hwf hsz)
  have HL := sh (lm_of hr)
  have hZl := hz.1
  clear hz hwf hr hT hsz
  go_enter Tryd.func5, Tryd.ntmps5
  go_wp2_with (first
    | (go_at_call 6; refine HA.out.mono ?_; clear HA; rintro e' w2 ⟨rfl, hb⟩)
    | (go_at_call 8; refine (HN.out _).mono ?_; clear HN; rintro e' w3 ⟨rfl, rfl⟩)
    | (go_at_call 7; refine (HR.out _).mono ?_; clear HR; rintro e' w3 ⟨rfl, rfl⟩))
  have hbz : w.heap.size ≤ w2.heap.size := hb.size
  have S0 := sh (plS_start (w := w) (lim := lim) (hal := hal) (ban := ban) (B := w2.heap.size) rfl (by omega) (HT.out w2 hb))
  have Z0 := sh (HZ.out.below hb (Nat.le_refl _))
  have hb0 : Below w2.heap.size w2 (((w2.alloc (.map #[] 0)).alloc (.cells #[.int .i64 lim, .int .i64 hal, .int .i64 ban, .map (some w2.heap.size)] 59)).alloc (.cells #[.int .i64 lim, .int .i64 hal, .int .i64 ban, .slice none 0 0] 43)) := (((Below.refl _ w2).alloc (Nat.le_refl _) _).alloc (by simp) _).alloc (by simp; omega) _
  clear HZ HT
  generalize hW0 : (((w2.alloc (.map #[] 0)).alloc (.cells #[.int .i64 lim, .int .i64 hal, .int .i64 ban, .map (some w2.heap.size)] 59)).alloc (.cells #[.int .i64 lim, .int .i64 hal, .int .i64 ban, .slice none 0 0] 43)) = W0 at *
  have hB0 := hb0
  generalize hBB : w2.heap.size = B at *
  have SBB := sh hBB
  have HB := sh hb
  clear hBB hW0 hb
  go_loopg [12] len (fun gk v12 wr => Rel1 B lim hal ban len w2 gk v12 wr)
  case atStart => exact ⟨0, [], none, 0, by omega, rfl, S0.out, hB0⟩
  case round =>
    clear S0
    obtain ⟨k, L, al, cp, hgk, rfl, hS, hbr⟩ := hrel
    have HS := sh hS
    have HBr := sh hbr
    clear hS hbr
    by_cases hlt : k < len
    · obtain ⟨z, hzk⟩ : ∃ z, Z[k]? = some z := ⟨_, List.getElem?_eq_getElem (by omega)⟩
      obtain ⟨x, rfl, hxb, a0, a1, a2, a3⟩ := (Z0.out.below HBr.out (by have := SBB.out; omega)).at_ hzk
      have hzw := HF.out.1 z (List.mem_of_getElem? hzk)
      have hzs := HF.out.2 z (List.mem_of_getElem? hzk)
      clear hzk
      obtain ⟨kd, pr, nw, er⟩ := z
      simp only at a0 a1 a2 a3 hzw hzs
      obtain ⟨e0, e255⟩ := hzw
      by_cases c3 : (100 : Int) < (pr.size : Int)
      · have HBx := sh (HB.out.trans (((HBr.out).alloc (by have := HBr.out.size; have := SBB.out; omega) (.cells #[.int .u8 kd, .string pr, .int .i64 nw, .int .i64 er] 45)).mono hbz))
        go_wp2_with fail
        go_ret
        exact ⟨rfl, HBx.out⟩
      · have hN : B + 1 + 1 < wr.heap.size := HS.out.box.lt
        have j0 := HS.out.box.cell 0
        have j1 := HS.out.box.cell 1
        have j2 := HS.out.box.cell 2
        have j3 := HS.out.box.cell 3
        have hprm : pr.size ≤ maxLen := by unfold maxLen; omega
        go_upto_block 2 with fail
        have hwr : B ≤ wr.heap.size := by omega
        have hll : L.length ≤ 1000 := by have := HS.out.len; omega
        have SM := sh (PlM.mk (Q := wr.heap.size) (Y := wr.heap.size + 1) (kd := kd) (pr := pr) (nw := nw) (er := er) (w2 := w2)
          ((HS.out.bd.below (((Below.refl _ wr).alloc (Nat.le_refl _) (.cells #[.int .u8 kd, .string pr, .int .i64 nw, .int .i64 er] 45)).alloc (by simp) (.cells #[.int .i64 lim, .int .i64 hal, .int .i64 ban, .slice al L.length cp] 43))).mono (Nat.le_succ k))
          (HS.out.tab.below (((Below.refl _ wr).alloc (Nat.le_refl _) (.cells #[.int .u8 kd, .string pr, .int .i64 nw, .int .i64 er] 45)).alloc (by simp) (.cells #[.int .i64 lim, .int .i64 hal, .int .i64 ban, .slice al L.length cp] 43)) (by omega))
          ⟨lim, hal, ban, al, L.length, cp, (HS.out.box.alloc (.cells #[.int .u8 kd, .string pr, .int .i64 nw, .int .i64 er] 45)).alloc (.cells #[.int .i64 lim, .int .i64 hal, .int .i64 ban, .slice al L.length cp] 43)⟩
          (by have h := Bk.made (wr.alloc (.cells #[.int .u8 kd, .string pr, .int .i64 nw, .int .i64 er] 45)) 43 #[.int .i64 lim, .int .i64 hal, .int .i64 ban, .slice al L.length cp]; rw [World.size_alloc] at h; exact h)
          (HS.out.row.below (((Below.refl _ wr).alloc (Nat.le_refl _) (.cells #[.int .u8 kd, .string pr, .int .i64 nw, .int .i64 er] 45)).alloc (by simp) (.cells #[.int .i64 lim, .int .i64 hal, .int .i64 ban, .slice al L.length cp] 43)))
          ((Bk.made wr 45 #[.int .u8 kd, .string pr, .int .i64 nw, .int .i64 er]).alloc _) HS.out.hcp (Nat.le_succ_of_le HS.out.len) HS.out.b0 (show B ≤ B + 1 + 1 by omega) (by omega)
          ((HBr.out.alloc hwr (.cells #[.int .u8 kd, .string pr, .int .i64 nw, .int .i64 er] 45)).alloc (by simp; omega) (.cells #[.int .i64 lim, .int .i64 hal, .int .i64 ban, .slice al L.length cp] 43)))
        have HBk := sh (HS.out.bd.below (((Below.refl _ wr).alloc (Nat.le_refl _) (.cells #[.int .u8 kd, .string pr, .int .i64 nw, .int .i64 er] 45)).alloc (by simp) (.cells #[.int .i64 lim, .int .i64 hal, .int .i64 ban, .slice al L.length cp] 43)))
        have HNb := sh ((HS.out.box.alloc (.cells #[.int .u8 kd, .string pr, .int .i64 nw, .int .i64 er] 45)).alloc (.cells #[.int .i64 lim, .int .i64 hal, .int .i64 ban, .slice al L.length cp] 43))
        clear j0 j1 j2 j3 a0 a1 a2 a3
        generalize hMM : wr.heap.size = M at *
        generalize ((wr.alloc (.cells #[.int .u8 kd, .string pr, .int .i64 nw, .int .i64 er] 45)).alloc (.cells #[.int .i64 lim, .int .i64 hal, .int .i64 ban, .slice al L.length cp] 43)) = W1 at *
        have hNM : B + 1 + 1 < M := hN
        clear hMM
        have hB00 : 0 < B := HS.out.b0
        have HD := sh (And.intro HS.out.bd.oks HS.out.bd.nmNd)
        have hcp0 := HS.out.hcp
        have hlk := HS.out.len
        have HD9 := sh (fun W (hb : Brd W B (B + 1) B k lim hal ban L) (ht : Tab W) => fault_bk hb HL.out.l1 HL.out.l2 HL.out.h1 HL.out.b1 HL.out.b2 ht hB00 pr hprm (by unfold maxLen; omega) nw er)
        have HD19 := sh (fun W (hr : RowP W al L) => rfault pr nw er W HL.out.l1 HL.out.l2 HL.out.h1 HL.out.b1 HL.out.b2 HD.out.1 HD.out.2 hr hcp0 hll)
        have HD14 := sh (fun W (hb : Brd W B (B + 1) B k lim hal ban L) => sweep_brd hb HL.out.h1 hll nw)
        have HD18 := sh (fun W (hr : RowP W al L) => rsweep lim hal ban al L cp nw W HL.out.h1 HD.out.1 hr hll)
        have HD10 := sh (fun W (hb : Brd W B (B + 1) B k lim hal ban L) => score_brd hb HL.out.h1 pr hprm nw)
        have HD16 := sh (fun W (hr : RowP W al L) => rscore lim hal ban al L cp pr nw W HL.out.h1 HD.out.1 hr hll)
        have HD12 := sh (fun W (hb : Brd W B (B + 1) B (k + 1) lim hal ban L) => banned_brd hb pr hprm nw)
        have HD17 := sh (fun W (hr : RowP W al L) => rbanned lim hal ban al L cp pr nw W hr hll)
        unfold FaultBK at HD9
        unfold SweepPost BV at HD19 HD18
        unfold SweepBK at HD14
        have hfl := faultL_len lim hal ban L pr nw er
        have hsl := sweepL_len hal L nw
        go_cut [14, 15] (fun v14 v15 wx => Cut1 B (B + 1 + 1) (M + 1) M lim hal ban k kd pr nw er w2 v14 v15 wx)
        case first =>
          have q0 := SM.out.qbox.cell 0
          have q1 := SM.out.qbox.cell 1
          have q2 := SM.out.qbox.cell 2
          have q3 := SM.out.qbox.cell 3
          have j0 := HNb.out.cell 0
          have j1 := HNb.out.cell 1
          have j2 := HNb.out.cell 2
          have j3 := HNb.out.cell 3
          by_cases e3 : (kd % 6 == 3) = true
          · clear HD9 HD19 HD14 HD18 HD12 HD17
            go_wp2_with (first
              | (go_at_call 10
                 refine (HD10.out _ HBk.out).mono ?_
                 rintro e' w4 ⟨rfl, q, rfl⟩
                 have S4 := sh (SM.out.drewN q))
              | (go_at_call 16
                 refine (HD16.out _ S4.out.row).mono ?_
                 rintro e' w5 ⟨rfl, hb5⟩
                 have S5 := sh (S4.out.below hb5)))
            go_meet
            exact ⟨_, L, al, cp, rfl, rfl, S5.out⟩
          · have e3' : (kd % 6 == 3) = false := by simpa using e3
            clear e3
            by_cases e4 : (kd % 6 == 4) = true
            · clear HD9 HD19 HD14 HD18 HD10 HD16
              generalize decide (clipZ nw < untilL L pr) = bb at *
              have HC := sh (bnc_keep (B := B) (Y := M + 1) (k := k + 1) (kd := kd) (er := er) (w2 := w2) ⟨j0, j1, j2, j3, q1, q2, SM.out⟩ (below_drewN (Below.refl _ _) 1))
              have HU12 := sh (fun (W : World) (hS : BnC B (B + 1 + 1) (M + 1) M lim hal ban L al cp (k + 1) kd pr nw er w2 W) => HD12.out W hS.2.2.2.2.2.2.bd)
              have HU17 := sh (fun (W : World) (hS : BnC B (B + 1 + 1) (M + 1) M lim hal ban L al cp (k + 1) kd pr nw er w2 W) => HD17.out W hS.2.2.2.2.2.2.row)
              clear HD12 HD17
              cases bb
              all_goals
                go_wp2_with fail
                go_region_held3 (fun W => BnC B (B + 1 + 1) (M + 1) M lim hal ban L al cp (k + 1) kd pr nw er w2 W)
                  (first | assumption | exact HC.out | exact bnc_keep (by assumption) (by assumption))
                  (first
                    | (go_at_call 12; refine (HU12.out _ (by assumption)).mono ?_; rintro e' w4 ⟨rfl, rfl⟩)
                    | (go_at_call 17; refine (HU17.out _ (by assumption)).mono ?_; rintro e' w5 ⟨rfl, hb5⟩))
              all_goals
                rename_i hH
                have HE := sh hH.2.2.2.2.2.2
                clear hH
                go_wp2_with fail
                go_meet
                exact ⟨0, L, al, cp, rfl, rfl, HE.out⟩
            · have e4' : (kd % 6 == 4) = false := by simpa using e4
              clear e4 HD12 HD17 HD10 HD16
              by_cases e5 : (kd % 6 == 5) = true
              · clear HD9 HD19
                generalize sweepL hal L nw = L2 at *
                go_wp2_with (first
                  | (go_at_call 14
                     refine (HD14.out _ HBk.out).mono ?_
                     rintro e' w4 ⟨rfl, hbd4, hb4, hk4⟩
                     obtain ⟨ht4, hr4, hq4, hy4, hn4, hbw4⟩ := SM.out.acted hb4 hk4
                     have HNb4 := sh (HNb.out.kp hk4 (by decide))
                     have S4 := sh (And.intro hbd4 (And.intro ht4 (And.intro hr4 (And.intro hq4 (And.intro hy4 (And.intro hn4 hbw4))))))
                     have hB4 : B ≤ w4.heap.size := hbd4.lt
                     have q1 := hq4.cell 1
                     have q2 := hq4.cell 2
                     have q3 := hq4.cell 3
                     have j0 := HNb4.out.cell 0
                     have j1 := HNb4.out.cell 1
                     have j2 := HNb4.out.cell 2
                     have j3 := HNb4.out.cell 3
                     clear hbd4 hb4 hk4 ht4 hr4 hq4 hy4 hn4 hbw4)
                  | (go_at_call 18
                     refine (HD18.out _ S4.out.2.2.1).mono ?_
                     rintro e' w5 ⟨a5, c5, rfl, hc5, hr5, hb5⟩
                     obtain ⟨hbd4, ht4, hr4, hq4, hy4, ⟨x0, x1, x2, xa, xn, xc, hn4⟩, hbw4⟩ := S4.out
                     have S5 := sh (And.intro (hbd4.below hb5) (And.intro (ht4.below hb5 (by omega)) (And.intro (hn4.below hb5 hn4.lt) (And.intro (hy4.below hb5 hy4.lt) (And.intro hr5 (And.intro (hq4.below hb5 hq4.lt) (hbw4.trans (hb5.mono hB4))))))))
                     have y0 := S5.out.2.2.2.1.cell 0
                     have y1 := S5.out.2.2.2.1.cell 1
                     have y2 := S5.out.2.2.2.1.cell 2
                     have y3 := S5.out.2.2.2.1.cell 3
                     have f0 := S5.out.2.2.2.1.free 0
                     have f1 := S5.out.2.2.2.1.free 1
                     have f2 := S5.out.2.2.2.1.free 2
                     have f3 := S5.out.2.2.2.1.free 3
                     clear hbd4 ht4 hr4 hq4 hy4 hn4 hbw4 hr5 hb5))
                go_meet
                exact ⟨_, L2, a5, c5, rfl, rfl, plM_new (S5.out.1.mono (Nat.le_succ k)) S5.out.2.1 ⟨x0, x1, x2, xa, xn, xc, S5.out.2.2.1⟩ S5.out.2.2.2.1 S5.out.2.2.2.2.1 S5.out.2.2.2.2.2.1 hc5 (by omega) hB00 (by omega) (by omega) (by omega) S5.out.2.2.2.2.2.2⟩
              · have e5' : (kd % 6 == 5) = false := by simpa using e5
                clear e5 HD14 HD18
                generalize faultL lim hal ban L pr nw er = r at *
                obtain ⟨L2, x2⟩ := r
                simp only at HD9 HD19 hfl
                go_wp2_with (first
                  | (go_at_call 9
                     refine (HD9.out _ HBk.out SM.out.tab).mono ?_
                     rintro e' w4 ⟨rfl, hbd4, hb4, hk4⟩
                     obtain ⟨ht4, hr4, hq4, hy4, hn4, hbw4⟩ := SM.out.acted hb4 hk4
                     have HNb4 := sh (HNb.out.kp hk4 (by decide))
                     have S4 := sh (And.intro hbd4 (And.intro ht4 (And.intro hr4 (And.intro hq4 (And.intro hy4 (And.intro hn4 hbw4))))))
                     have hB4 : B ≤ w4.heap.size := hbd4.lt
                     have q1 := hq4.cell 1
                     have q2 := hq4.cell 2
                     have q3 := hq4.cell 3
                     have j0 := HNb4.out.cell 0
                     have j1 := HNb4.out.cell 1
                     have j2 := HNb4.out.cell 2
                     have j3 := HNb4.out.cell 3
                     clear hbd4 hb4 hk4 ht4 hr4 hq4 hy4 hn4 hbw4)
                  | (go_at_call 19
                     refine (HD19.out _ S4.out.2.2.1).mono ?_
                     rintro e' w5 ⟨a5, c5, rfl, hc5, hr5, hb5⟩
                     obtain ⟨hbd4, ht4, hr4, hq4, hy4, ⟨x0, x1, x9, xa, xn, xc, hn4⟩, hbw4⟩ := S4.out
                     have S5 := sh (And.intro (hbd4.below hb5) (And.intro (ht4.below hb5 (by omega)) (And.intro (hn4.below hb5 hn4.lt) (And.intro (hy4.below hb5 hy4.lt) (And.intro hr5 (And.intro (hq4.below hb5 hq4.lt) (hbw4.trans (hb5.mono hB4))))))))
                     have y0 := S5.out.2.2.2.1.cell 0
                     have y1 := S5.out.2.2.2.1.cell 1
                     have y2 := S5.out.2.2.2.1.cell 2
                     have y3 := S5.out.2.2.2.1.cell 3
                     have f0 := S5.out.2.2.2.1.free 0
                     have f1 := S5.out.2.2.2.1.free 1
                     have f2 := S5.out.2.2.2.1.free 2
                     have f3 := S5.out.2.2.2.1.free 3
                     clear hbd4 ht4 hr4 hq4 hy4 hn4 hbw4 hr5 hb5))
                go_meet
                exact ⟨_, L2, a5, c5, rfl, rfl, plM_new S5.out.1 S5.out.2.1 ⟨x0, x1, x9, xa, xn, xc, S5.out.2.2.1⟩ S5.out.2.2.2.1 S5.out.2.2.2.2.1 S5.out.2.2.2.2.2.1 hc5 (by omega) hB00 (by omega) (by omega) (by omega) S5.out.2.2.2.2.2.2⟩
        case rest =>
          obtain ⟨x, L2, a2, cp2, rfl, rfl, hM⟩ := hcut
          clear SM HNb HBk HD HD9 HD19 HD14 HD18 HD10 HD16 HD12 HD17 hfl hsl HS hll hcp0 hlk
          have SP := sh hM.stored
          have hl2 : L2.length ≤ 1000 := by have := hM.len; omega
          have hy := hM.ybox
          obtain ⟨z0, z1, z2, za, zn, zc, hn⟩ := hM.nbox
          have y0 := hy.cell 0
          have y1 := hy.cell 1
          have y2 := hy.cell 2
          have y3 := hy.cell 3
          have n0 := hn.cell 0
          have n1 := hn.cell 1
          have n2 := hn.cell 2
          have n3 := hn.cell 3
          have f0 := hn.free 0
          have f1 := hn.free 1
          have f2 := hn.free 2
          have f3 := hn.free 3
          clear hy hn hM
          go_upto_region 32 with fail
          clear y0 y1 y2 y3 n0 n1 n2 n3 f0 f1 f2 f3
          generalize ((((wc.setCell ⟨B + 1 + 1, 0, none⟩ (.int .i64 lim)).setCell ⟨B + 1 + 1, 1, none⟩ (.int .i64 hal)).setCell ⟨B + 1 + 1, 2, none⟩ (.int .i64 ban)).setCell ⟨B + 1 + 1, 3, none⟩ (.slice a2 L2.length cp2)) = W3 at *
          go_cut [17, 18] (fun v17 v18 wx => Cut2 B (B + 1 + 1) M lim hal ban L2 a2 cp2 (k + 1) kd pr nw er w2 v17 v18 wx)
          case first =>
            have HI := sh (fun (W : World) (h : PlS B (B + 1 + 1) lim hal ban L2 a2 cp2 (k + 1) W) => peers_brd h.bd hl2)
            have HJ := sh (fun (W : World) (h : PlS B (B + 1 + 1) lim hal ban L2 a2 cp2 (k + 1) W) => rnames lim hal ban a2 L2 cp2 W h.row hl2)
            unfold PeersPost at HI
            unfold NamesPost at HJ
            have j0 := SP.out.1.box.cell 0
            have j1 := SP.out.1.box.cell 1
            have j2 := SP.out.1.box.cell 2
            have j3 := SP.out.1.box.cell 3
            have S10 := sh (SP.out.1.drewN 1)
            have Q10 := sh (SP.out.2.1.drewN 1)
            have hb10 := sh (below_drewN SP.out.2.2 1)
            have hBk : B ≤ (W3.drewN 1).heap.size := S10.out.bd.lt
            go_region_with (first
              | (go_at_call 15
                 refine (HI.out _ S10.out).mono ?_
                 rintro e' wa ⟨xa, ca, rfl, hra, hba⟩
                 have Ta := sh (S10.out.below hba)
                 have Qa := sh (Q10.out.below hba Q10.out.lt)
                 have hbda := hb10.out.trans (hba.mono hBk)
                 have j0 := Ta.out.box.cell 0
                 have j1 := Ta.out.box.cell 1
                 have j2 := Ta.out.box.cell 2
                 have j3 := Ta.out.box.cell 3)
              | (go_at_call 15
                 refine (HI.out _ Tb.out).mono ?_
                 rintro e' wa ⟨xa, ca, rfl, hra, hba⟩
                 have HF2 := sh (PlE.mk (Tb.out.below hba) hra (hrb.below hba) (Qb.out.below hba Qb.out.lt) (hbdb.trans (hba.mono Tb.out.bd.lt))))
              | (go_at_call 20
                 refine (HJ.out _ S10.out).mono ?_
                 rintro e' wb ⟨xb, cb, rfl, hrb, hbb⟩
                 have Tb := sh (S10.out.below hbb)
                 have Qb := sh (Q10.out.below hbb Q10.out.lt)
                 have hbdb := hb10.out.trans (hbb.mono hBk))
              | (go_at_call 20
                 refine (HJ.out _ Ta.out).mono ?_
                 rintro e' wb ⟨xb, cb, rfl, hrb, hbb⟩
                 have HF2 := sh (PlE.mk (Ta.out.below hbb) (hra.below hbb) hrb (Qa.out.below hbb Qa.out.lt) (hbda.trans (hbb.mono Ta.out.bd.lt)))))
            all_goals
              go_wp2_with fail
              go_meet
              exact ⟨xa, ca, xb, cb, rfl, rfl, HF2.out⟩
          case rest =>
            clear SP
            obtain ⟨xa, ca, xb, cb, rfl, rfl, hE⟩ := hcut
            have q3 := hE.qbox.cell 3
            have HTb := sh (fun n : Nat => (hE.s.drewN n).tab)
            have HE := sh hE
            clear hE
            go_wp2_with fail
            go_quiet (first
              | (go_at_call 21; exact Calls.quiet_of_same ((points_any _ _ (HTb.out _)).mono fun _ _ ⟨h1, h2⟩ => ⟨h1, h2.symm⟩))
              | (go_at_call 11; exact Calls.quiet_of_same ((refpoints_any _ _).mono fun _ _ ⟨h1, h2⟩ => ⟨h1, h2.symm⟩)))
            all_goals
              have HE2 := sh (HE.out.below (below_drewN (Below.refl _ _) nq))
              clear HE HTb q3
              go_wp2_with fail
              generalize wc.drewN nq = W5 at *
              have HPE := sh HE2.out
              obtain ⟨q0, HQ0⟩ : ∃ q0 : Nat, Sh (q0 + 1 = gk) := ⟨gk - 1, ⟨by omega⟩⟩
              go_loopg [19] L2.length (fun gj v19 wq => Rel2 B (B + 1 + 1) M lim hal ban L2 a2 cp2 (k + 1) kd pr nw er w2 xa xb gj v19 wq)
              case atStart => exact ⟨0, by omega, rfl, HE2.out⟩
              case round =>
                clear HE2 HPE
                obtain ⟨j, hgj, rfl, hQ⟩ := hrel
                by_cases hjl : j < L2.length
                · obtain ⟨y, hy⟩ : ∃ y, (namesL L2)[j]? = some y := ⟨_, List.getElem?_eq_getElem (by rw [namesL_len]; exact hjl)⟩
                  obtain ⟨p, hp, rfl⟩ := namesL_mem (List.mem_of_getElem? hy)
                  obtain ⟨ga, rfl, ca0⟩ := hQ.ra.at_ hy
                  obtain ⟨gb, rfl, cb0⟩ := hQ.rb.at_ hy
                  have nd := hQ.s.bd.nmNd
                  obtain ⟨i, hi, hbef⟩ := acc_some_at (acc_mem nd hp)
                  have hil : i < L2.length := (List.getElem?_eq_some_iff.1 hi).1
                  obtain ⟨gp, rfl, _, d0, d1, d2, d3⟩ := hQ.s.row.at_ hi
                  have hps := hQ.s.bd.szs p hp
                  have hum := until_mem nd hp
                  have HC := sh (pec_keep (ga := ga) (gb := gb) (gp := gp) (j := j) (i := i) (y := p.1) (til := p.2.til) ⟨ca0, cb0, hQ.s.box.cell 0, hQ.s.box.cell 1, hQ.s.box.cell 2, hQ.s.box.cell 3, d3, hQ⟩ (below_drewN (Below.refl _ _) 1))
                  have HU13 := sh (fun (W : World) (hS : PeC B (B + 1 + 1) M lim hal ban L2 (some ⟨gp, 0, none⟩) cp2 (k + 1) kd pr nw er w2 (some ⟨ga, 0, none⟩) (some ⟨gb, 0, none⟩) ga gb gp j i p.1 p.2.til W) => until_brd hS.2.2.2.2.2.2.2.s.bd p.1 hps)
                  rw [hum] at HU13
                  have HU22 := sh (fun (W : World) (hS : PeC B (B + 1 + 1) M lim hal ban L2 (some ⟨gp, 0, none⟩) cp2 (k + 1) kd pr nw er w2 (some ⟨ga, 0, none⟩) (some ⟨gb, 0, none⟩) ga gb gp j i p.1 p.2.til W) => rfind_some lim hal ban (some ⟨gp, 0, none⟩) L2 cp2 p.1 W hS.2.2.2.2.2.2.2.s.row hl2 hi rfl hbef)
                  clear hy hp nd hi hbef hum d0 d1 d2 d3 hQ ca0 cb0
                  go_wp2_with fail
                  go_region_held3 (fun W => PeC B (B + 1 + 1) M lim hal ban L2 (some ⟨gp, 0, none⟩) cp2 (k + 1) kd pr nw er w2 (some ⟨ga, 0, none⟩) (some ⟨gb, 0, none⟩) ga gb gp j i p.1 p.2.til W)
                    (first | assumption | exact HC.out | exact pec_keep (by assumption) (by assumption))
                    (first
                      | (go_at_call 13; refine (HU13.out _ (by assumption)).mono ?_; rintro e' w7 ⟨rfl, rfl⟩)
                      | (go_at_call 22; refine (HU22.out _ (by assumption)).mono ?_; rintro e' w8 ⟨rfl, hb8⟩))
                  all_goals
                    rename_i hH
                    have HZ2 := sh hH.2.2.2.2.2.2.2
                    clear hH
                    go_wp2_with fail
                    go_roundg (gk - 1)
                    case measure => omega
                    case rel => exact ⟨j + 1, by omega, by go_num, HZ2.out⟩
                · have HQ := sh hQ
                  clear hQ
                  go_wp2_with fail
                  go_roundg q0
                  case measure => have := HQ0.out; omega
                  case rel => exact ⟨k + 1, L2, a2, cp2, by have := HQ0.out; omega, by go_num, HQ.out.s, HQ.out.bel⟩
    · have hk : k = len := by omega
      have HBx := sh (HB.out.trans ((HBr.out).mono hbz))
      go_wp2_with fail
      go_ret
      exact ⟨rfl, HBx.out⟩
end Go.Proofs.YtckdahojhdbpjaaDoor
