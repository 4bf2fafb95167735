/- The reference's board (layer 29): Fault of what bears no points. -/
import Derived.Test.YtckdahojhdbpjaaDoorP6
namespace Go.Proofs.YtckdahojhdbpjaaDoor
set_option linter.unusedVariables false
set_option linter.unusedSimpArgs false
open Go.RowKit

/-- a board is stored -/
theorem res_store {W : World} {N : Nat} {x0 x1 x2 x3 : Value} (lim hal ban : Int) {a : Option Addr} {L : LA} (n cp : Nat) (hR : Bk W N 43 #[x0, x1, x2, x3]) (hrow : RowP W a L) :
    Bk ((((W.setCell ⟨N, 0, none⟩ (.int .i64 lim)).setCell ⟨N, 1, none⟩ (.int .i64 hal)).setCell ⟨N, 2, none⟩ (.int .i64 ban)).setCell ⟨N, 3, none⟩ (.slice a n cp)) N 43 #[.int .i64 lim, .int .i64 hal, .int .i64 ban, .slice a n cp] ∧
    RowP ((((W.setCell ⟨N, 0, none⟩ (.int .i64 lim)).setCell ⟨N, 1, none⟩ (.int .i64 hal)).setCell ⟨N, 2, none⟩ (.int .i64 ban)).setCell ⟨N, 3, none⟩ (.slice a n cp)) a L ∧
    ∀ {w : World} {B : Nat}, B ≤ N → Below B w W → Below B w ((((W.setCell ⟨N, 0, none⟩ (.int .i64 lim)).setCell ⟨N, 1, none⟩ (.int .i64 hal)).setCell ⟨N, 2, none⟩ (.int .i64 ban)).setCell ⟨N, 3, none⟩ (.slice a n cp)) := by
  have h1 := hR.put 0 (.int .i64 lim)
  have h2 := h1.put 1 (.int .i64 hal)
  have h3 := h2.put 2 (.int .i64 ban)
  have h4 := h3.put 3 (.slice a n cp)
  exact ⟨h4, (((hrow.set (p := ⟨N, 0, none⟩) hR (by decide) _).set (p := ⟨N, 1, none⟩) h1 (by decide) _).set (p := ⟨N, 2, none⟩) h2 (by decide) _).set (p := ⟨N, 3, none⟩) h3 (by decide) _,
    fun {w B} hB hb => (((hb.setCell (p := ⟨N, 0, none⟩) hB _).setCell (p := ⟨N, 1, none⟩) hB _).setCell (p := ⟨N, 2, none⟩) hB _).setCell (p := ⟨N, 3, none⟩) hB _⟩
set_option maxRecDepth 100000 in
set_option maxHeartbeats 4000000 in
theorem rfault_zero (lim hal ban : Int) (a : Option Addr) (L : LA) (cp : Nat) (nm : ByteArray) (now e : Int) (w : World) (h1 : 1 ≤ hal) (ok : ∀ p ∈ L, p.2.ok) (hL : RowP w a L) (hcp : L.length ≤ cp) (hn : L.length ≤ 1000) (hz : ptsZ e = 0) :
    Calls Tryd.prog 19 #[.agg #[.int .i64 lim, .int .i64 hal, .int .i64 ban, .slice a L.length cp], .string nm, .int .i64 now, .int .i64 e] w (SweepPost w lim hal ban L (scoreL hal L nm now)) := by
  have hJ := (Bk.made w 43 #[.int .i64 lim, .int .i64 hal, .int .i64 ban, .slice a L.length cp]).alloc (.cells #[.int .i64 0, .int .i64 0, .int .i64 0, .slice none 0 0] 43)
  have hR := Bk.made (w.alloc (.cells #[.int .i64 lim, .int .i64 hal, .int .i64 ban, .slice a L.length cp] 43)) 43 #[.int .i64 0, .int .i64 0, .int .i64 0, .slice none 0 0]
  rw [World.size_alloc] at hR
  have hbw : Below w.heap.size w ((w.alloc (.cells #[.int .i64 lim, .int .i64 hal, .int .i64 ban, .slice a L.length cp] 43)).alloc (.cells #[.int .i64 0, .int .i64 0, .int .i64 0, .slice none 0 0] 43)) := ((Below.refl _ w).alloc (Nat.le_refl _) _).alloc (by simp) _
  have SL := sh (hL.below hbw)
  have SJ := sh hJ
  have SR := sh hR
  have SW := sh hbw
  have HS := sh (fun (W : World) (h : RowP W a L) => rscore lim hal ban a L cp nm now W h1 ok h hn)
  have hz0 : (ptsZ e == 0) = true := by simp [hz]
  have HP := sh (fun W => refpoints_any e W)
  have HC := sh hcp
  clear hL hJ hR hbw hz hcp
  generalize scoreL hal L nm now = x at *
  go_enter Tryd.func19, Tryd.ntmps19
  go_wp2_with (go_at_call 11; refine (HP.out _).mono ?_; rintro e' w' ⟨rfl, rfl⟩)
  generalize ((w.alloc (.cells #[.int .i64 lim, .int .i64 hal, .int .i64 ban, .slice a L.length cp] 43)).alloc (.cells #[.int .i64 0, .int .i64 0, .int .i64 0, .slice none 0 0] 43)) = W0 at *
  have j0 := SJ.out.cell 0
  have j1 := SJ.out.cell 1
  have j2 := SJ.out.cell 2
  have j3 := SJ.out.cell 3
  have r0 := SR.out.cell 0
  have r1 := SR.out.cell 1
  have r2 := SR.out.cell 2
  have r3 := SR.out.cell 3
  have y0 := SR.out.free 0
  have y1 := SR.out.free 1
  have y2 := SR.out.free 2
  have y3 := SR.out.free 3
  have SJd := sh (SJ.out.drewN 1)
  have SRd := sh (SR.out.drewN 1)
  have SLd := sh (SL.out.below (below_drewN (Below.refl _ _) 1))
  have SWd := sh (below_drewN SW.out 1)
  have hw0 : w.heap.size ≤ (W0.drewN 1).heap.size := SW.out.size
  have ST := sh (res_store lim hal ban L.length cp SRd.out SLd.out)
  have STb := sh (ST.out.2.2 (show w.heap.size ≤ w.heap.size + 1 by omega) SWd.out)
  have STl := sh ST.out.1.lt
  go_region_with (first
    | (go_at_call 16
       refine (HS.out _ SLd.out).mono ?_
       rintro e' w3 ⟨rfl, hb3⟩
       have SR3 := sh (SRd.out.below hb3 SRd.out.lt)
       have SL3 := sh (SLd.out.below hb3)
       have SJ3 := sh (SJd.out.below hb3 SJd.out.lt)
       have u0 := SJ3.out.cell 0
       have u1 := SJ3.out.cell 1
       have u2 := SJ3.out.cell 2
       have u3 := SJ3.out.cell 3
       have SB3 := sh (SWd.out.trans (hb3.mono hw0))
       clear hb3
       have q0 := SR3.out.cell 0
       have q1 := SR3.out.cell 1
       have q2 := SR3.out.cell 2
       have q3 := SR3.out.cell 3
       have z0 := SR3.out.free 0
       have z1 := SR3.out.free 1
       have z2 := SR3.out.free 2
       have z3 := SR3.out.free 3
       obtain ⟨B5, R5, L5⟩ := res_store lim hal ban L.length cp SR3.out SL3.out
       have SE := sh (And.intro B5 (And.intro R5 (L5 (show w.heap.size ≤ w.heap.size + 1 by omega) SB3.out)))
       clear B5 R5 L5)
    | (go_at_call 16
       refine (HS.out _ ST.out.2.1).mono ?_
       rintro e' w3 ⟨rfl, hb3⟩
       have SE := sh (And.intro (ST.out.1.below hb3 STl.out) (And.intro (ST.out.2.1.below hb3) (STb.out.trans (hb3.mono (by have := STl.out; omega)))))
       clear hb3))
  all_goals
    have e0 := SE.out.1.cell 0
    have e1 := SE.out.1.cell 1
    have e2 := SE.out.1.cell 2
    have e3 := SE.out.1.cell 3
    simp at e0 e1 e2 e3
    go_wp2_with fail
    refine bodyPost_ret (v := .tuple #[BV lim hal ban a L.length cp, .int .i64 x]) ?_ ?_ ⟨a, cp, rfl, HC.out, SE.out.2.1, SE.out.2.2⟩
    · simp [results, Tryd.results19, go_sem, e0, e1, e2, e3, BV]
    · rfl
end Go.Proofs.YtckdahojhdbpjaaDoor
