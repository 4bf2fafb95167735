/- The reference's board (layer 29): Fault of what bears points. -/
import Derived.Test.YtckdahojhdbpjaaDoorP7
import Derived.Deep.Cut
namespace Go.Proofs.YtckdahojhdbpjaaDoor
set_option linter.unusedVariables false
set_option linter.unusedSimpArgs false
open Go.RowKit

/-- the row that Fault has made: its peers, one of which it is -/
structure FR (w W : World) (N : Nat) (lim hal ban : Int) (a : Option Addr) (n cp : Nat) (L1 : LA) (v : Value) : Prop where
  b : Bk W N 43 #[.int .i64 lim, .int .i64 hal, .int .i64 ban, .slice a n cp]
  r : Bk W (N + 1) 43 #[.int .i64 0, .int .i64 0, .int .i64 0, .slice none 0 0]
  own : W.ownsRow (N + 1 + 1) 53 4 v L1.length (prsC L1)
  bel : Below N w W
  sz : N + 1 + 1 ≤ W.heap.size
theorem FR.below {w W W' : World} {N : Nat} {lim hal ban : Int} {a : Option Addr} {n cp : Nat} {L1 : LA} {v : Value} (h : FR w W N lim hal ban a n cp L1 v) (hb : Below W.heap.size W W') : FR w W' N lim hal ban a n cp L1 v :=
  ⟨h.b.below hb h.b.lt, h.r.below hb h.r.lt, own_below h.own hb, h.bel.trans (hb.mono (by have := h.sz; omega)), by have := h.sz; have := hb.size; omega⟩
theorem FQ.below {w W W' : World} {N M g : Nat} {bd rs pc cur : Array Value} (h : FQ w N M g bd rs pc cur W) (hb : Below W.heap.size W W') : FQ w N M g bd rs pc cur W' :=
  ⟨h.b.below hb h.b.lt, h.r.below hb h.r.lt, h.p.below hb h.p.lt, h.l.below hb h.l.lt, h.bel.trans (hb.mono (by have := h.b.lt; omega)), h.nM, h.nG, h.ne⟩
theorem fault_end {w W : World} {M g k cp1 : Nat} {bd rs pc cur : Array Value} {lim hal ban now e : Int} {L1 : LA} {nm : ByteArray} {p q : Acc} (hq : faultA lim hal ban now (ptsZ e) p = q) (h : FQ w w.heap.size M g bd rs pc (putC cur k (nm, q)) W)
    (hk : k < L1.length) (hs : L1.length * 4 ≤ cur.size) (hca : ∀ o, o < L1.length * 4 → cur[o]? = (prsC L1)[o]?) (hc : L1.length ≤ cp1) :
    SweepPost w lim hal ban (L1.set k (nm, faultA lim hal ban now (ptsZ e) p)) (faultA lim hal ban now (ptsZ e) p).pts (.returned (.tuple #[BV lim hal ban (some ⟨g, 0, none⟩) L1.length cp1, .int .i64 q.pts])) W := by
  subst hq
  obtain ⟨h1, h2⟩ := putC_row (nm, faultA lim hal ban now (ptsZ e) p) hk hs hca
  exact ⟨some ⟨g, 0, none⟩, cp1, by rw [List.length_set], by rw [List.length_set]; exact hc, .inr ⟨g, _, rfl, h.l, h1, h2⟩, h.bel⟩
set_option maxRecDepth 100000 in
set_option maxHeartbeats 8000000 in
theorem rfault_old (lim hal ban : Int) (a : Option Addr) (L : LA) (cp k : Nat) (nm : ByteArray) (p : Acc) (now e : Int) (w : World) (hl : 1 ≤ lim) (hlM : lim ≤ 1000000) (h1 : 1 ≤ hal) (hb1 : 1 ≤ ban) (hb2 : ban ≤ 1099511627776) (ok : p.ok) (hL : RowP w a L) (hn : L.length ≤ 1000) (hz : 0 < ptsZ e)
    (hk : L[k]? = some (nm, p)) (hbef : ∀ (i : Nat) (p : PQ), i < k → L[i]? = some p → p.1 ≠ nm) :
    Calls Tryd.prog 19 #[.agg #[.int .i64 lim, .int .i64 hal, .int .i64 ban, .slice a L.length cp], .string nm, .int .i64 now, .int .i64 e] w (SweepPost w lim hal ban (L.set k (nm, faultA lim hal ban now (ptsZ e) p)) (faultA lim hal ban now (ptsZ e) p).pts) := by
  have hkl := (List.getElem?_eq_some_iff.1 hk).1
  have hqe := ptsZ_bd e
  obtain ⟨i53, hc0, hc1, hc2, hc3⟩ := info_parts info53
  have hJ := (Bk.made w 43 #[.int .i64 lim, .int .i64 hal, .int .i64 ban, .slice a L.length cp]).alloc (.cells #[.int .i64 0, .int .i64 0, .int .i64 0, .slice none 0 0] 43)
  have hR := Bk.made (w.alloc (.cells #[.int .i64 lim, .int .i64 hal, .int .i64 ban, .slice a L.length cp] 43)) 43 #[.int .i64 0, .int .i64 0, .int .i64 0, .slice none 0 0]
  rw [World.size_alloc] at hR
  have hbw : Below w.heap.size w ((w.alloc (.cells #[.int .i64 lim, .int .i64 hal, .int .i64 ban, .slice a L.length cp] 43)).alloc (.cells #[.int .i64 0, .int .i64 0, .int .i64 0, .slice none 0 0] 43)) := ((Below.refl _ w).alloc (Nat.le_refl _) _).alloc (by simp) _
  have SL := sh (hL.below hbw)
  have SJ := sh hJ
  have SR := sh hR
  have SW := sh hbw
  have HF := sh (fun (W : World) (h : RowP W a L) => rfind_some lim hal ban a L cp nm W h hn hk rfl hbef)
  have HP := sh (fun W => refpoints_any e W)
  have HK := sh hk
  have hz0 : (ptsZ e == 0) = false := by simp; omega
  have hsz0 : ((w.alloc (.cells #[.int .i64 lim, .int .i64 hal, .int .i64 ban, .slice a L.length cp] 43)).alloc (.cells #[.int .i64 0, .int .i64 0, .int .i64 0, .slice none 0 0] 43)).heap.size = w.heap.size + 1 + 1 := by simp
  have HA := sh (fun W => rat lim hal ban a L.length cp nm p now W h1 ok)
  obtain ⟨q0, q1, q2, q3, q4, q5⟩ := ok
  have hAA := atZ_bd hal p.pts p.at_ now q0
  have hcl := clipZ_bd now
  clear hL hJ hR hbw hk hbef
  by_cases hA : p.at_ < clipZ now
  all_goals by_cases hLl : atZ hal p.pts p.at_ now + ptsZ e < lim
  all_goals
   go_enter Tryd.func19, Tryd.ntmps19
   go_wp2_with fail
   refine (HP.out _).mono ?_
   rintro e' w' ⟨rfl, rfl⟩
   generalize ((w.alloc (.cells #[.int .i64 lim, .int .i64 hal, .int .i64 ban, .slice a L.length cp] 43)).alloc (.cells #[.int .i64 0, .int .i64 0, .int .i64 0, .slice none 0 0] 43)) = W0 at *
   have SM := sh (show Bk (W0.alloc (.cells #[] 53)) (w.heap.size + 1 + 1) 53 #[] by have h := Bk.made W0 53 #[]; rw [hsz0] at h; exact h)
   have j0 := SJ.out.cell 0
   have j1 := SJ.out.cell 1
   have j2 := SJ.out.cell 2
   have j3 := SJ.out.cell 3
   go_upto_region 9 with (first
     | (go_at_call 11; refine (HP.out _).mono ?_; rintro e' w' ⟨rfl, rfl⟩)
     | (at_builtin
        (refine wpList_first rfl _ _ rfl (w.heap.size + 1 + 1) (w.heap.size + 1 + 1) SM.out (Nat.le_refl _) (by simp; omega) rfl a cp L rfl (SL.out.below ((Below.refl _ W0).alloc (Nat.le_refl _) _)) hn ?_)
        intro v1 w1 hown hg
        (have S1 : FR w w1 w.heap.size lim hal ban a L.length cp L v1 := ⟨((SJ.out.alloc _).grown hg (by have := SJ.out.lt; intro e; have := Option.some.inj e; omega)), ((SR.out.alloc _).grown hg (by have := SR.out.lt; intro e; have := Option.some.inj e; omega)), hown, below_append ((SW.out.alloc (by omega) _)) (own_empty (B := w.heap.size) SM.out (by omega)) (by rw [World.size_alloc]; omega) hg, by have := hg.size; rw [World.size_alloc] at this; omega⟩)
        have SS1 := sh S1
        (have SL1 := sh (SL.out.below (below_append ((Below.refl _ W0).alloc (Nat.le_refl _) (.cells #[] 53)) (own_empty (B := W0.heap.size) SM.out (by omega)) (by rw [World.size_alloc]; omega) hg)))
        clear hown hg S1
        have j0 := SS1.out.b.cell 0
        have j1 := SS1.out.b.cell 1
        have j2 := SS1.out.b.cell 2
        have j3 := SS1.out.b.cell 3)
     | (go_at_call 22
        refine (HF.out _ SL1.out).mono ?_
        rintro e' w2 ⟨rfl, hb2⟩
        have SS2 := sh (SS1.out.below hb2)
        obtain ⟨g, cp1, cur, hv, hgB, hBk, hcs, hca, hcp1⟩ := own_parts SS2.out.own (by omega)
        obtain rfl := hv
        have hM : g < w2.heap.size := hBk.lt
        have a0 : w2.cell? ⟨g, k * 4, none⟩ = some (.string nm) := (hBk.cell _).trans ((hca _ (by omega)).trans (prsC_at HK.out).1)
        have a1 : w2.cell? ⟨g, k * 4 + 1, none⟩ = some (.int .i64 p.pts) := (hBk.cell _).trans ((hca _ (by omega)).trans (prsC_at HK.out).2.1)
        have a2 : w2.cell? ⟨g, k * 4 + 2, none⟩ = some (.int .i64 p.at_) := (hBk.cell _).trans ((hca _ (by omega)).trans (prsC_at HK.out).2.2.1)
        have a3 : w2.cell? ⟨g, k * 4 + 3, none⟩ = some (.int .i64 p.til) := (hBk.cell _).trans ((hca _ (by omega)).trans (prsC_at HK.out).2.2.2)
        have hs2 := SS2.out.sz
        have SF := sh (FQ.mk (w := w) (N := w.heap.size) (M := w2.heap.size) (g := g) (SS2.out.b.alloc (.cells #[.string nm, .int .i64 p.pts, .int .i64 p.at_, .int .i64 p.til] 53)) (SS2.out.r.alloc _) (Bk.made w2 53 _) (hBk.alloc _) (SS2.out.bel.alloc (by omega) _) (by omega) (by omega) (by omega))
        clear hb2))
  all_goals
   have i0 := SF.out.b.cell 0
   have i1 := SF.out.b.cell 1
   have i2 := SF.out.b.cell 2
   have i3 := SF.out.b.cell 3
   have d0 := SF.out.p.cell 0
   have d1 := SF.out.p.cell 1
   have d2 := SF.out.p.cell 2
   have d3 := SF.out.p.cell 3
   generalize (w2.alloc (.cells #[.string nm, .int .i64 p.pts, .int .i64 p.at_, .int .i64 p.til] 53)) = W3 at *
   generalize w2.heap.size = M at *
   go_wp2_with (first
     | (go_at_call 11; refine (HP.out _).mono ?_; rintro e' w' ⟨rfl, rfl⟩)
     | (go_at_call 28
        refine (HA.out _).mono ?_
        rintro e' w5 ⟨rfl, hb5⟩
        have SF5 := sh (SF.out.below hb5)
        have b0 := SF5.out.b.cell 0
        have b1 := SF5.out.b.cell 1
        have b2 := SF5.out.b.cell 2
        have b3 := SF5.out.b.cell 3
        have c0 := SF5.out.p.cell 0
        have c1 := SF5.out.p.cell 1
        have c2 := SF5.out.p.cell 2
        have c3 := SF5.out.p.cell 3
        have f1 := SF5.out.p.free 1
        have f2 := SF5.out.p.free 2
        have f3 := SF5.out.p.free 3
        have z3 := SF5.out.b.free 3
        have l0 := SF5.out.l.free (k * 4)
        have l1 := SF5.out.l.free (k * 4 + 1)
        have l2 := SF5.out.l.free (k * 4 + 2)
        have l3 := SF5.out.l.free (k * 4 + 3)
        have m0 := (SF5.out.l.cell (k * 4)).trans ((hca _ (by omega)).trans (prsC_at HK.out).1)
        have m1 := (SF5.out.l.cell (k * 4 + 1)).trans ((hca _ (by omega)).trans (prsC_at HK.out).2.1)
        have m2 := (SF5.out.l.cell (k * 4 + 2)).trans ((hca _ (by omega)).trans (prsC_at HK.out).2.2.1)
        have m3 := (SF5.out.l.cell (k * 4 + 3)).trans ((hca _ (by omega)).trans (prsC_at HK.out).2.2.2)
        have y0 := SF5.out.r.free 0
        have y1 := SF5.out.r.free 1
        have y2 := SF5.out.r.free 2
        have y3 := SF5.out.r.free 3
        have x0 := SF5.out.r.cell 0
        have x1 := SF5.out.r.cell 1
        have x2 := SF5.out.r.cell 2
        have x3 := SF5.out.r.cell 3
        clear i0 i1 i2 i3 d0 d1 d2 d3 hb5))
  all_goals
    go_wp2_with fail
    go_quiet ((go_at_call 29; exact Calls.quiet_of_same ((rclip _ _).mono fun _ _ ⟨h1, h2⟩ => ⟨h1, h2.symm⟩)))
    go_wp2_with (go_at_call 29; refine (rclip _ _).mono ?_; rintro e' w' ⟨rfl, rfl⟩)
  · have HQ := sh (show faultA lim hal ban now (ptsZ e) p = ⟨atZ hal p.pts p.at_ now + ptsZ e, clipZ now, p.til⟩ by unfold faultA; simp only [maxZ]; (repeat' split) <;> first | rfl | (exfalso; omega))
    have SX := sh (((((((((SF5.out).setP 1 (.int .i64 (atZ hal p.pts p.at_ now + ptsZ e))).drewN nq).setP 2 (.int .i64 (clipZ now))).setL (k * 4) (.string nm)).setL (k * 4 + 1) (.int .i64 (atZ hal p.pts p.at_ now + ptsZ e))).setL (k * 4 + 2) (.int .i64 (clipZ now))).setL (k * 4 + 3) (.int .i64 (p.til))).setB 3 (.slice (some ⟨g, 0, none⟩) L.length cp1))
    have d0 := SX.out.b.cell 0
    have d1 := SX.out.b.cell 1
    have d2 := SX.out.b.cell 2
    have d3 := SX.out.b.cell 3
    have g1 := SX.out.p.cell 1
    have t0 := SX.out.r.cell 0
    have t1 := SX.out.r.cell 1
    have t2 := SX.out.r.cell 2
    have t3 := SX.out.r.cell 3
    have v0 := SX.out.r.free 0
    have v1 := SX.out.r.free 1
    have v2 := SX.out.r.free 2
    have v3 := SX.out.r.free 3
    clear SF5 b0 b1 b2 b3 c0 c1 c2 c3 f1 f2 f3 z3 l0 l1 l2 l3 m0 m1 m2 m3 y0 y1 y2 y3 x0 x1 x2 x3
    generalize (((((((w5.setCell ⟨M, 1, none⟩ (.int .i64 (atZ hal p.pts p.at_ now + ptsZ e))).drewN nq).setCell ⟨M, 2, none⟩ (.int .i64 (clipZ now))).setCell ⟨g, k * 4, none⟩ (.string nm)).setCell ⟨g, k * 4 + 1, none⟩ (.int .i64 (atZ hal p.pts p.at_ now + ptsZ e))).setCell ⟨g, k * 4 + 2, none⟩ (.int .i64 (clipZ now))).setCell ⟨g, k * 4 + 3, none⟩ (.int .i64 (p.til))).setCell ⟨w.heap.size, 3, none⟩ (.slice (some ⟨g, 0, none⟩) L.length cp1) = W6 at *
    simp at d0 d1 d2 d3 g1 t0 t1 t2 t3
    have SE := sh ((((((SX.out.setR 0 (.int .i64 lim)).setR 1 (.int .i64 hal)).setR 2 (.int .i64 ban)).setR 3 (.slice (some ⟨g, 0, none⟩) L.length cp1))).drewN 1)
    have e0 := SE.out.r.cell 0
    have e1 := SE.out.r.cell 1
    have e2 := SE.out.r.cell 2
    have e3 := SE.out.r.cell 3
    simp at e0 e1 e2 e3
    have SF := sh (fault_end HQ.out SE.out hkl hcs hca hcp1)
    clear SX SE HQ
    go_region
    go_wp2_with fail
    refine bodyPost_ret ?_ rfl SF.out
    simp [results, Tryd.results19, go_sem, e0, e1, e2, e3, BV]
  · have HQ := sh (show faultA lim hal ban now (ptsZ e) p = ⟨0, clipZ now, clipZ now + ban⟩ by unfold faultA; simp only [maxZ]; (repeat' split) <;> first | rfl | (exfalso; omega))
    have SX := sh (((((((((((SF5.out).setP 1 (.int .i64 (atZ hal p.pts p.at_ now + ptsZ e))).drewN nq).setP 2 (.int .i64 (clipZ now))).setP 1 (.int .i64 (0))).setP 3 (.int .i64 (clipZ now + ban))).setL (k * 4) (.string nm)).setL (k * 4 + 1) (.int .i64 (0))).setL (k * 4 + 2) (.int .i64 (clipZ now))).setL (k * 4 + 3) (.int .i64 (clipZ now + ban))).setB 3 (.slice (some ⟨g, 0, none⟩) L.length cp1))
    have d0 := SX.out.b.cell 0
    have d1 := SX.out.b.cell 1
    have d2 := SX.out.b.cell 2
    have d3 := SX.out.b.cell 3
    have g1 := SX.out.p.cell 1
    have t0 := SX.out.r.cell 0
    have t1 := SX.out.r.cell 1
    have t2 := SX.out.r.cell 2
    have t3 := SX.out.r.cell 3
    have v0 := SX.out.r.free 0
    have v1 := SX.out.r.free 1
    have v2 := SX.out.r.free 2
    have v3 := SX.out.r.free 3
    clear SF5 b0 b1 b2 b3 c0 c1 c2 c3 f1 f2 f3 z3 l0 l1 l2 l3 m0 m1 m2 m3 y0 y1 y2 y3 x0 x1 x2 x3
    generalize (((((((((w5.setCell ⟨M, 1, none⟩ (.int .i64 (atZ hal p.pts p.at_ now + ptsZ e))).drewN nq).setCell ⟨M, 2, none⟩ (.int .i64 (clipZ now))).setCell ⟨M, 1, none⟩ (.int .i64 (0))).setCell ⟨M, 3, none⟩ (.int .i64 (clipZ now + ban))).setCell ⟨g, k * 4, none⟩ (.string nm)).setCell ⟨g, k * 4 + 1, none⟩ (.int .i64 (0))).setCell ⟨g, k * 4 + 2, none⟩ (.int .i64 (clipZ now))).setCell ⟨g, k * 4 + 3, none⟩ (.int .i64 (clipZ now + ban))).setCell ⟨w.heap.size, 3, none⟩ (.slice (some ⟨g, 0, none⟩) L.length cp1) = W6 at *
    simp at d0 d1 d2 d3 g1 t0 t1 t2 t3
    have SE := sh ((((((SX.out.setR 0 (.int .i64 lim)).setR 1 (.int .i64 hal)).setR 2 (.int .i64 ban)).setR 3 (.slice (some ⟨g, 0, none⟩) L.length cp1))).drewN 1)
    have e0 := SE.out.r.cell 0
    have e1 := SE.out.r.cell 1
    have e2 := SE.out.r.cell 2
    have e3 := SE.out.r.cell 3
    simp at e0 e1 e2 e3
    have SF := sh (fault_end HQ.out SE.out hkl hcs hca hcp1)
    clear SX SE HQ
    go_region
    go_wp2_with fail
    refine bodyPost_ret ?_ rfl SF.out
    simp [results, Tryd.results19, go_sem, e0, e1, e2, e3, BV]
  · have HQ := sh (show faultA lim hal ban now (ptsZ e) p = ⟨0, clipZ now, p.til⟩ by unfold faultA; simp only [maxZ]; (repeat' split) <;> first | rfl | (exfalso; omega))
    have SX := sh ((((((((((SF5.out).setP 1 (.int .i64 (atZ hal p.pts p.at_ now + ptsZ e))).drewN nq).setP 2 (.int .i64 (clipZ now))).setP 1 (.int .i64 (0))).setL (k * 4) (.string nm)).setL (k * 4 + 1) (.int .i64 (0))).setL (k * 4 + 2) (.int .i64 (clipZ now))).setL (k * 4 + 3) (.int .i64 (p.til))).setB 3 (.slice (some ⟨g, 0, none⟩) L.length cp1))
    have d0 := SX.out.b.cell 0
    have d1 := SX.out.b.cell 1
    have d2 := SX.out.b.cell 2
    have d3 := SX.out.b.cell 3
    have g1 := SX.out.p.cell 1
    have t0 := SX.out.r.cell 0
    have t1 := SX.out.r.cell 1
    have t2 := SX.out.r.cell 2
    have t3 := SX.out.r.cell 3
    have v0 := SX.out.r.free 0
    have v1 := SX.out.r.free 1
    have v2 := SX.out.r.free 2
    have v3 := SX.out.r.free 3
    clear SF5 b0 b1 b2 b3 c0 c1 c2 c3 f1 f2 f3 z3 l0 l1 l2 l3 m0 m1 m2 m3 y0 y1 y2 y3 x0 x1 x2 x3
    generalize ((((((((w5.setCell ⟨M, 1, none⟩ (.int .i64 (atZ hal p.pts p.at_ now + ptsZ e))).drewN nq).setCell ⟨M, 2, none⟩ (.int .i64 (clipZ now))).setCell ⟨M, 1, none⟩ (.int .i64 (0))).setCell ⟨g, k * 4, none⟩ (.string nm)).setCell ⟨g, k * 4 + 1, none⟩ (.int .i64 (0))).setCell ⟨g, k * 4 + 2, none⟩ (.int .i64 (clipZ now))).setCell ⟨g, k * 4 + 3, none⟩ (.int .i64 (p.til))).setCell ⟨w.heap.size, 3, none⟩ (.slice (some ⟨g, 0, none⟩) L.length cp1) = W6 at *
    simp at d0 d1 d2 d3 g1 t0 t1 t2 t3
    have SE := sh ((((((SX.out.setR 0 (.int .i64 lim)).setR 1 (.int .i64 hal)).setR 2 (.int .i64 ban)).setR 3 (.slice (some ⟨g, 0, none⟩) L.length cp1))).drewN 1)
    have e0 := SE.out.r.cell 0
    have e1 := SE.out.r.cell 1
    have e2 := SE.out.r.cell 2
    have e3 := SE.out.r.cell 3
    simp at e0 e1 e2 e3
    have SF := sh (fault_end HQ.out SE.out hkl hcs hca hcp1)
    clear SX SE HQ
    go_region
    go_wp2_with fail
    refine bodyPost_ret ?_ rfl SF.out
    simp [results, Tryd.results19, go_sem, e0, e1, e2, e3, BV]
  · have HQ := sh (show faultA lim hal ban now (ptsZ e) p = ⟨atZ hal p.pts p.at_ now + ptsZ e, p.at_, p.til⟩ by unfold faultA; simp only [maxZ]; (repeat' split) <;> first | rfl | (exfalso; omega))
    have SX := sh ((((((((SF5.out).setP 1 (.int .i64 (atZ hal p.pts p.at_ now + ptsZ e))).drewN nq).setL (k * 4) (.string nm)).setL (k * 4 + 1) (.int .i64 (atZ hal p.pts p.at_ now + ptsZ e))).setL (k * 4 + 2) (.int .i64 (p.at_))).setL (k * 4 + 3) (.int .i64 (p.til))).setB 3 (.slice (some ⟨g, 0, none⟩) L.length cp1))
    have d0 := SX.out.b.cell 0
    have d1 := SX.out.b.cell 1
    have d2 := SX.out.b.cell 2
    have d3 := SX.out.b.cell 3
    have g1 := SX.out.p.cell 1
    have t0 := SX.out.r.cell 0
    have t1 := SX.out.r.cell 1
    have t2 := SX.out.r.cell 2
    have t3 := SX.out.r.cell 3
    have v0 := SX.out.r.free 0
    have v1 := SX.out.r.free 1
    have v2 := SX.out.r.free 2
    have v3 := SX.out.r.free 3
    clear SF5 b0 b1 b2 b3 c0 c1 c2 c3 f1 f2 f3 z3 l0 l1 l2 l3 m0 m1 m2 m3 y0 y1 y2 y3 x0 x1 x2 x3
    generalize ((((((w5.setCell ⟨M, 1, none⟩ (.int .i64 (atZ hal p.pts p.at_ now + ptsZ e))).drewN nq).setCell ⟨g, k * 4, none⟩ (.string nm)).setCell ⟨g, k * 4 + 1, none⟩ (.int .i64 (atZ hal p.pts p.at_ now + ptsZ e))).setCell ⟨g, k * 4 + 2, none⟩ (.int .i64 (p.at_))).setCell ⟨g, k * 4 + 3, none⟩ (.int .i64 (p.til))).setCell ⟨w.heap.size, 3, none⟩ (.slice (some ⟨g, 0, none⟩) L.length cp1) = W6 at *
    simp at d0 d1 d2 d3 g1 t0 t1 t2 t3
    have SE := sh ((((((SX.out.setR 0 (.int .i64 lim)).setR 1 (.int .i64 hal)).setR 2 (.int .i64 ban)).setR 3 (.slice (some ⟨g, 0, none⟩) L.length cp1))).drewN 1)
    have e0 := SE.out.r.cell 0
    have e1 := SE.out.r.cell 1
    have e2 := SE.out.r.cell 2
    have e3 := SE.out.r.cell 3
    simp at e0 e1 e2 e3
    have SF := sh (fault_end HQ.out SE.out hkl hcs hca hcp1)
    clear SX SE HQ
    go_region
    go_wp2_with fail
    refine bodyPost_ret ?_ rfl SF.out
    simp [results, Tryd.results19, go_sem, e0, e1, e2, e3, BV]
  · have HQ := sh (show faultA lim hal ban now (ptsZ e) p = ⟨0, p.at_, p.at_ + ban⟩ by unfold faultA; simp only [maxZ]; (repeat' split) <;> first | rfl | (exfalso; omega))
    have SX := sh ((((((((((SF5.out).setP 1 (.int .i64 (atZ hal p.pts p.at_ now + ptsZ e))).drewN nq).setP 1 (.int .i64 (0))).setP 3 (.int .i64 (p.at_ + ban))).setL (k * 4) (.string nm)).setL (k * 4 + 1) (.int .i64 (0))).setL (k * 4 + 2) (.int .i64 (p.at_))).setL (k * 4 + 3) (.int .i64 (p.at_ + ban))).setB 3 (.slice (some ⟨g, 0, none⟩) L.length cp1))
    have d0 := SX.out.b.cell 0
    have d1 := SX.out.b.cell 1
    have d2 := SX.out.b.cell 2
    have d3 := SX.out.b.cell 3
    have g1 := SX.out.p.cell 1
    have t0 := SX.out.r.cell 0
    have t1 := SX.out.r.cell 1
    have t2 := SX.out.r.cell 2
    have t3 := SX.out.r.cell 3
    have v0 := SX.out.r.free 0
    have v1 := SX.out.r.free 1
    have v2 := SX.out.r.free 2
    have v3 := SX.out.r.free 3
    clear SF5 b0 b1 b2 b3 c0 c1 c2 c3 f1 f2 f3 z3 l0 l1 l2 l3 m0 m1 m2 m3 y0 y1 y2 y3 x0 x1 x2 x3
    generalize ((((((((w5.setCell ⟨M, 1, none⟩ (.int .i64 (atZ hal p.pts p.at_ now + ptsZ e))).drewN nq).setCell ⟨M, 1, none⟩ (.int .i64 (0))).setCell ⟨M, 3, none⟩ (.int .i64 (p.at_ + ban))).setCell ⟨g, k * 4, none⟩ (.string nm)).setCell ⟨g, k * 4 + 1, none⟩ (.int .i64 (0))).setCell ⟨g, k * 4 + 2, none⟩ (.int .i64 (p.at_))).setCell ⟨g, k * 4 + 3, none⟩ (.int .i64 (p.at_ + ban))).setCell ⟨w.heap.size, 3, none⟩ (.slice (some ⟨g, 0, none⟩) L.length cp1) = W6 at *
    simp at d0 d1 d2 d3 g1 t0 t1 t2 t3
    have SE := sh ((((((SX.out.setR 0 (.int .i64 lim)).setR 1 (.int .i64 hal)).setR 2 (.int .i64 ban)).setR 3 (.slice (some ⟨g, 0, none⟩) L.length cp1))).drewN 1)
    have e0 := SE.out.r.cell 0
    have e1 := SE.out.r.cell 1
    have e2 := SE.out.r.cell 2
    have e3 := SE.out.r.cell 3
    simp at e0 e1 e2 e3
    have SF := sh (fault_end HQ.out SE.out hkl hcs hca hcp1)
    clear SX SE HQ
    go_region
    go_wp2_with fail
    refine bodyPost_ret ?_ rfl SF.out
    simp [results, Tryd.results19, go_sem, e0, e1, e2, e3, BV]
  · have HQ := sh (show faultA lim hal ban now (ptsZ e) p = ⟨0, p.at_, p.til⟩ by unfold faultA; simp only [maxZ]; (repeat' split) <;> first | rfl | (exfalso; omega))
    have SX := sh (((((((((SF5.out).setP 1 (.int .i64 (atZ hal p.pts p.at_ now + ptsZ e))).drewN nq).setP 1 (.int .i64 (0))).setL (k * 4) (.string nm)).setL (k * 4 + 1) (.int .i64 (0))).setL (k * 4 + 2) (.int .i64 (p.at_))).setL (k * 4 + 3) (.int .i64 (p.til))).setB 3 (.slice (some ⟨g, 0, none⟩) L.length cp1))
    have d0 := SX.out.b.cell 0
    have d1 := SX.out.b.cell 1
    have d2 := SX.out.b.cell 2
    have d3 := SX.out.b.cell 3
    have g1 := SX.out.p.cell 1
    have t0 := SX.out.r.cell 0
    have t1 := SX.out.r.cell 1
    have t2 := SX.out.r.cell 2
    have t3 := SX.out.r.cell 3
    have v0 := SX.out.r.free 0
    have v1 := SX.out.r.free 1
    have v2 := SX.out.r.free 2
    have v3 := SX.out.r.free 3
    clear SF5 b0 b1 b2 b3 c0 c1 c2 c3 f1 f2 f3 z3 l0 l1 l2 l3 m0 m1 m2 m3 y0 y1 y2 y3 x0 x1 x2 x3
    generalize (((((((w5.setCell ⟨M, 1, none⟩ (.int .i64 (atZ hal p.pts p.at_ now + ptsZ e))).drewN nq).setCell ⟨M, 1, none⟩ (.int .i64 (0))).setCell ⟨g, k * 4, none⟩ (.string nm)).setCell ⟨g, k * 4 + 1, none⟩ (.int .i64 (0))).setCell ⟨g, k * 4 + 2, none⟩ (.int .i64 (p.at_))).setCell ⟨g, k * 4 + 3, none⟩ (.int .i64 (p.til))).setCell ⟨w.heap.size, 3, none⟩ (.slice (some ⟨g, 0, none⟩) L.length cp1) = W6 at *
    simp at d0 d1 d2 d3 g1 t0 t1 t2 t3
    have SE := sh ((((((SX.out.setR 0 (.int .i64 lim)).setR 1 (.int .i64 hal)).setR 2 (.int .i64 ban)).setR 3 (.slice (some ⟨g, 0, none⟩) L.length cp1))).drewN 1)
    have e0 := SE.out.r.cell 0
    have e1 := SE.out.r.cell 1
    have e2 := SE.out.r.cell 2
    have e3 := SE.out.r.cell 3
    simp at e0 e1 e2 e3
    have SF := sh (fault_end HQ.out SE.out hkl hcs hca hcp1)
    clear SX SE HQ
    go_region
    go_wp2_with fail
    refine bodyPost_ret ?_ rfl SF.out
    simp [results, Tryd.results19, go_sem, e0, e1, e2, e3, BV]
end Go.Proofs.YtckdahojhdbpjaaDoor
