/- The reference's board (layer 29): Fault of a peer that is not known; Fault whole. -/
import Derived.Test.YtckdahojhdbpjaaDoorP8
namespace Go.Proofs.YtckdahojhdbpjaaDoor
set_option linter.unusedVariables false
set_option linter.unusedSimpArgs false
open Go.RowKit

theorem own_ne {W : World} {B n : Nat} {v : Value} {xs : List Value} (h : W.ownsRow B 53 4 v n xs) (b : Nat) (hb : b < B) : some b ≠ v.ownBlock := by
  rcases h.2 with ⟨rfl, _⟩ | ⟨g, cap, cur, rfl, hB, _⟩
  · intro e; cases e
  · intro e
    have : b = g := Option.some.inj e
    omega
theorem own_mono {W : World} {B B' n : Nat} {v : Value} {xs : List Value} (h : W.ownsRow B 53 4 v n xs) (hb : B' ≤ B) : W.ownsRow B' 53 4 v n xs := by
  refine ⟨h.1, ?_⟩
  rcases h.2 with h0 | ⟨g, cap, cur, e, hB, hr⟩
  · exact .inl h0
  · exact .inr ⟨g, cap, cur, e, by omega, hr⟩
set_option maxRecDepth 100000 in
set_option maxHeartbeats 8000000 in
theorem rfault_newP (lim hal ban : Int) (a : Option Addr) (L L1 : LA) (cp : Nat) (nm : ByteArray) (p : Acc) (now e : Int) (w : World) (hl : 1 ≤ lim) (hlM : lim ≤ 1000000) (h1 : 1 ≤ hal) (hb1 : 1 ≤ ban) (hb2 : ban ≤ 1099511627776) (hL : RowP w a L) (hn : L.length ≤ 1000) (hz : 0 < ptsZ e)
    (hp : p = ⟨0, clipZ now, 0⟩) (hL1 : L1 = L ++ [(nm, p)]) (hno : accL L nm = none) :
    Calls Tryd.prog 19 #[.agg #[.int .i64 lim, .int .i64 hal, .int .i64 ban, .slice a L.length cp], .string nm, .int .i64 now, .int .i64 e] w (SweepPost w lim hal ban (L1.set L.length (nm, faultA lim hal ban now (ptsZ e) p)) (faultA lim hal ban now (ptsZ e) p).pts) := by
  have hkl : L.length < L1.length := by rw [hL1]; simp
  have hk : L1[L.length]? = some (nm, p) := by rw [hL1]; simp
  have hqe := ptsZ_bd e
  have hcl := clipZ_bd now
  have ok : p.ok := by subst hp; exact ⟨Int.le_refl _, by show (0 : Int) ≤ 1000000; omega, hcl.1, hcl.2, Int.le_refl _, by show (0 : Int) ≤ 2305844108725321728; omega⟩
  have HS := sh (show prsC L ++ [.string nm, .int .i64 0, .int .i64 (clipZ now), .int .i64 0] = prsC L1 by rw [hL1, prsC_snoc, hp]; rfl)
  have HN := sh (show L.length + 1 = L1.length by rw [hL1]; simp)
  have hn1 : L1.length ≤ 1001 := by rw [← HN.out]; omega
  clear hp hL1
  obtain ⟨i53, hc0, hc1, hc2, hc3⟩ := info_parts info53
  have hJ := (Bk.made w 43 #[.int .i64 lim, .int .i64 hal, .int .i64 ban, .slice a L.length cp]).alloc (.cells #[.int .i64 0, .int .i64 0, .int .i64 0, .slice none 0 0] 43)
  have hR := Bk.made (w.alloc (.cells #[.int .i64 lim, .int .i64 hal, .int .i64 ban, .slice a L.length cp] 43)) 43 #[.int .i64 0, .int .i64 0, .int .i64 0, .slice none 0 0]
  rw [World.size_alloc] at hR
  have hbw : Below w.heap.size w ((w.alloc (.cells #[.int .i64 lim, .int .i64 hal, .int .i64 ban, .slice a L.length cp] 43)).alloc (.cells #[.int .i64 0, .int .i64 0, .int .i64 0, .slice none 0 0] 43)) := ((Below.refl _ w).alloc (Nat.le_refl _) _).alloc (by simp) _
  have SL := sh (hL.below hbw)
  have SJ := sh hJ
  have SR := sh hR
  have SW := sh hbw
  have HF := sh (fun (W : World) (h : RowP W a L) => rfind_none lim hal ban a L cp nm W h hn hno)
  have HP := sh (fun W => refpoints_any e W)
  have HK := sh hk
  have hz0 : (ptsZ e == 0) = false := by simp; omega
  have hsz0 : ((w.alloc (.cells #[.int .i64 lim, .int .i64 hal, .int .i64 ban, .slice a L.length cp] 43)).alloc (.cells #[.int .i64 0, .int .i64 0, .int .i64 0, .slice none 0 0] 43)).heap.size = w.heap.size + 1 + 1 := by simp
  have HA := sh (fun W => rat lim hal ban a L.length cp nm p now W h1 ok)
  obtain ⟨q0, q1, q2, q3, q4, q5⟩ := ok
  have hAA := atZ_bd hal p.pts p.at_ now q0
  clear hL hJ hR hbw hk hno
  by_cases hA : p.at_ < clipZ now
  all_goals by_cases hLl : atZ hal p.pts p.at_ now + ptsZ e < lim
  all_goals
   go_enter Tryd.func19, Tryd.ntmps19
   go_wp2_with fail
   refine (HP.out _).mono ?_
   rintro e' w' ⟨rfl, rfl⟩
   generalize ((w.alloc (.cells #[.int .i64 lim, .int .i64 hal, .int .i64 ban, .slice a L.length cp] 43)).alloc (.cells #[.int .i64 0, .int .i64 0, .int .i64 0, .slice none 0 0] 43)) = W0 at *
   have SM := sh (show Bk (W0.alloc (.cells #[] 53)) (w.heap.size + 1 + 1) 53 #[] by have h := Bk.made W0 53 #[]; rw [hsz0] at h; exact h)
   have j0 := SJ.out.cell 0
   have j1 := SJ.out.cell 1
   have j2 := SJ.out.cell 2
   have j3 := SJ.out.cell 3
   go_upto_region 9 with (first
     | (go_at_call 11; refine (HP.out _).mono ?_; rintro e' w' ⟨rfl, rfl⟩)
     | (at_builtin
        (refine wpList_first rfl _ _ rfl (w.heap.size + 1 + 1) (w.heap.size + 1 + 1) SM.out (Nat.le_refl _) (by simp; omega) rfl a cp L rfl (SL.out.below ((Below.refl _ W0).alloc (Nat.le_refl _) _)) hn ?_)
        intro v1 w1 hown hg
        (have S1 : FR w w1 w.heap.size lim hal ban a L.length cp L v1 := ⟨((SJ.out.alloc _).grown hg (by have := SJ.out.lt; intro e; have := Option.some.inj e; omega)), ((SR.out.alloc _).grown hg (by have := SR.out.lt; intro e; have := Option.some.inj e; omega)), hown, below_append ((SW.out.alloc (by omega) _)) (own_empty (B := w.heap.size) SM.out (by omega)) (by rw [World.size_alloc]; omega) hg, by have := hg.size; rw [World.size_alloc] at this; omega⟩)
        have SS1 := sh S1
        (have SL1 := sh (SL.out.below (below_append ((Below.refl _ W0).alloc (Nat.le_refl _) (.cells #[] 53)) (own_empty (B := W0.heap.size) SM.out (by omega)) (by rw [World.size_alloc]; omega) hg)))
        clear hown hg S1
        have j0 := SS1.out.b.cell 0
        have j1 := SS1.out.b.cell 1
        have j2 := SS1.out.b.cell 2
        have j3 := SS1.out.b.cell 3)
     | (go_at_call 22
        refine (HF.out _ SL1.out).mono ?_
        rintro e' w2 ⟨rfl, hbF⟩
        have SS2 := sh (SS1.out.below hbF)
        obtain ⟨ax, cx, rfl⟩ := own_len SS2.out.own
        clear hbF)
     | (go_at_call 29; refine (rclip _ _).mono ?_; rintro e' w' ⟨rfl, rfl⟩)
     | (at_builtin
        refine wpList_append_own _ rfl _ _ 41 rfl (w.heap.size + 1 + 1) 53 i53 (.agg #[.string ⟨#[]⟩, .int .i64 0, .int .i64 0, .int .i64 0]) 4 40 Tryd.underlying41 hc0 hc1 hc2 hc3 rfl (by decide) _ _ _ rfl (SS2.out.own.alloc _) ⟨_, 0, none⟩ 1 1 [.string nm, .int .i64 0, .int .i64 (clipZ now), .int .i64 0] rfl rfl (cells_new _ _ _) (by simp [Value.oneCell']) (by unfold maxLen; omega) (by omega) (by have := SS2.out.sz; rw [World.size_alloc]; omega) ?_
        intro v3 w3 hown3 hg3 _
        have hbx := SS2.out.b.lt
        have hrx := SS2.out.r.lt
        have hob := own_ne SS2.out.own
        have S3 : FR w w3 w.heap.size lim hal ban a L.length cp L1 v3 := ⟨(SS2.out.b.alloc _).grown hg3 (hob _ (by omega)), (SS2.out.r.alloc _).grown hg3 (hob _ (by omega)), by rw [HS.out, HN.out] at hown3; exact hown3, below_append (SS2.out.bel.alloc (by omega) _) (own_mono (SS2.out.own.alloc _) (by omega)) (by rw [World.size_alloc]; omega) hg3, by have h1 := SS2.out.sz; have h2 := hg3.size; rw [World.size_alloc] at h2; omega⟩
        have SS3 := sh S3
        clear hown3 hg3 S3 hbx hrx hob
        obtain ⟨g, cp1, cur, hv, hgB, hBk, hcs, hca, hcp1⟩ := own_parts SS3.out.own (by omega)
        obtain rfl := hv
        have hM : g < w3.heap.size := hBk.lt
        have a0 : w3.cell? ⟨g, L.length * 4, none⟩ = some (.string nm) := (hBk.cell _).trans ((hca _ (by omega)).trans (prsC_at HK.out).1)
        have a1 : w3.cell? ⟨g, L.length * 4 + 1, none⟩ = some (.int .i64 p.pts) := (hBk.cell _).trans ((hca _ (by omega)).trans (prsC_at HK.out).2.1)
        have a2 : w3.cell? ⟨g, L.length * 4 + 2, none⟩ = some (.int .i64 p.at_) := (hBk.cell _).trans ((hca _ (by omega)).trans (prsC_at HK.out).2.2.1)
        have a3 : w3.cell? ⟨g, L.length * 4 + 3, none⟩ = some (.int .i64 p.til) := (hBk.cell _).trans ((hca _ (by omega)).trans (prsC_at HK.out).2.2.2)
        have hs2 := SS3.out.sz
        have SF := sh (FQ.mk (w := w) (N := w.heap.size) (M := w3.heap.size) (g := g) (SS3.out.b.alloc (.cells #[.string nm, .int .i64 p.pts, .int .i64 p.at_, .int .i64 p.til] 53)) (SS3.out.r.alloc _) (Bk.made w3 53 _) (hBk.alloc _) (SS3.out.bel.alloc (by omega) _) (by omega) (by omega) (by omega))
        skip))
  all_goals
   have i0 := SF.out.b.cell 0
   have i1 := SF.out.b.cell 1
   have i2 := SF.out.b.cell 2
   have i3 := SF.out.b.cell 3
   have d0 := SF.out.p.cell 0
   have d1 := SF.out.p.cell 1
   have d2 := SF.out.p.cell 2
   have d3 := SF.out.p.cell 3
   generalize (w3.alloc (.cells #[.string nm, .int .i64 p.pts, .int .i64 p.at_, .int .i64 p.til] 53)) = W3 at *
   generalize w3.heap.size = M at *
   go_wp2_with (first
     | (go_at_call 11; refine (HP.out _).mono ?_; rintro e' w' ⟨rfl, rfl⟩)
     | (go_at_call 28
        refine (HA.out _).mono ?_
        rintro e' w5 ⟨rfl, hb5⟩
        have SF5 := sh (SF.out.below hb5)
        have b0 := SF5.out.b.cell 0
        have b1 := SF5.out.b.cell 1
        have b2 := SF5.out.b.cell 2
        have b3 := SF5.out.b.cell 3
        have c0 := SF5.out.p.cell 0
        have c1 := SF5.out.p.cell 1
        have c2 := SF5.out.p.cell 2
        have c3 := SF5.out.p.cell 3
        have f1 := SF5.out.p.free 1
        have f2 := SF5.out.p.free 2
        have f3 := SF5.out.p.free 3
        have z3 := SF5.out.b.free 3
        have l0 := SF5.out.l.free (L.length * 4)
        have l1 := SF5.out.l.free (L.length * 4 + 1)
        have l2 := SF5.out.l.free (L.length * 4 + 2)
        have l3 := SF5.out.l.free (L.length * 4 + 3)
        have m0 := (SF5.out.l.cell (L.length * 4)).trans ((hca _ (by omega)).trans (prsC_at HK.out).1)
        have m1 := (SF5.out.l.cell (L.length * 4 + 1)).trans ((hca _ (by omega)).trans (prsC_at HK.out).2.1)
        have m2 := (SF5.out.l.cell (L.length * 4 + 2)).trans ((hca _ (by omega)).trans (prsC_at HK.out).2.2.1)
        have m3 := (SF5.out.l.cell (L.length * 4 + 3)).trans ((hca _ (by omega)).trans (prsC_at HK.out).2.2.2)
        have y0 := SF5.out.r.free 0
        have y1 := SF5.out.r.free 1
        have y2 := SF5.out.r.free 2
        have y3 := SF5.out.r.free 3
        have x0 := SF5.out.r.cell 0
        have x1 := SF5.out.r.cell 1
        have x2 := SF5.out.r.cell 2
        have x3 := SF5.out.r.cell 3
        clear i0 i1 i2 i3 d0 d1 d2 d3 hb5))
  all_goals
    go_wp2_with fail
    go_quiet ((go_at_call 29; exact Calls.quiet_of_same ((rclip _ _).mono fun _ _ ⟨h1, h2⟩ => ⟨h1, h2.symm⟩)))
    go_wp2_with (go_at_call 29; refine (rclip _ _).mono ?_; rintro e' w' ⟨rfl, rfl⟩)
  · have HQ := sh (show faultA lim hal ban now (ptsZ e) p = ⟨atZ hal p.pts p.at_ now + ptsZ e, clipZ now, p.til⟩ by unfold faultA; simp only [maxZ]; (repeat' split) <;> first | rfl | (exfalso; omega))
    have SX := sh (((((((((SF5.out).setP 1 (.int .i64 (atZ hal p.pts p.at_ now + ptsZ e))).drewN nq).setP 2 (.int .i64 (clipZ now))).setL (L.length * 4) (.string nm)).setL (L.length * 4 + 1) (.int .i64 (atZ hal p.pts p.at_ now + ptsZ e))).setL (L.length * 4 + 2) (.int .i64 (clipZ now))).setL (L.length * 4 + 3) (.int .i64 (p.til))).setB 3 (.slice (some ⟨g, 0, none⟩) L1.length cp1))
    have d0 := SX.out.b.cell 0
    have d1 := SX.out.b.cell 1
    have d2 := SX.out.b.cell 2
    have d3 := SX.out.b.cell 3
    have g1 := SX.out.p.cell 1
    have t0 := SX.out.r.cell 0
    have t1 := SX.out.r.cell 1
    have t2 := SX.out.r.cell 2
    have t3 := SX.out.r.cell 3
    have v0 := SX.out.r.free 0
    have v1 := SX.out.r.free 1
    have v2 := SX.out.r.free 2
    have v3 := SX.out.r.free 3
    clear SF5 b0 b1 b2 b3 c0 c1 c2 c3 f1 f2 f3 z3 l0 l1 l2 l3 m0 m1 m2 m3 y0 y1 y2 y3 x0 x1 x2 x3
    generalize (((((((w5.setCell ⟨M, 1, none⟩ (.int .i64 (atZ hal p.pts p.at_ now + ptsZ e))).drewN nq).setCell ⟨M, 2, none⟩ (.int .i64 (clipZ now))).setCell ⟨g, L.length * 4, none⟩ (.string nm)).setCell ⟨g, L.length * 4 + 1, none⟩ (.int .i64 (atZ hal p.pts p.at_ now + ptsZ e))).setCell ⟨g, L.length * 4 + 2, none⟩ (.int .i64 (clipZ now))).setCell ⟨g, L.length * 4 + 3, none⟩ (.int .i64 (p.til))).setCell ⟨w.heap.size, 3, none⟩ (.slice (some ⟨g, 0, none⟩) L.length cp1) = W6 at *
    simp at d0 d1 d2 d3 g1 t0 t1 t2 t3
    have SE := sh ((((((SX.out.setR 0 (.int .i64 lim)).setR 1 (.int .i64 hal)).setR 2 (.int .i64 ban)).setR 3 (.slice (some ⟨g, 0, none⟩) L1.length cp1))).drewN 1)
    have e0 := SE.out.r.cell 0
    have e1 := SE.out.r.cell 1
    have e2 := SE.out.r.cell 2
    have e3 := SE.out.r.cell 3
    simp at e0 e1 e2 e3
    have SF := sh (fault_end HQ.out SE.out hkl hcs hca hcp1)
    clear SX SE HQ
    go_region
    go_wp2_with fail
    refine bodyPost_ret ?_ rfl SF.out
    simp [results, Tryd.results19, go_sem, e0, e1, e2, e3, BV]
  · have HQ := sh (show faultA lim hal ban now (ptsZ e) p = ⟨0, clipZ now, clipZ now + ban⟩ by unfold faultA; simp only [maxZ]; (repeat' split) <;> first | rfl | (exfalso; omega))
    have SX := sh (((((((((((SF5.out).setP 1 (.int .i64 (atZ hal p.pts p.at_ now + ptsZ e))).drewN nq).setP 2 (.int .i64 (clipZ now))).setP 1 (.int .i64 (0))).setP 3 (.int .i64 (clipZ now + ban))).setL (L.length * 4) (.string nm)).setL (L.length * 4 + 1) (.int .i64 (0))).setL (L.length * 4 + 2) (.int .i64 (clipZ now))).setL (L.length * 4 + 3) (.int .i64 (clipZ now + ban))).setB 3 (.slice (some ⟨g, 0, none⟩) L1.length cp1))
    have d0 := SX.out.b.cell 0
    have d1 := SX.out.b.cell 1
    have d2 := SX.out.b.cell 2
    have d3 := SX.out.b.cell 3
    have g1 := SX.out.p.cell 1
    have t0 := SX.out.r.cell 0
    have t1 := SX.out.r.cell 1
    have t2 := SX.out.r.cell 2
    have t3 := SX.out.r.cell 3
    have v0 := SX.out.r.free 0
    have v1 := SX.out.r.free 1
    have v2 := SX.out.r.free 2
    have v3 := SX.out.r.free 3
    clear SF5 b0 b1 b2 b3 c0 c1 c2 c3 f1 f2 f3 z3 l0 l1 l2 l3 m0 m1 m2 m3 y0 y1 y2 y3 x0 x1 x2 x3
    generalize (((((((((w5.setCell ⟨M, 1, none⟩ (.int .i64 (atZ hal p.pts p.at_ now + ptsZ e))).drewN nq).setCell ⟨M, 2, none⟩ (.int .i64 (clipZ now))).setCell ⟨M, 1, none⟩ (.int .i64 (0))).setCell ⟨M, 3, none⟩ (.int .i64 (clipZ now + ban))).setCell ⟨g, L.length * 4, none⟩ (.string nm)).setCell ⟨g, L.length * 4 + 1, none⟩ (.int .i64 (0))).setCell ⟨g, L.length * 4 + 2, none⟩ (.int .i64 (clipZ now))).setCell ⟨g, L.length * 4 + 3, none⟩ (.int .i64 (clipZ now + ban))).setCell ⟨w.heap.size, 3, none⟩ (.slice (some ⟨g, 0, none⟩) L.length cp1) = W6 at *
    simp at d0 d1 d2 d3 g1 t0 t1 t2 t3
    have SE := sh ((((((SX.out.setR 0 (.int .i64 lim)).setR 1 (.int .i64 hal)).setR 2 (.int .i64 ban)).setR 3 (.slice (some ⟨g, 0, none⟩) L1.length cp1))).drewN 1)
    have e0 := SE.out.r.cell 0
    have e1 := SE.out.r.cell 1
    have e2 := SE.out.r.cell 2
    have e3 := SE.out.r.cell 3
    simp at e0 e1 e2 e3
    have SF := sh (fault_end HQ.out SE.out hkl hcs hca hcp1)
    clear SX SE HQ
    go_region
    go_wp2_with fail
    refine bodyPost_ret ?_ rfl SF.out
    simp [results, Tryd.results19, go_sem, e0, e1, e2, e3, BV]
  · have HQ := sh (show faultA lim hal ban now (ptsZ e) p = ⟨0, clipZ now, p.til⟩ by unfold faultA; simp only [maxZ]; (repeat' split) <;> first | rfl | (exfalso; omega))
    have SX := sh ((((((((((SF5.out).setP 1 (.int .i64 (atZ hal p.pts p.at_ now + ptsZ e))).drewN nq).setP 2 (.int .i64 (clipZ now))).setP 1 (.int .i64 (0))).setL (L.length * 4) (.string nm)).setL (L.length * 4 + 1) (.int .i64 (0))).setL (L.length * 4 + 2) (.int .i64 (clipZ now))).setL (L.length * 4 + 3) (.int .i64 (p.til))).setB 3 (.slice (some ⟨g, 0, none⟩) L1.length cp1))
    have d0 := SX.out.b.cell 0
    have d1 := SX.out.b.cell 1
    have d2 := SX.out.b.cell 2
    have d3 := SX.out.b.cell 3
    have g1 := SX.out.p.cell 1
    have t0 := SX.out.r.cell 0
    have t1 := SX.out.r.cell 1
    have t2 := SX.out.r.cell 2
    have t3 := SX.out.r.cell 3
    have v0 := SX.out.r.free 0
    have v1 := SX.out.r.free 1
    have v2 := SX.out.r.free 2
    have v3 := SX.out.r.free 3
    clear SF5 b0 b1 b2 b3 c0 c1 c2 c3 f1 f2 f3 z3 l0 l1 l2 l3 m0 m1 m2 m3 y0 y1 y2 y3 x0 x1 x2 x3
    generalize ((((((((w5.setCell ⟨M, 1, none⟩ (.int .i64 (atZ hal p.pts p.at_ now + ptsZ e))).drewN nq).setCell ⟨M, 2, none⟩ (.int .i64 (clipZ now))).setCell ⟨M, 1, none⟩ (.int .i64 (0))).setCell ⟨g, L.length * 4, none⟩ (.string nm)).setCell ⟨g, L.length * 4 + 1, none⟩ (.int .i64 (0))).setCell ⟨g, L.length * 4 + 2, none⟩ (.int .i64 (clipZ now))).setCell ⟨g, L.length * 4 + 3, none⟩ (.int .i64 (p.til))).setCell ⟨w.heap.size, 3, none⟩ (.slice (some ⟨g, 0, none⟩) L.length cp1) = W6 at *
    simp at d0 d1 d2 d3 g1 t0 t1 t2 t3
    have SE := sh ((((((SX.out.setR 0 (.int .i64 lim)).setR 1 (.int .i64 hal)).setR 2 (.int .i64 ban)).setR 3 (.slice (some ⟨g, 0, none⟩) L1.length cp1))).drewN 1)
    have e0 := SE.out.r.cell 0
    have e1 := SE.out.r.cell 1
    have e2 := SE.out.r.cell 2
    have e3 := SE.out.r.cell 3
    simp at e0 e1 e2 e3
    have SF := sh (fault_end HQ.out SE.out hkl hcs hca hcp1)
    clear SX SE HQ
    go_region
    go_wp2_with fail
    refine bodyPost_ret ?_ rfl SF.out
    simp [results, Tryd.results19, go_sem, e0, e1, e2, e3, BV]
  · have HQ := sh (show faultA lim hal ban now (ptsZ e) p = ⟨atZ hal p.pts p.at_ now + ptsZ e, p.at_, p.til⟩ by unfold faultA; simp only [maxZ]; (repeat' split) <;> first | rfl | (exfalso; omega))
    have SX := sh ((((((((SF5.out).setP 1 (.int .i64 (atZ hal p.pts p.at_ now + ptsZ e))).drewN nq).setL (L.length * 4) (.string nm)).setL (L.length * 4 + 1) (.int .i64 (atZ hal p.pts p.at_ now + ptsZ e))).setL (L.length * 4 + 2) (.int .i64 (p.at_))).setL (L.length * 4 + 3) (.int .i64 (p.til))).setB 3 (.slice (some ⟨g, 0, none⟩) L1.length cp1))
    have d0 := SX.out.b.cell 0
    have d1 := SX.out.b.cell 1
    have d2 := SX.out.b.cell 2
    have d3 := SX.out.b.cell 3
    have g1 := SX.out.p.cell 1
    have t0 := SX.out.r.cell 0
    have t1 := SX.out.r.cell 1
    have t2 := SX.out.r.cell 2
    have t3 := SX.out.r.cell 3
    have v0 := SX.out.r.free 0
    have v1 := SX.out.r.free 1
    have v2 := SX.out.r.free 2
    have v3 := SX.out.r.free 3
    clear SF5 b0 b1 b2 b3 c0 c1 c2 c3 f1 f2 f3 z3 l0 l1 l2 l3 m0 m1 m2 m3 y0 y1 y2 y3 x0 x1 x2 x3
    generalize ((((((w5.setCell ⟨M, 1, none⟩ (.int .i64 (atZ hal p.pts p.at_ now + ptsZ e))).drewN nq).setCell ⟨g, L.length * 4, none⟩ (.string nm)).setCell ⟨g, L.length * 4 + 1, none⟩ (.int .i64 (atZ hal p.pts p.at_ now + ptsZ e))).setCell ⟨g, L.length * 4 + 2, none⟩ (.int .i64 (p.at_))).setCell ⟨g, L.length * 4 + 3, none⟩ (.int .i64 (p.til))).setCell ⟨w.heap.size, 3, none⟩ (.slice (some ⟨g, 0, none⟩) L.length cp1) = W6 at *
    simp at d0 d1 d2 d3 g1 t0 t1 t2 t3
    have SE := sh ((((((SX.out.setR 0 (.int .i64 lim)).setR 1 (.int .i64 hal)).setR 2 (.int .i64 ban)).setR 3 (.slice (some ⟨g, 0, none⟩) L1.length cp1))).drewN 1)
    have e0 := SE.out.r.cell 0
    have e1 := SE.out.r.cell 1
    have e2 := SE.out.r.cell 2
    have e3 := SE.out.r.cell 3
    simp at e0 e1 e2 e3
    have SF := sh (fault_end HQ.out SE.out hkl hcs hca hcp1)
    clear SX SE HQ
    go_region
    go_wp2_with fail
    refine bodyPost_ret ?_ rfl SF.out
    simp [results, Tryd.results19, go_sem, e0, e1, e2, e3, BV]
  · have HQ := sh (show faultA lim hal ban now (ptsZ e) p = ⟨0, p.at_, p.at_ + ban⟩ by unfold faultA; simp only [maxZ]; (repeat' split) <;> first | rfl | (exfalso; omega))
    have SX := sh ((((((((((SF5.out).setP 1 (.int .i64 (atZ hal p.pts p.at_ now + ptsZ e))).drewN nq).setP 1 (.int .i64 (0))).setP 3 (.int .i64 (p.at_ + ban))).setL (L.length * 4) (.string nm)).setL (L.length * 4 + 1) (.int .i64 (0))).setL (L.length * 4 + 2) (.int .i64 (p.at_))).setL (L.length * 4 + 3) (.int .i64 (p.at_ + ban))).setB 3 (.slice (some ⟨g, 0, none⟩) L1.length cp1))
    have d0 := SX.out.b.cell 0
    have d1 := SX.out.b.cell 1
    have d2 := SX.out.b.cell 2
    have d3 := SX.out.b.cell 3
    have g1 := SX.out.p.cell 1
    have t0 := SX.out.r.cell 0
    have t1 := SX.out.r.cell 1
    have t2 := SX.out.r.cell 2
    have t3 := SX.out.r.cell 3
    have v0 := SX.out.r.free 0
    have v1 := SX.out.r.free 1
    have v2 := SX.out.r.free 2
    have v3 := SX.out.r.free 3
    clear SF5 b0 b1 b2 b3 c0 c1 c2 c3 f1 f2 f3 z3 l0 l1 l2 l3 m0 m1 m2 m3 y0 y1 y2 y3 x0 x1 x2 x3
    generalize ((((((((w5.setCell ⟨M, 1, none⟩ (.int .i64 (atZ hal p.pts p.at_ now + ptsZ e))).drewN nq).setCell ⟨M, 1, none⟩ (.int .i64 (0))).setCell ⟨M, 3, none⟩ (.int .i64 (p.at_ + ban))).setCell ⟨g, L.length * 4, none⟩ (.string nm)).setCell ⟨g, L.length * 4 + 1, none⟩ (.int .i64 (0))).setCell ⟨g, L.length * 4 + 2, none⟩ (.int .i64 (p.at_))).setCell ⟨g, L.length * 4 + 3, none⟩ (.int .i64 (p.at_ + ban))).setCell ⟨w.heap.size, 3, none⟩ (.slice (some ⟨g, 0, none⟩) L.length cp1) = W6 at *
    simp at d0 d1 d2 d3 g1 t0 t1 t2 t3
    have SE := sh ((((((SX.out.setR 0 (.int .i64 lim)).setR 1 (.int .i64 hal)).setR 2 (.int .i64 ban)).setR 3 (.slice (some ⟨g, 0, none⟩) L1.length cp1))).drewN 1)
    have e0 := SE.out.r.cell 0
    have e1 := SE.out.r.cell 1
    have e2 := SE.out.r.cell 2
    have e3 := SE.out.r.cell 3
    simp at e0 e1 e2 e3
    have SF := sh (fault_end HQ.out SE.out hkl hcs hca hcp1)
    clear SX SE HQ
    go_region
    go_wp2_with fail
    refine bodyPost_ret ?_ rfl SF.out
    simp [results, Tryd.results19, go_sem, e0, e1, e2, e3, BV]
  · have HQ := sh (show faultA lim hal ban now (ptsZ e) p = ⟨0, p.at_, p.til⟩ by unfold faultA; simp only [maxZ]; (repeat' split) <;> first | rfl | (exfalso; omega))
    have SX := sh (((((((((SF5.out).setP 1 (.int .i64 (atZ hal p.pts p.at_ now + ptsZ e))).drewN nq).setP 1 (.int .i64 (0))).setL (L.length * 4) (.string nm)).setL (L.length * 4 + 1) (.int .i64 (0))).setL (L.length * 4 + 2) (.int .i64 (p.at_))).setL (L.length * 4 + 3) (.int .i64 (p.til))).setB 3 (.slice (some ⟨g, 0, none⟩) L1.length cp1))
    have d0 := SX.out.b.cell 0
    have d1 := SX.out.b.cell 1
    have d2 := SX.out.b.cell 2
    have d3 := SX.out.b.cell 3
    have g1 := SX.out.p.cell 1
    have t0 := SX.out.r.cell 0
    have t1 := SX.out.r.cell 1
    have t2 := SX.out.r.cell 2
    have t3 := SX.out.r.cell 3
    have v0 := SX.out.r.free 0
    have v1 := SX.out.r.free 1
    have v2 := SX.out.r.free 2
    have v3 := SX.out.r.free 3
    clear SF5 b0 b1 b2 b3 c0 c1 c2 c3 f1 f2 f3 z3 l0 l1 l2 l3 m0 m1 m2 m3 y0 y1 y2 y3 x0 x1 x2 x3
    generalize (((((((w5.setCell ⟨M, 1, none⟩ (.int .i64 (atZ hal p.pts p.at_ now + ptsZ e))).drewN nq).setCell ⟨M, 1, none⟩ (.int .i64 (0))).setCell ⟨g, L.length * 4, none⟩ (.string nm)).setCell ⟨g, L.length * 4 + 1, none⟩ (.int .i64 (0))).setCell ⟨g, L.length * 4 + 2, none⟩ (.int .i64 (p.at_))).setCell ⟨g, L.length * 4 + 3, none⟩ (.int .i64 (p.til))).setCell ⟨w.heap.size, 3, none⟩ (.slice (some ⟨g, 0, none⟩) L.length cp1) = W6 at *
    simp at d0 d1 d2 d3 g1 t0 t1 t2 t3
    have SE := sh ((((((SX.out.setR 0 (.int .i64 lim)).setR 1 (.int .i64 hal)).setR 2 (.int .i64 ban)).setR 3 (.slice (some ⟨g, 0, none⟩) L1.length cp1))).drewN 1)
    have e0 := SE.out.r.cell 0
    have e1 := SE.out.r.cell 1
    have e2 := SE.out.r.cell 2
    have e3 := SE.out.r.cell 3
    simp at e0 e1 e2 e3
    have SF := sh (fault_end HQ.out SE.out hkl hcs hca hcp1)
    clear SX SE HQ
    go_region
    go_wp2_with fail
    refine bodyPost_ret ?_ rfl SF.out
    simp [results, Tryd.results19, go_sem, e0, e1, e2, e3, BV]
/-- no name twice -/
def NmNd (L : LA) : Prop := L.Pairwise fun p q => p.1 ≠ q.1
theorem updL_none {nm : ByteArray} {q : Acc} : ∀ {L : LA}, (∀ p ∈ L, p.1 ≠ nm) → updL L nm q = L
  | [], _ => rfl
  | x :: L, h => by
    have ih := updL_none (L := L) (nm := nm) (q := q) fun p hp => h p (by simp [hp])
    unfold updL at ih ⊢
    rw [List.map_cons, if_neg (h x (by simp)), ih]
theorem updL_set {nm : ByteArray} {p q : Acc} : ∀ {L : LA} {k : Nat}, NmNd L → L[k]? = some (nm, p) → updL L nm q = L.set k (nm, q)
  | x :: L, 0, hd, hk => by
    simp only [List.getElem?_cons_zero, Option.some.injEq] at hk
    subst hk
    have h := updL_none (L := L) (nm := nm) (q := q) fun p hp => (List.rel_of_pairwise_cons hd hp).symm
    unfold updL at h ⊢
    rw [List.map_cons, h]
    simp
  | x :: L, k + 1, hd, hk => by
    rw [List.getElem?_cons_succ] at hk
    have hx : x.1 ≠ nm := List.rel_of_pairwise_cons hd (List.mem_of_getElem? hk)
    have ih := updL_set (q := q) (List.Pairwise.of_cons hd) hk
    unfold updL at ih ⊢
    rw [List.map_cons, if_neg hx, ih]
    rfl
theorem rfault_new (lim hal ban : Int) (a : Option Addr) (L : LA) (cp : Nat) (nm : ByteArray) (now e : Int) (w : World) (hl : 1 ≤ lim) (hlM : lim ≤ 1000000) (h1 : 1 ≤ hal) (hb1 : 1 ≤ ban) (hb2 : ban ≤ 1099511627776) (hL : RowP w a L) (hn : L.length ≤ 1000) (hz : 0 < ptsZ e) (hno : accL L nm = none) :
    Calls Tryd.prog 19 #[.agg #[.int .i64 lim, .int .i64 hal, .int .i64 ban, .slice a L.length cp], .string nm, .int .i64 now, .int .i64 e] w (SweepPost w lim hal ban (L ++ [(nm, faultA lim hal ban now (ptsZ e) ⟨0, clipZ now, 0⟩)]) (faultA lim hal ban now (ptsZ e) ⟨0, clipZ now, 0⟩).pts) := by
  have h := rfault_newP lim hal ban a L (L ++ [(nm, ⟨0, clipZ now, 0⟩)]) cp nm ⟨0, clipZ now, 0⟩ now e w hl hlM h1 hb1 hb2 hL hn hz rfl rfl hno
  have e2 : (L ++ [(nm, (⟨0, clipZ now, 0⟩ : Acc))]).set L.length (nm, faultA lim hal ban now (ptsZ e) ⟨0, clipZ now, 0⟩) = L ++ [(nm, faultA lim hal ban now (ptsZ e) ⟨0, clipZ now, 0⟩)] := by
    rw [List.set_append_right _ _ (Nat.le_refl _), Nat.sub_self]; rfl
  rw [e2] at h
  exact h
/-- Fault of the reference -/
theorem rfault {lim hal ban : Int} {a : Option Addr} {L : LA} {cp : Nat} (nm : ByteArray) (now e : Int) (w : World) (hl : 1 ≤ lim) (hlM : lim ≤ 1000000) (h1 : 1 ≤ hal) (hb1 : 1 ≤ ban) (hb2 : ban ≤ 1099511627776) (ok : ∀ p ∈ L, p.2.ok) (nd : NmNd L) (hL : RowP w a L) (hcp : L.length ≤ cp) (hn : L.length ≤ 1000) :
    Calls Tryd.prog 19 #[.agg #[.int .i64 lim, .int .i64 hal, .int .i64 ban, .slice a L.length cp], .string nm, .int .i64 now, .int .i64 e] w (SweepPost w lim hal ban (faultL lim hal ban L nm now e).1 (faultL lim hal ban L nm now e).2) := by
  have hq := ptsZ_bd e
  unfold faultL
  by_cases hz : ptsZ e = 0
  · rw [if_pos hz]
    exact rfault_zero lim hal ban a L cp nm now e w h1 ok hL hcp hn hz
  · rw [if_neg hz]
    cases h : accL L nm with
    | none => exact rfault_new lim hal ban a L cp nm now e w hl hlM h1 hb1 hb2 hL hn (by omega) h
    | some p =>
      obtain ⟨k, hk, hb⟩ := acc_some_at h
      simp only [updL_set nd hk]
      exact rfault_old lim hal ban a L cp k nm p now e w hl hlM h1 hb1 hb2 (ok _ (List.mem_of_getElem? hk)) hL hn (by omega) hk hb
end Go.Proofs.YtckdahojhdbpjaaDoor
