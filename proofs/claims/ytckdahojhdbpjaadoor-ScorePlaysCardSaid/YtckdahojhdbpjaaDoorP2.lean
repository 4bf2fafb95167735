/- The reference's board (layer 29): At, Score, Banned: contracts. -/
import Derived.Test.YtckdahojhdbpjaaDoorP1
namespace Go.Proofs.YtckdahojhdbpjaaDoor
set_option linter.unusedVariables false
set_option linter.unusedSimpArgs false
open Go.RowKit

theorem hv_succ (k : Nat) : ∀ n : Int, hv (k + 1) n = hv k n / 2 := by
  induction k with
  | zero => intro n; rfl
  | succ k ih => intro n; exact ih (n / 2)
theorem hv_dead (k : Nat) : ∀ n : Int, 0 ≤ n → n < 2 ^ k → hv k n = 0 := by
  induction k with
  | zero => intro n h0 h1; simp at h1; show n = 0; omega
  | succ k ih =>
    intro n h0 h1
    refine ih (n / 2) (by omega) ?_
    rw [Int.pow_succ] at h1
    omega
theorem hv_null (k : Nat) : hv k 0 = 0 := hv_zero k 0 rfl
theorem hv_add (b : Nat) : ∀ (a : Nat) (n : Int), hv (a + b) n = hv b (hv a n)
  | 0, n => by rw [Nat.zero_add]; rfl
  | a + 1, n => by rw [show a + 1 + b = (a + b) + 1 from by omega]; exact hv_add b a (n / 2)
theorem hv_over {k : Nat} {n : Int} (h0 : 0 ≤ n) (h1 : n ≤ 1000000) (hk : 20 ≤ k) : hv k n = 0 := by
  have e : k = 20 + (k - 20) := by omega
  rw [e, hv_add, hv_dead 20 n h0 (by omega), hv_null]
/-- what At's loop has come to -/
theorem hv_end {i t : Nat} {n : Int} (h0 : 0 ≤ n) (h1 : n ≤ 1000000) (hi : i ≤ t) (h : i = t ∨ 21 ≤ i) : hv i n = hv t n := by
  rcases h with rfl | h
  · rfl
  · rw [hv_over h0 h1 (by omega), hv_over h0 h1 (by omega)]
set_option maxRecDepth 100000 in
set_option maxHeartbeats 1000000 in
theorem rat_loop (lim hal ban : Int) (sl : Value) (nm : ByteArray) (pts at_ til now : Int) (w : World) (h1 : 1 ≤ hal) (hp : 0 ≤ pts) (hpM : pts ≤ 1000000) (ha : 0 ≤ at_) (haM : at_ ≤ 2305843009213693952) (hsl : sl = sl) :
    ∀ (a : Option Addr) (n cp : Nat), sl = .slice a n cp → Calls Tryd.prog 28 #[.agg #[.int .i64 lim, .int .i64 hal, .int .i64 ban, sl], .agg #[.string nm, .int .i64 pts, .int .i64 at_, .int .i64 til], .int .i64 now] w fun e w' => e = .returned (.int .i64 (atZ hal pts at_ now)) ∧ Below w.heap.size w w' := by
  rintro a n cp rfl
  have hc := clipZ_bd now
  have hJ := (Bk.made w 43 #[.int .i64 lim, .int .i64 hal, .int .i64 ban, .slice a n cp]).alloc (.cells #[.string nm, .int .i64 pts, .int .i64 at_, .int .i64 til] 53)
  have hP := Bk.made (w.alloc (.cells #[.int .i64 lim, .int .i64 hal, .int .i64 ban, .slice a n cp] 43)) 53 #[.string nm, .int .i64 pts, .int .i64 at_, .int .i64 til]
  rw [World.size_alloc] at hP
  have hb0 : Below w.heap.size w ((w.alloc (.cells #[.int .i64 lim, .int .i64 hal, .int .i64 ban, .slice a n cp] 43)).alloc (.cells #[.string nm, .int .i64 pts, .int .i64 at_, .int .i64 til] 53)) := ((Below.refl _ w).alloc (Nat.le_refl _) _).alloc (by simp) _
  have j1 : ((w.alloc (.cells #[.int .i64 lim, .int .i64 hal, .int .i64 ban, .slice a n cp] 43)).alloc (.cells #[.string nm, .int .i64 pts, .int .i64 at_, .int .i64 til] 53)).cell? ⟨w.heap.size, 1, none⟩ = some (.int .i64 hal) := hJ.cell 1
  have p1 : ((w.alloc (.cells #[.int .i64 lim, .int .i64 hal, .int .i64 ban, .slice a n cp] 43)).alloc (.cells #[.string nm, .int .i64 pts, .int .i64 at_, .int .i64 til] 53)).cell? ⟨w.heap.size + 1, 1, none⟩ = some (.int .i64 pts) := hP.cell 1
  have p2 : ((w.alloc (.cells #[.int .i64 lim, .int .i64 hal, .int .i64 ban, .slice a n cp] 43)).alloc (.cells #[.string nm, .int .i64 pts, .int .i64 at_, .int .i64 til] 53)).cell? ⟨w.heap.size + 1, 2, none⟩ = some (.int .i64 at_) := hP.cell 2
  clear hJ hP hsl
  go_enter Tryd.func28, Tryd.ntmps28
  go_wp2_with fail
  generalize ((w.alloc (.cells #[.int .i64 lim, .int .i64 hal, .int .i64 ban, .slice a n cp] 43)).alloc (.cells #[.string nm, .int .i64 pts, .int .i64 at_, .int .i64 til] 53)) = W at *
  go_quiet ((go_at_call 29; exact Calls.quiet_of_same ((rclip _ _).mono fun _ _ ⟨h1, h2⟩ => ⟨h1, h2.symm⟩)))
  all_goals
    have hbq := sh (below_drewN hb0 nq)
    clear hb0
    by_cases hlt : clipZ now - at_ < 0
    · have HZ := sh (show atZ hal pts at_ now = hv 0 pts by
        have : maxZ (clipZ now) at_ - at_ = 0 := by unfold maxZ; rw [if_pos (by omega)]; omega
        show hv _ _ = hv _ _; rw [this]; simp)
      go_wp2_with fail
      go_loop [9, 10] (fun v9 v10 => v9 = .int .i64 pts ∧ v10 = .int .i64 0) (fun _ v10 => 0)
      case atStart => exact ⟨rfl, rfl⟩
      case round =>
        obtain ⟨rfl, rfl⟩ := hrel
        go_wp2_with fail
        go_ret
        exact ⟨ret_int HZ.out.symm, hbq.out⟩
    · have hT0 : 0 ≤ (clipZ now - at_) / hal := Int.ediv_nonneg (by omega) (by omega)
      have hTM : (clipZ now - at_) / hal ≤ 2305843009213693952 := Int.le_trans (Int.ediv_le_self _ (by omega)) (by omega)
      have HZ := sh (show atZ hal pts at_ now = hv ((clipZ now - at_) / hal).toNat pts by
        have : maxZ (clipZ now) at_ - at_ = clipZ now - at_ := by unfold maxZ; split <;> omega
        show hv _ _ = hv _ _; rw [this])
      go_wp2_with fail
      generalize hT : (clipZ now - at_) / hal = T at *
      clear hT
      go_loop [9, 10] (fun v9 v10 => ∃ (i : Nat) (v : Int), (i : Int) ≤ T ∧ i ≤ 21 ∧ v10 = .int .i64 (i : Int) ∧ v9 = .int .i64 v ∧ 0 ≤ v ∧ v ≤ 1000000 ∧ Sh (v = hv i pts)) (fun _ v10 => 21 - (RowKit.intOf v10).toNat)
      case atStart => exact ⟨0, pts, by omega, by omega, rfl, rfl, hp, hpM, ⟨rfl⟩⟩
      case round =>
        obtain ⟨i, v, hi, hi2, rfl, rfl, hv0, hvM, HV⟩ := hrel
        by_cases d1 : (i : Int) < T
        · by_cases d2 : (i : Int) < 21
          · go_wp2_with fail
            go_round
            case rel => exact ⟨i + 1, v / 2, by omega, by omega, by go_num, by go_num, by omega, by omega, ⟨by rw [hv_succ, HV.out]⟩⟩
            case measure => simp [RowKit.intOf]; omega
          · have HE := sh (hv_end (t := T.toNat) hp hpM (show i ≤ T.toNat by omega) (.inr (by omega)))
            go_wp2_with fail
            go_ret
            exact ⟨ret_int (by rw [HZ.out, HV.out, HE.out]), hbq.out⟩
        · have HE := sh (hv_end (t := T.toNat) hp hpM (show i ≤ T.toNat by omega) (.inl (by omega)))
          go_wp2_with fail
          go_ret
          exact ⟨ret_int (by rw [HZ.out, HV.out, HE.out]), hbq.out⟩
theorem rat (lim hal ban : Int) (a : Option Addr) (n cp : Nat) (nm : ByteArray) (p : Acc) (now : Int) (w : World) (h1 : 1 ≤ hal) (ok : p.ok) :
    Calls Tryd.prog 28 #[.agg #[.int .i64 lim, .int .i64 hal, .int .i64 ban, .slice a n cp], .agg #[.string nm, .int .i64 p.pts, .int .i64 p.at_, .int .i64 p.til], .int .i64 now] w fun e w' => e = .returned (.int .i64 (atZ hal p.pts p.at_ now)) ∧ Below w.heap.size w w' :=
  rat_loop lim hal ban _ nm p.pts p.at_ p.til now w h1 ok.1 ok.2.1 ok.2.2.1 ok.2.2.2.1 rfl a n cp rfl
end Go.Proofs.YtckdahojhdbpjaaDoor
