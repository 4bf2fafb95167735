/- ScoreFades: the walk of the statement itself. -/
import Derived.Test.YtckdahojhdbpjaaDoorBans
namespace Go.Proofs.YtckdahojhdbpjaaDoor
set_option linter.unusedVariables false
set_option linter.unusedSimpArgs false
open Go.RowKit

/-- the one peer, all of whose faults were at time 0 -/
def FInv (lim : Int) (o : Option Acc) : Prop := match o with | none => True | some a => a.at_ = 0 ∧ 0 ≤ a.pts ∧ a.pts ≤ 1000000
theorem fades_step {lim hal ban e : Int} {o : Option Acc} (hi : FInv lim o) (hl : 1 ≤ lim) (hlM : lim ≤ 1000000) : FInv lim (faultO lim hal ban o 0 e).1 := by
  have hq := ptsZ_bd e
  unfold faultO
  by_cases hz : ptsZ e = 0
  · rw [if_pos hz]; exact hi
  · rw [if_neg hz]
    have hc : clipZ 0 = 0 := rfl
    have hg : ∃ p : Int, o.getD ⟨0, clipZ 0, 0⟩ = ⟨p, 0, (o.getD ⟨0, clipZ 0, 0⟩).til⟩ ∧ 0 ≤ p := by
      cases o with
      | none => exact ⟨0, rfl, Int.le_refl _⟩
      | some a =>
        obtain ⟨h1, h2, h3⟩ := hi
        exact ⟨a.pts, by cases a; simp only at h1; subst h1; rfl, h2⟩
    obtain ⟨p, hp, hp0⟩ := hg
    rw [hp]
    have ha := atZ_bd hal p 0 0 hp0
    unfold faultA
    dsimp only
    rw [hc]
    split
    · exact ⟨rfl, by dsimp only; omega, by dsimp only; omega⟩
    · exact ⟨rfl, by dsimp only; omega, by dsimp only; omega⟩
theorem hv_add (a b : Nat) : ∀ v : Int, hv (a + b) v = hv b (hv a v) := by
  induction a with
  | zero => intro v; simp [hv]
  | succ a ih => intro v; rw [show a + 1 + b = (a + b) + 1 by omega]; show hv (a + b) (v / 2) = hv b (hv a (v / 2)); exact ih _
theorem hv_small (k : Nat) : ∀ v : Int, 0 ≤ v → v < 2 ^ k → hv k v = 0 := by
  induction k with
  | zero => intro v h0 h1; have : v < 1 := h1; show v = 0; omega
  | succ k ih => intro v h0 h1; show hv k (v / 2) = 0; refine ih _ (by omega) ?_; rw [Int.pow_succ] at h1; omega
theorem score_anti {lim hal a b : Int} {o : Option Acc} (hi : FInv lim o) (h1 : 1 ≤ hal) (h0 : 0 ≤ a) (hab : a ≤ b) (hb : b ≤ 2305843009213693952) :
    scoreO hal o b ≤ scoreO hal o a ∧ 0 ≤ scoreO hal o b := by
  cases o with
  | none => exact ⟨Int.le_refl _, Int.le_refl _⟩
  | some p =>
    obtain ⟨e1, e2, e3⟩ := hi
    show atZ hal p.pts p.at_ b ≤ atZ hal p.pts p.at_ a ∧ 0 ≤ atZ hal p.pts p.at_ b
    refine ⟨?_, (atZ_bd _ _ _ _ e2).1⟩
    unfold atZ
    rw [clip_id h0 (by omega), clip_id (by omega) hb, e1]
    have m1 : maxZ a 0 = a := by unfold maxZ; split <;> omega
    have m2 : maxZ b 0 = b := by unfold maxZ; split <;> omega
    rw [m1, m2]
    have hd : (a - 0) / hal ≤ (b - 0) / hal := Int.ediv_le_ediv (by omega) (by omega)
    have hn : 0 ≤ (a - 0) / hal := Int.ediv_nonneg (by omega) (by omega)
    obtain ⟨d, hd'⟩ : ∃ d : Nat, ((b - 0) / hal).toNat = ((a - 0) / hal).toNat + d := ⟨((b - 0) / hal).toNat - ((a - 0) / hal).toNat, by omega⟩
    rw [hd', hv_add]
    exact (hv_bd d _ (hv_bd _ _ e2).1).2
theorem score_end {lim hal : Int} {o : Option Acc} (hi : FInv lim o) (h1 : 1 ≤ hal) (h2 : hal ≤ 1099511627776) : scoreO hal o (20 * hal) = 0 := by
  cases o with
  | none => rfl
  | some p =>
    obtain ⟨e1, e2, e3⟩ := hi
    show atZ hal p.pts p.at_ (20 * hal) = 0
    unfold atZ
    rw [clip_id (by omega) (by omega), e1]
    have m2 : maxZ (20 * hal) 0 = 20 * hal := by unfold maxZ; split <;> omega
    rw [m2]
    have hd : (20 * hal - 0) / hal = 20 := by rw [Int.sub_zero]; exact Int.mul_ediv_cancel _ (by omega)
    rw [hd]
    exact hv_small 20 _ e2 (by omega)

set_option maxHeartbeats 1000000 in
set_option maxRecDepth 100000 in
theorem fades_walk (a0 a1 : Int) (a2 : Option Addr) (len2 cap2 : Nat) (z2 : List Int) (a3 : Option Addr) (len3 cap3 : Nat) (z3 : List Int) (w : World) (w0 : (Lit.int .i64 a0).wf = true) (w1 : (Lit.int .i64 a1).wf = true)
    (w2 : IsRow .u8 w a2 len2 cap2 z2) (w3 : IsRow .i64 w a3 len3 cap3 z3) (hT : Tab w) (hw0 : 0 < w.heap.size) :
    Calls Tryd.prog 3 #[.int .i64 a0, .int .i64 a1, .slice a2 len2 cap2, .slice a3 len3 cap3] w fun e w' => e = .returned (.bool true) ∧ Below w.heap.size w w' := by
  have hlen2 := w2.len_le
  have hlen3 := w3.len_le
  cases hR : rightB a0 a1 1 with
  | false =>
    have HR := hide hR
    clear hR
    go_enter Tryd.func3, Tryd.ntmps3
    go_wp2_with (first | (go_at_call 6; refine (alive_any _ hT hw0).mono ?_; rintro e' wa ⟨rfl, hba⟩) | (go_at_call 7; refine (right_any _ _ _ _).mono ?_; rw [HR.out]; rintro e' w' ⟨rfl, rfl⟩))
    go_ret
    exact ⟨rfl, hba⟩
  | true =>
    have hr' : 1 ≤ a0 ∧ a0 ≤ 1000000 ∧ 1 ≤ a1 ∧ a1 ≤ 1099511627776 ∧ 1 ≤ (1:Int) ∧ (1:Int) ≤ 1099511627776 := of_decide_eq_true hR
    obtain ⟨q1, q2, q3, q4, -, -⟩ := hr'
    have HR := hide hR
    clear hR
    by_cases c1 : 50 < len2
    · have c1' : (50 : Int) < (len2 : Int) := by omega
      go_enter Tryd.func3, Tryd.ntmps3
      go_wp2_with (first | (go_at_call 6; refine (alive_any _ hT hw0).mono ?_; rintro e' wa ⟨rfl, hba⟩) | (go_at_call 7; refine (right_any _ _ _ _).mono ?_; rw [HR.out]; rintro e' w' ⟨rfl, rfl⟩))
      go_ret
      exact ⟨rfl, hba⟩
    · by_cases c2 : 50 < len3
      · have c1' : ¬ (50 : Int) < (len2 : Int) := by omega
        have c2' : (50 : Int) < (len3 : Int) := by omega
        go_enter Tryd.func3, Tryd.ntmps3
        go_wp2_with (first | (go_at_call 6; refine (alive_any _ hT hw0).mono ?_; rintro e' wa ⟨rfl, hba⟩) | (go_at_call 7; refine (right_any _ _ _ _).mono ?_; rw [HR.out]; rintro e' w' ⟨rfl, rfl⟩))
        go_ret
        exact ⟨rfl, hba⟩
      · have c1' : ¬ (50 : Int) < (len2 : Int) := by omega
        have c2' : ¬ (50 : Int) < (len3 : Int) := by omega
        go_enter Tryd.func3, Tryd.ntmps3
        go_wp2_with (first | (go_at_call 6; refine (alive_any _ hT hw0).mono ?_; rintro e' wa ⟨rfl, hba⟩) | (go_at_call 7; refine (right_any _ _ _ _).mono ?_; rw [HR.out]; rintro e' w' ⟨rfl, rfl⟩) | (go_at_call 8; refine (St.new (w0 := w) (B := w.heap.size) (hT.below hba hw0) hba hba.size hw0 a0 a1 1 HR.out).mono ?_; rintro e' w1 ⟨rfl, h1⟩))
        generalize wa.heap.size + 1 = g at *
        generalize wa.heap.size = m at *
        go_loopw [11] (fun i wr => ∃ (k : Nat) (o : Option Acc), k ≤ len2 ∧ FInv a0 o ∧ St w wr w.heap.size g m k a0 a1 1 (one o) ∧ i = .int .i64 k) (fun i _ => len2 - (intOf i).toNat)
        case atStart => exact ⟨0, none, by omega, trivial, h1, rfl⟩
        case round =>
          obtain ⟨k, o, hk, hinv, hst, rfl⟩ := hrel
          by_cases hk2 : k < len2
          · obtain ⟨x, rfl, hc0, hwf, hbl⟩ := w2.at_ hk2
            have hc := (hst.bel.cell hbl).trans hc0
            have hzb := wf_u8 hwf
            generalize z2[k]?.getD 0 = z at *
            clear hc0 hwf
            go_wp2_with (go_at_call 9; refine (hst.fault_to q1 q2 q3 (by omega) (by omega) hw0 nmA nmA_size (by unfold maxLen; omega) 0 (z % 13) (fault_one a0 a1 1 o 0 (z % 13))).mono ?_; rintro e' wf ⟨rfl, hst'⟩)
            go_roundw
            case rel => exact ⟨k + 1, _, by omega, fades_step hinv q1 q2, hst', by go_num⟩
            case measure => simp [intOf]; omega
          · have hgo : k = len2 := by omega
            have HG := hide hgo
            clear hgo
            go_wp2_with (go_at_call 10; refine (hst.score_to q3 nmA nmA_size 0 (score_one a1 o 0)).mono ?_; rintro e' ws ⟨rfl, hst'⟩)
            go_loopw [12, 13, 14] (fun la nw i wr => ∃ (j : Nat) (now : Int), j ≤ len3 ∧ 0 ≤ now ∧ now ≤ j * 1099511627776 ∧ St w wr w.heap.size g m k a0 a1 1 (one o) ∧ la = .int .i64 (scoreO a1 o now) ∧ nw = .int .i64 now ∧ i = .int .i64 j) (fun _ _ i _ => len3 - (intOf i).toNat)
            case atStart => exact ⟨0, 0, by omega, by omega, by omega, hst', rfl, rfl, rfl⟩
            case round =>
              obtain ⟨j, now, hj, hn0, hnM, hst2, rfl, rfl, rfl⟩ := hrel
              by_cases hj2 : j < len3
              · obtain ⟨x, rfl, hc0, hwf, hbl⟩ := w3.at_ hj2
                have hc := (hst2.bel.cell hbl).trans hc0
                generalize z3[j]?.getD 0 = z at *
                clear hc0 hwf
                by_cases d1 : z < 0
                · go_wp2
                  go_ret
                  exact ⟨rfl, hst2.bel⟩
                · by_cases d2 : 1099511627776 < z
                  · go_wp2
                    go_ret
                    exact ⟨rfl, hst2.bel⟩
                  · have hmono := score_anti hinv q3 hn0 (show now ≤ now + z by omega) (by omega)
                    have m1 : ¬ scoreO a1 o now < scoreO a1 o (now + z) := by omega
                    have m2 : ¬ scoreO a1 o (now + z) < 0 := by omega
                    go_wp2_with (go_at_call 10; refine (hst2.score_to q3 nmA nmA_size (now + z) (score_one a1 o (now + z))).mono ?_; rintro e' wt ⟨rfl, hst3⟩)
                    go_roundw
                    case rel => exact ⟨j + 1, now + z, by omega, by omega, by omega, hst3, rfl, rfl, by go_num⟩
                    case measure => simp [intOf]; omega
              · go_wp2_with (go_at_call 10; refine (hst2.score_to q3 nmA nmA_size (20 * a1) ((score_one a1 o (20 * a1)).trans (score_end hinv q3 q4))).mono ?_; rintro e' wt ⟨rfl, hst3⟩)
                go_ret
                exact ⟨rfl, hst3.bel⟩
end Go.Proofs.YtckdahojhdbpjaaDoor
