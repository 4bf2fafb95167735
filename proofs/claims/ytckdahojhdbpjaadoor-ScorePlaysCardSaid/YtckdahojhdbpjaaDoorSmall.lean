/- (*Board).Score, Until, Banned, New, and Fault of what bears no points: contracts over the loaded program. -/
import Derived.Test.YtckdahojhdbpjaaDoorLeaf
import Derived.Maps.OwnSet
import Derived.StringKeys
namespace Go.Proofs.YtckdahojhdbpjaaDoor
set_option linter.unusedVariables false
set_option linter.unusedSimpArgs false
open Go.RowKit

set_option maxHeartbeats 400000 in
theorem score_none (lim hal ban now : Int) (gb m : Nat) (nm : ByteArray) (w : World)
    (HB : Bk w gb 59 #[.int .i64 lim, .int .i64 hal, .int .i64 ban, .map (some m)])
    (hlook : (Instr.lookup 57 (.map (some m)) (.string nm) false).run Tryd.prog w = .ok (.pointer none) w) :
    Calls Tryd.prog 10 #[.pointer (some ⟨gb, 0, none⟩), .string nm, .int .i64 now] w fun e' w' => e' = .returned (.int .i64 0) ∧ w = w' := by
  have c3 : w.cell? ⟨gb, 3, none⟩ = some (.map (some m)) := HB.cell 3
  clear HB
  go_enter Tryd.func10, Tryd.ntmps10
  go_wp2
  go_ret
  exact ⟨rfl, rfl⟩
set_option maxHeartbeats 400000 in
theorem score_some (lim hal ban now pts at_ til : Int) (gb gp m : Nat) (nm : ByteArray) (w : World) (h1 : 1 ≤ hal) (hok : (Acc.mk pts at_ til).ok)
    (HB : Bk w gb 59 #[.int .i64 lim, .int .i64 hal, .int .i64 ban, .map (some m)]) (HP : Bk w gp 64 (Acc.mk pts at_ til).cells)
    (hlook : (Instr.lookup 57 (.map (some m)) (.string nm) false).run Tryd.prog w = .ok (.pointer (some ⟨gp, 0, none⟩)) w) :
    Calls Tryd.prog 10 #[.pointer (some ⟨gb, 0, none⟩), .string nm, .int .i64 now] w fun e' w' => e' = .returned (.int .i64 (atZ hal pts at_ now)) ∧ ∃ n, w' = w.drewN n := by
  obtain ⟨hp, hpM, ha, haM, ht, htM⟩ := hok
  simp only at hp hpM ha haM ht htM
  have c1 : w.cell? ⟨gb, 1, none⟩ = some (.int .i64 hal) := HB.cell 1
  have c3 : w.cell? ⟨gb, 3, none⟩ = some (.map (some m)) := HB.cell 3
  have p0 : w.cell? ⟨gp, 0, none⟩ = some (.int .i64 pts) := HP.cell 0
  have p1 : w.cell? ⟨gp, 1, none⟩ = some (.int .i64 at_) := HP.cell 1
  clear HB HP
  go_enter Tryd.func10, Tryd.ntmps10
  go_wp2_with (go_at_call 25; refine (at_any hal pts at_ now gb gp _ h1 hp (by omega) ha haM c1 p0 p1).mono ?_; rintro e' w' ⟨rfl, n1, rfl⟩)
  go_ret
  exact ⟨rfl, n1, rfl⟩
set_option maxHeartbeats 400000 in
theorem until_none (lim hal ban : Int) (gb m : Nat) (nm : ByteArray) (w : World)
    (HB : Bk w gb 59 #[.int .i64 lim, .int .i64 hal, .int .i64 ban, .map (some m)])
    (hlook : (Instr.lookup 57 (.map (some m)) (.string nm) false).run Tryd.prog w = .ok (.pointer none) w) :
    Calls Tryd.prog 13 #[.pointer (some ⟨gb, 0, none⟩), .string nm] w fun e' w' => e' = .returned (.int .i64 0) ∧ w = w' := by
  have c3 : w.cell? ⟨gb, 3, none⟩ = some (.map (some m)) := HB.cell 3
  clear HB
  go_enter Tryd.func13, Tryd.ntmps13
  go_wp2
  go_ret
  exact ⟨rfl, rfl⟩
set_option maxHeartbeats 400000 in
theorem until_some (lim hal ban pts at_ til : Int) (gb gp m : Nat) (nm : ByteArray) (w : World)
    (HB : Bk w gb 59 #[.int .i64 lim, .int .i64 hal, .int .i64 ban, .map (some m)]) (HP : Bk w gp 64 (Acc.mk pts at_ til).cells)
    (hlook : (Instr.lookup 57 (.map (some m)) (.string nm) false).run Tryd.prog w = .ok (.pointer (some ⟨gp, 0, none⟩)) w) :
    Calls Tryd.prog 13 #[.pointer (some ⟨gb, 0, none⟩), .string nm] w fun e' w' => e' = .returned (.int .i64 til) ∧ w = w' := by
  have c3 : w.cell? ⟨gb, 3, none⟩ = some (.map (some m)) := HB.cell 3
  have p2 : w.cell? ⟨gp, 2, none⟩ = some (.int .i64 til) := HP.cell 2
  clear HB HP
  go_enter Tryd.func13, Tryd.ntmps13
  go_wp2
  go_ret
  exact ⟨rfl, rfl⟩
set_option maxHeartbeats 400000 in
theorem banned_of (now til : Int) (p : Value) (nm : ByteArray) (w : World) (hU : Calls Tryd.prog 13 #[p, .string nm] w fun e' w' => e' = .returned (.int .i64 til) ∧ w = w') :
    Calls Tryd.prog 12 #[p, .string nm, .int .i64 now] w fun e' w' => e' = .returned (.bool (decide (clipZ now < til))) ∧ w = w' := by
  have HU := hide hU
  clear hU
  go_enter Tryd.func12, Tryd.ntmps12
  go_wp2_with (first | (go_at_call 24; refine (clip_any _ _).mono ?_; rintro e' w' ⟨rfl, rfl⟩) | (go_at_call 13; refine HU.out.mono ?_; rintro e' w' ⟨rfl, rfl⟩))
  go_ret
  exact ⟨rfl, rfl⟩
def rightB (a b c : Int) : Bool := decide (1 ≤ a ∧ a ≤ 1000000 ∧ 1 ≤ b ∧ b ≤ 1099511627776 ∧ 1 ≤ c ∧ c ≤ 1099511627776)
set_option maxHeartbeats 400000 in
theorem right_any (a b c : Int) (w : World) : Calls Tryd.prog 7 #[.int .i64 a, .int .i64 b, .int .i64 c] w fun e w' => e = .returned (.bool (rightB a b c)) ∧ w = w' := by
  go_enter Tryd.func7, Tryd.ntmps7
  go_wp2
  all_goals (go_ret; refine ⟨ret_bool ?_, rfl⟩; unfold rightB; first | (simp only [decide_eq_decide]; omega) | (symm; rw [decide_eq_false_iff_not]; omega))
def spanB (n : Int) : Bool := decide (1 ≤ n ∧ n ≤ 1099511627776)
set_option maxHeartbeats 400000 in
theorem span_any (n : Int) (w : World) : Calls Tryd.prog 23 #[.int .i64 n] w fun e w' => e = .returned (.bool (spanB n)) ∧ w = w' := by
  go_enter Tryd.func23, Tryd.ntmps23
  go_wp2
  all_goals (go_ret; refine ⟨ret_bool ?_, rfl⟩; unfold spanB; first | (simp only [decide_eq_decide]; omega) | (symm; rw [decide_eq_false_iff_not]; omega))
set_option maxHeartbeats 400000 in
theorem new_wrong (lim hal ban : Int) (w : World) (h : rightB lim hal ban = false) :
    Calls Tryd.prog 8 #[.int .i64 lim, .int .i64 hal, .int .i64 ban] w fun e' w' => e' = .returned (.tuple #[.pointer none, .int .i64 1]) ∧ w = w' := by
  have h' : ¬ (1 ≤ lim ∧ lim ≤ 1000000 ∧ 1 ≤ hal ∧ hal ≤ 1099511627776 ∧ 1 ≤ ban ∧ ban ≤ 1099511627776) := of_decide_eq_false h
  clear h
  by_cases a1 : lim < 1
  · go_enter Tryd.func8, Tryd.ntmps8
    go_wp2
    go_ret2
    exact ⟨rfl, rfl⟩
  · by_cases a2 : 1000000 < lim
    · go_enter Tryd.func8, Tryd.ntmps8
      go_wp2
      go_ret2
      exact ⟨rfl, rfl⟩
    · by_cases b : 1 ≤ hal ∧ hal ≤ 1099511627776
      · have hs : spanB hal = true := by simp [spanB, b]
        have hs2 : spanB ban = false := by simp only [spanB, decide_eq_false_iff_not]; omega
        clear h' b
        go_enter Tryd.func8, Tryd.ntmps8
        go_wp2_with (go_at_call 23; refine (span_any _ _).mono ?_; rintro e' w' ⟨rfl, rfl⟩)
        go_ret2
        exact ⟨rfl, rfl⟩
      · have hs : spanB hal = false := by simp only [spanB, decide_eq_false_iff_not]; omega
        clear h' b
        go_enter Tryd.func8, Tryd.ntmps8
        go_wp2_with (go_at_call 23; refine (span_any _ _).mono ?_; rintro e' w' ⟨rfl, rfl⟩)
        go_ret2
        exact ⟨rfl, rfl⟩
def NewPost (lim hal ban : Int) (w : World) (e' : Ending) (w' : World) : Prop :=
  e' = .returned (.tuple #[.pointer (some ⟨w.heap.size + 1, 0, none⟩), .int .i64 0]) ∧ w' = ((w.alloc (.map #[] 0)).alloc (.cells #[.int .i64 lim, .int .i64 hal, .int .i64 ban, .map (some w.heap.size)] 59))
set_option maxHeartbeats 400000 in
theorem new_right (lim hal ban : Int) (w : World) (h : rightB lim hal ban = true) :
    Calls Tryd.prog 8 #[.int .i64 lim, .int .i64 hal, .int .i64 ban] w (NewPost lim hal ban w) := by
  have h' : 1 ≤ lim ∧ lim ≤ 1000000 ∧ 1 ≤ hal ∧ hal ≤ 1099511627776 ∧ 1 ≤ ban ∧ ban ≤ 1099511627776 := of_decide_eq_true h
  have hs : spanB hal = true := by simp only [spanB, decide_eq_true_eq]; omega
  have hs2 : spanB ban = true := by simp only [spanB, decide_eq_true_eq]; omega
  obtain ⟨a1, a2, _⟩ := h'
  clear h
  have hmm := @run_makeMap Tryd.prog
  go_enter Tryd.func8, Tryd.ntmps8
  go_wp2_with (go_at_call 23; refine (span_any _ _).mono ?_; rintro e' w' ⟨rfl, rfl⟩)
  go_ret2
  exact ⟨rfl, rfl⟩
set_option maxHeartbeats 400000 in
/-- Fault of an error that bears no points is Score -/
theorem fault_zero (now e x : Int) (p : Value) (gb : Nat) (hp : p = .pointer (some ⟨gb, 0, none⟩)) (nm : ByteArray) (w : World) (R : World → Prop) (hT : Tab w) (hz : ptsZ e = 0)
    (hS : Calls Tryd.prog 10 #[p, .string nm, .int .i64 now] w fun e' w' => e' = .returned (.int .i64 x) ∧ R w') :
    Calls Tryd.prog 9 #[p, .string nm, .int .i64 now, .int .i64 e] w fun e' w' => e' = .returned (.int .i64 x) ∧ R w' := by
  subst hp
  have HS := hide hS
  clear hS
  have hz0 : (ptsZ e == 0) = true := by simp [hz]
  have HZ := hide hz
  clear hz
  go_enter Tryd.func9, Tryd.ntmps9
  go_wp2_with (first | (go_at_call 21; refine (points_any _ _ hT).mono ?_; rintro e' w' ⟨rfl, rfl⟩) | (go_at_call 10; refine HS.out.mono ?_; rintro e' w' ⟨rfl, hR⟩))
  go_ret
  exact ⟨rfl, hR⟩
end Go.Proofs.YtckdahojhdbpjaaDoor
