/- the second part of the document's example is added (under way) -/
import Derived.Test.YtoclbcpfiacoaaaDrop1
namespace Go.Proofs.Ytoclbcpfiacoaaa
set_option linter.unusedVariables false
set_option linter.unusedSimpArgs false
open Go.RowKit

/-- the joiner behind the first Add, and a part at N -/
def AS2 (N J M T : Nat) (W : World) : Prop :=
  W.heap[T]? = some (.map #[{ key := .int .i64 1, val := .string ⟨#[99]⟩, born := 0 }] 1) ∧ W.heap[M]? = some (.map #[{ key := .int .i64 7, val := .pointer (some ⟨T + 1, 0, none⟩), born := 0 }] 1) ∧ Bk W (T + 1) 92 #[.int .i64 2, .map (some T)] ∧ Bk W N 33 #[.int .i64 7, .int .i64 0, .int .i64 2, .string ⟨#[97, 98]⟩] ∧ Bk W J 86 #[.int .i64 9, .int .i64 1, .int .i64 1, .map (some M)]
set_option maxRecDepth 100000 in
set_option maxHeartbeats 4000000 in
theorem add2 (B M J T : Nat) (w : World) (hBM : B ≤ M) (hBJ : B ≤ J) (hMT : M < T) (hT : w.heap[T]? = some (.map #[{ key := .int .i64 1, val := .string ⟨#[99]⟩, born := 0 }] 1)) (hM : w.heap[M]? = some (.map #[{ key := .int .i64 7, val := .pointer (some ⟨T + 1, 0, none⟩), born := 0 }] 1))
    (hB : Bk w (T + 1) 92 #[.int .i64 2, .map (some T)]) (hJ : Bk w J 86 #[.int .i64 9, .int .i64 1, .int .i64 1, .map (some M)]) :
    Calls Try.prog 14 #[.pointer (some ⟨J, 0, none⟩), .agg #[.int .i64 7, .int .i64 0, .int .i64 2, .string ⟨#[97, 98]⟩]] w fun e w' => e = .returned (.tuple #[.string ⟨#[97, 98, 99]⟩, .bool true, .int .i64 0]) ∧ Below B w w' := by
  have HM := sh (fun W => may_ok 7 0 2 ⟨#[97, 98]⟩ W)
  rw [show decide (MayP 7 0 2 ⟨#[97, 98]⟩) = true from by decide] at HM
  have hMl := bk_lt' hM
  have hTl := bk_lt' hT
  go_enter Try.func14, Try.ntmps14
  go_wp2_with (go_at_call 34; refine (HM.out _).mono ?_; rintro e' w1 ⟨rfl, hb1⟩)
  have s1 := hb1.size
  simp at s1
  have hA1 : AS2 w.heap.size J M T w1 := ⟨by rw [hb1.block T (by simp; omega), Below.heap_alloc w _ T hTl]; exact hT, by rw [hb1.block M (by simp; omega), Below.heap_alloc w _ M hMl]; exact hM, (hB.alloc _).below hb1 (by have := hB.lt; simp; omega), (Bk.made w 33 _).below hb1 (by simp), (hJ.alloc _).below hb1 (by have := hJ.lt; simp; omega)⟩
  have hL1 : Below B w w1 := ((Below.refl _ w).alloc (by omega) _).trans (hb1.mono (by simp; omega))
  obtain ⟨hT1, hM1, hB1, hp1, hg1⟩ := hA1
  have p0 := hp1.cell 0
  have p1 := hp1.cell 1
  have p2 := hp1.cell 2
  have p3 := hp1.cell 3
  have c3 := hg1.cell 3
  have d0 := hB1.cell 0
  have d1 := hB1.cell 1
  have l1 : (Instr.lookup 84 (.map (some M)) (.int .i64 7) true).run Try.prog w1.drew = .ok (.tuple #[.pointer (some ⟨T + 1, 0, none⟩), .bool true]) w1.drew := look_int (P := Try.prog) (k := 7) Try.underlying84 Try.underlying3 (zero88 w1.drew) (show w1.drew.heap[M]? = _ from hM1) (res := some (0, .pointer (some ⟨T + 1, 0, none⟩))) rfl
  go_region
  all_goals go_wp2_with fail
  have l2 : (Instr.lookup 90 (.map (some T)) (.int .i64 0) true).run Try.prog w1.drew.drew = .ok (.tuple #[.string ⟨#[]⟩, .bool false]) w1.drew.drew := look_int (P := Try.prog) (k := 0) Try.underlying90 Try.underlying3 (zero9 w1.drew.drew) (show w1.drew.drew.heap[T]? = _ from hT1) (res := none) rfl
  go_region
  all_goals go_wp2_with fail
  go_quiet (fail)
  all_goals go_wp2_with fail
  have hA4 : AS2 w.heap.size J M T (w1.drew.drew.drewN nq) := ⟨hT1, hM1, hB1, hp1, hg1⟩
  have hL4 : Below B w (w1.drew.drew.drewN nq) := below_drewN hL1.drew.drew _
  clear l1 l2 p0 p1 p2 p3 c3 d0 d1 hT1 hM1 hB1 hp1 hg1 hL1
  generalize w1.drew.drew.drewN nq = W4 at *
  obtain ⟨hT4, hM4, hB4, hp4, hg4⟩ := hA4
  have p2 := hp4.cell 2
  have p0 : W4.cell? ⟨w.heap.size, 0, none⟩ = some (.int .i64 7) := hp4.cell 0
  have p1 : W4.cell? ⟨w.heap.size, 1, none⟩ = some (.int .i64 0) := hp4.cell 1
  have p3 : W4.cell? ⟨w.heap.size, 3, none⟩ = some (.string ⟨#[97, 98]⟩) := hp4.cell 3
  have d1 := hB4.cell 1
  have ln : ∀ k, (Builtin.len_ #[90] 3 #[.map (some T)]).run Try.prog (W4.drewN k) = .ok (.int .i64 1) (W4.drewN k) := fun k => len_map Try.underlying90 (show (W4.drewN k).heap[T]? = _ from hT4)
  have lnd : (Builtin.len_ #[90] 3 #[.map (some T)]).run Try.prog W4.drew = .ok (.int .i64 1) W4.drew := ln 1
  go_region
  all_goals go_wp2_with fail
  have hA5 : AS2 w.heap.size J M T W4.drew := ⟨hT4, hM4, hB4, hp4, hg4⟩
  have hL5 : Below B w W4.drew := hL4.drew
  clear ln lnd p0 p1 p2 p3 d1 hT4 hM4 hB4 hp4 hg4 hL4
  generalize W4.drew = W5 at *
  obtain ⟨hT5, hM5, hB5, hp5, hg5⟩ := hA5
  have p0 : W5.cell? ⟨w.heap.size, 0, none⟩ = some (.int .i64 7) := hp5.cell 0
  have p1 : W5.cell? ⟨w.heap.size, 1, none⟩ = some (.int .i64 0) := hp5.cell 1
  have p2 : W5.cell? ⟨w.heap.size, 2, none⟩ = some (.int .i64 2) := hp5.cell 2
  have p3 : W5.cell? ⟨w.heap.size, 3, none⟩ = some (.string ⟨#[97, 98]⟩) := hp5.cell 3
  refine (whole2 T W5 hT5 hB5).mono ?_
  rintro e' W6 ⟨rfl, hb6⟩
  have p0' : W6.cell? ⟨w.heap.size, 0, none⟩ = some (.int .i64 7) := (hp5.below hb6 hp5.lt).cell 0
  go_wp2_with (go_at_call 17; refine (drop1 B M J T W6 hBM hBJ hMT ((hb6.block T (bk_lt' hT5)).trans hT5) ((hb6.block M (bk_lt' hM5)).trans hM5) (hB5.below hb6 hB5.lt) (hg5.below hb6 hg5.lt)).mono ?_; rintro e' W7 ⟨rfl, hb7⟩)
  go_ret3
  exact ⟨rfl, (hL5.trans (hb6.mono (by have := bk_lt' hM5; omega))).trans hb7⟩
end Go.Proofs.Ytoclbcpfiacoaaa
