/- PartsBytes: Put of the reference. -/
import Derived.Test.YtoclbcpfiacoaaaPb1
import Derived.Deep.RegionHeld3
namespace Go.Proofs.Ytoclbcpfiacoaaa
set_option linter.unusedVariables false
set_option linter.unusedSimpArgs false
open Go.RowKit

theorem keep4 {N B : Nat} {w W W' : World} {x0 x1 x2 x3 : Value} (h : W.cell? ⟨N, 0, none⟩ = some x0 ∧ W.cell? ⟨N, 1, none⟩ = some x1 ∧ W.cell? ⟨N, 2, none⟩ = some x2 ∧ W.cell? ⟨N, 3, none⟩ = some x3 ∧ Below B w W) (hb : Below W.heap.size W W') (hB : B ≤ w.heap.size) :
    W'.cell? ⟨N, 0, none⟩ = some x0 ∧ W'.cell? ⟨N, 1, none⟩ = some x1 ∧ W'.cell? ⟨N, 2, none⟩ = some x2 ∧ W'.cell? ⟨N, 3, none⟩ = some x3 ∧ Below B w W' := by
  obtain ⟨h0, h1, h2, h3, h4⟩ := h
  have hN : N < W.heap.size := World.block_lt_of_cell? W ⟨N, 0, none⟩ h0
  exact ⟨(hb.cell (p := ⟨N, 0, none⟩) hN).trans h0, (hb.cell (p := ⟨N, 1, none⟩) hN).trans h1, (hb.cell (p := ⟨N, 2, none⟩) hN).trans h2, (hb.cell (p := ⟨N, 3, none⟩) hN).trans h3, h4.trans (hb.mono (Nat.le_trans hB h4.size))⟩
set_option maxRecDepth 100000 in
set_option maxHeartbeats 2000000 in
theorem ref_put3 (a b c : Nat) (t : ByteArray) (h : MayP a b c t) (w : World) : Calls Try.prog 30 #[.agg #[.int .i64 (a : Int), .int .i64 (b : Int), .int .i64 (c : Int), .string t]] w fun e w' => e = .returned (.string (str (putPL a b c (lst t)))) ∧ Below w.heap.size w w' := by
  obtain ⟨h1, h2, h3, h4, h5, h6, h7, h8⟩ := h
  have ha : a < u64M := by unfold u64M; omega
  have hb : b < u64M := by unfold u64M; omega
  have hc : c < u64M := by unfold u64M; omega
  have HA := sh (fun W => ref_put a ha W)
  have HB := sh (fun W => ref_put b hb W)
  have HC := sh (fun W => ref_put c hc W)
  have wa : IntKind.u64.wrap (a : Int) = (a : Int) := wrap_u64 (by omega) (by unfold u64M; omega)
  have wb : IntKind.u64.wrap (b : Int) = (b : Int) := wrap_u64 (by omega) (by unfold u64M; omega)
  have wc : IntKind.u64.wrap (c : Int) = (c : Int) := wrap_u64 (by omega) (by unfold u64M; omega)
  have la : (str (lebL a)).size ≤ 10 := by rw [size_str]; exact leb_len10 ha
  have lb : (str (lebL b)).size ≤ 10 := by rw [size_str]; exact leb_len10 hb
  have lc : (str (lebL c)).size ≤ 10 := by rw [size_str]; exact leb_len10 hc
  have HE := sh (show str (putPL a b c (lst t)) = str (lebL a) ++ str (lebL b) ++ str (lebL c) ++ t by
    rw [← putK_put, str_append, str_append]; rfl)
  clear ha hb hc
  have hP := Bk.made w 31 #[.int .i64 (a : Int), .int .i64 (b : Int), .int .i64 (c : Int), .string t]
  have c0 := hP.cell 0
  have c1 := hP.cell 1
  have c2 := hP.cell 2
  have c3 := hP.cell 3
  have hL : Below w.heap.size w (w.alloc (.cells #[.int .i64 (a : Int), .int .i64 (b : Int), .int .i64 (c : Int), .string t] 31)) := (Below.refl _ w).alloc (Nat.le_refl _) _
  generalize str (lebL a) = A at *
  generalize str (lebL b) = B at *
  generalize str (lebL c) = C at *
  have q1 : ¬ 9223372036854775807 < A.size + B.size := by omega
  have q2 : ¬ 9223372036854775807 < A.size + B.size + C.size := by omega
  have q3 : ¬ 9223372036854775807 < A.size + B.size + C.size + t.size := by omega
  have HS := sh (show (w.alloc (.cells #[.int .i64 (a : Int), .int .i64 (b : Int), .int .i64 (c : Int), .string t] 31)).drew.cell? ⟨w.heap.size, 0, none⟩ = some (.int .i64 (a : Int)) ∧ (w.alloc (.cells #[.int .i64 (a : Int), .int .i64 (b : Int), .int .i64 (c : Int), .string t] 31)).drew.cell? ⟨w.heap.size, 1, none⟩ = some (.int .i64 (b : Int)) ∧ (w.alloc (.cells #[.int .i64 (a : Int), .int .i64 (b : Int), .int .i64 (c : Int), .string t] 31)).drew.cell? ⟨w.heap.size, 2, none⟩ = some (.int .i64 (c : Int)) ∧ (w.alloc (.cells #[.int .i64 (a : Int), .int .i64 (b : Int), .int .i64 (c : Int), .string t] 31)).drew.cell? ⟨w.heap.size, 3, none⟩ = some (.string t) ∧ Below w.heap.size w (w.alloc (.cells #[.int .i64 (a : Int), .int .i64 (b : Int), .int .i64 (c : Int), .string t] 31)).drew from ⟨c0, c1, c2, c3, hL.drew⟩)
  clear c0 c1 c2 c3 hP
  go_enter Try.func30, Try.ntmps30
  go_wp2_with fail
  go_region_held3 (fun W => W.cell? ⟨w.heap.size, 0, none⟩ = some (.int .i64 (a : Int)) ∧ W.cell? ⟨w.heap.size, 1, none⟩ = some (.int .i64 (b : Int)) ∧ W.cell? ⟨w.heap.size, 2, none⟩ = some (.int .i64 (c : Int)) ∧ W.cell? ⟨w.heap.size, 3, none⟩ = some (.string t) ∧ Below w.heap.size w W)
    (first | assumption | exact HS.out | exact keep4 (by assumption) (by assumption) (Nat.le_refl _))
    (first
      | (go_at_call 40; (with_reducible refine (HA.out _).mono ?_); rintro e' w2 ⟨rfl, hb2⟩)
      | (go_at_call 40; (with_reducible refine (HB.out _).mono ?_); rintro e' w3 ⟨rfl, hb3⟩)
      | (go_at_call 40; (with_reducible refine (HC.out _).mono ?_); rintro e' w4 ⟨rfl, hb4⟩))
  all_goals
    go_wp2_with fail
    go_ret
    rename_i hH
    exact ⟨ret_str HE.out.symm, hH.2.2.2.2⟩
end Go.Proofs.Ytoclbcpfiacoaaa
