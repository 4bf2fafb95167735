/- the document's example of the parts is alive -/
import Derived.Test.YtoclbcpfiacoaaaAlive3
namespace Go.Proofs.Ytoclbcpfiacoaaa
set_option linter.unusedVariables false
set_option linter.unusedSimpArgs false
open Go.RowKit

set_option maxRecDepth 100000 in
set_option maxHeartbeats 4000000 in
theorem alive30 (w : World) : Calls Try.prog 9 #[] w fun e w' => e = .returned (.bool true) ∧ Below w.heap.size w w' := by
  have HC := sh (fun W => cut_ok 7 2 ⟨#[97, 98, 99]⟩ (by decide) (by decide) (by decide) (by decide) (by decide) (by decide) W)
  go_enter Try.func9, Try.ntmps9
  go_wp2_with (go_at_call 10; refine (HC.out _).mono ?_; rintro e' w2 ⟨v, rfl, ho, hb2⟩; obtain ⟨g, cp, rfl, hg⟩ := slice_form ho (by decide))
  obtain ⟨W3, hW3⟩ : ∃ W3, (w2.alloc (.map #[] 0)).alloc (.cells #[.int .i64 9, .int .i64 1, .int .i64 0, .map (some w2.heap.size)] 86) = W3 := ⟨_, rfl⟩
  refine (newj w2).mono ?_
  rintro e' w3 ⟨rfl, hw3⟩
  rw [hW3] at hw3
  subst hw3
  have hb3 : Below w2.heap.size w2 w3 := by rw [← hW3]; exact ((Below.refl _ w2).alloc (Nat.le_refl _) _).alloc (by simp) _
  have hM3 : w3.heap[w2.heap.size]? = some (.map #[] 0) := by
    rw [← hW3, Below.heap_alloc _ _ _ (by simp)]
    exact World.alloc_heap_new w2 (.map #[] 0)
  have hJ3 : Bk w3 (w2.heap.size + 1) 86 #[.int .i64 9, .int .i64 1, .int .i64 0, .map (some w2.heap.size)] := by
    rw [← hW3]
    have h := Bk.made (w2.alloc (.map #[] 0)) 86 #[.int .i64 9, .int .i64 1, .int .i64 0, .map (some w2.heap.size)]
    rw [World.size_alloc] at h
    exact h
  obtain ⟨a0, a1, a2, a3⟩ := own_cells4 ho (i := 1) (by decide)
  obtain ⟨b0, b1, b2, b3⟩ := own_cells4 ho (i := 0) (by decide)
  have k3 : ∀ o, w3.cell? ⟨g, o, none⟩ = w2.cell? ⟨g, o, none⟩ := fun o => hb3.cell (p := ⟨g, o, none⟩) hg
  have x0 : w3.cell? ⟨g, 4, none⟩ = some (.int .i64 7) := (k3 4).trans a0
  have x1 : w3.cell? ⟨g, 5, none⟩ = some (.int .i64 1) := (k3 5).trans a1
  have x2 : w3.cell? ⟨g, 6, none⟩ = some (.int .i64 2) := (k3 6).trans a2
  have x3 : w3.cell? ⟨g, 7, none⟩ = some (.string ⟨#[99]⟩) := (k3 7).trans a3
  go_wp2_with fail
  refine (add1 w2.heap.size w2.heap.size (w2.heap.size + 1) (Nat.le_refl _) (Nat.le_succ _) w3 hM3 hJ3).mono ?_
  rintro e' w4 ⟨rfl, hb4, T, hMT, hT4, hM4, hB4, hJ4⟩
  have k4 : ∀ o, w4.cell? ⟨g, o, none⟩ = w2.cell? ⟨g, o, none⟩ := fun o => (hb4.cell (p := ⟨g, o, none⟩) hg).trans (k3 o)
  have y0 : w4.cell? ⟨g, 0, none⟩ = some (.int .i64 7) := (k4 0).trans b0
  have y1 : w4.cell? ⟨g, 1, none⟩ = some (.int .i64 0) := (k4 1).trans b1
  have y2 : w4.cell? ⟨g, 2, none⟩ = some (.int .i64 2) := (k4 2).trans b2
  have y3 : w4.cell? ⟨g, 3, none⟩ = some (.string ⟨#[97, 98]⟩) := (k4 3).trans b3
  clear k3 k4 x0 x1 x2 x3 a0 a1 a2 a3 b0 b1 b2 b3 hM3 hJ3 hW3
  go_wp2_with fail
  refine (add2 w2.heap.size w2.heap.size (w2.heap.size + 1) T w4 (Nat.le_refl _) (Nat.le_succ _) hMT hT4 hM4 hB4 hJ4).mono ?_
  rintro e' w5 ⟨rfl, hb5⟩
  go_wp2_with fail
  go_ret
  exact ⟨rfl, hb2.trans (((hb3.trans hb4).trans hb5).mono hb2.size)⟩
/-- PartsCuts, as the row wants it -/
theorem cuts_row (id : Int) (s : ByteArray) (sz : Int) (W : World) {p q : Prop} (_ : p) (_ : q) (w2 : (Lit.int .i64 sz).wf = true) :
    Calls Try.prog 3 #[.int .i64 id, .string s, .int .i64 sz] W fun e w' => e = .returned (.bool true) ∧ Below W.heap.size W w' := cuts_walk ⟨alive30⟩ id sz s (wf_i64 w2) W
end Go.Proofs.Ytoclbcpfiacoaaa
