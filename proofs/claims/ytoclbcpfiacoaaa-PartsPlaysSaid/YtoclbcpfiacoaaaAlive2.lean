/- the whole body of the document's example -/
import Derived.Test.YtoclbcpfiacoaaaAlive
import Derived.Test.YtoclbcpfiacoaaaBld
namespace Go.Proofs.Ytoclbcpfiacoaaa
set_option linter.unusedVariables false
set_option linter.unusedSimpArgs false
open Go.RowKit
open Go.Lib hiding intOf

theorem look_int_f {P : Program} {w : World} {mty kt et : TypeId} {r clock : Nat} {es : Array MapEntry} {k : Int} {z : Value} {res : Option (Nat × Value)} (hm : P.underlying mty = some (.map kt et)) (hk : P.underlying kt = some (.int .i64)) (hz : (zeroValue et).run P w = .ok z w)
    (hb : w.heap[r]? = some (.map es clock)) (hf : Instr.findNow (.int .i64) (.int .i64 k) es.toList 0 = some res) :
    (Instr.lookup mty (.map (some r)) (.int .i64 k) false).run P w = .ok ((res.map Prod.snd).getD z) w := by
  have hc : (Instr.checkKey es.isEmpty 10000 kt (.int .i64 k)).run P w = .ok () w := MapKept.run_checkKey (k := .int .i64 k) hk (by simp [MapKept.IsKey]) _ 9999
  cases res with
  | none => simp [Instr.lookup, run_underlying hm, MapKept.run_getObj_map hb, hc, MapKept.run_findKey hk hf, hz, Result.andThen]
  | some q => simp [Instr.lookup, run_underlying hm, MapKept.run_getObj_map hb, hc, MapKept.run_findKey hk hf, hz, Result.andThen]
theorem strCells_str (l : List UInt8) : strCells (str l) = byteCells l := by simp [strCells, byteCells, str]
/-- what is written when k rounds are over -/
def abc (k : Nat) : List UInt8 := if k = 0 then [] else if k = 1 then [97, 98] else [97, 98, 99]
set_option maxRecDepth 100000 in
set_option maxHeartbeats 2000000 in
theorem whole2 (T : Nat) (w : World) (hT : w.heap[T]? = some (.map #[{ key := .int .i64 1, val := .string ⟨#[99]⟩, born := 0 }] 1)) (hB : Bk w (T + 1) 92 #[.int .i64 2, .map (some T)]) :
    Calls Try.prog 35 #[.pointer (some ⟨T + 1, 0, none⟩), .agg #[.int .i64 7, .int .i64 0, .int .i64 2, .string ⟨#[97, 98]⟩]] w fun e w' => e = .returned (.string ⟨#[97, 98, 99]⟩) ∧ Below w.heap.size w w' := by
  have hTl := bk_lt' hT
  have hBl := hB.lt
  have hp1 := Bk.made w 33 #[.int .i64 7, .int .i64 0, .int .i64 2, .string ⟨#[97, 98]⟩]
  have hb1 : Below w.heap.size w (w.alloc (.cells #[.int .i64 7, .int .i64 0, .int .i64 2, .string ⟨#[97, 98]⟩] 33)) := (Below.refl _ w).alloc (Nat.le_refl _) _
  have HF : IsBuilderF 113 5 (w.heap.size + 1) (w.heap.size + 1) (byteCells []) ((w.alloc (.cells #[.int .i64 7, .int .i64 0, .int .i64 2, .string ⟨#[97, 98]⟩] 33)).alloc (.cells #[.pointer none, .slice none 0 0] 113)) := by
    have h := IsBuilderF.of (fresh_isBuilder 113 5 (w.alloc (.cells #[.int .i64 7, .int .i64 0, .int .i64 2, .string ⟨#[97, 98]⟩] 33)))
    rw [World.size_alloc] at h
    exact h
  have q2 := (hp1.alloc (.cells #[.pointer none, .slice none 0 0] 113)).cell 2
  go_enter Try.func35, Try.ntmps35
  go_wp2_with fail
  go_loopw [9] (fun v9 wr => ∃ k : Nat, k ≤ 2 ∧ v9 = .int .i64 (k : Int) ∧ Sh (IsBuilderF 113 5 (w.heap.size + 1) (w.heap.size + 1) (byteCells (abc k)) wr) ∧ Below (w.heap.size + 1) (w.alloc (.cells #[.int .i64 7, .int .i64 0, .int .i64 2, .string ⟨#[97, 98]⟩] 33)) wr) (fun v9 _ => 2 - (intOf v9).toNat)
  case atStart => exact ⟨0, by omega, rfl, ⟨HF⟩, (Below.refl _ _).alloc (by simp) _⟩
  case round =>
    obtain ⟨k, hk, rfl, HB, hb⟩ := hrel
    have hwr := hb.size
    rw [World.size_alloc] at hwr
    have hp2 := hp1.below hb (by omega)
    have hB2 := (hB.alloc (.cells #[.int .i64 7, .int .i64 0, .int .i64 2, .string ⟨#[97, 98]⟩] 33)).below hb (by omega)
    have hT2 : wr.heap[T]? = some (.map #[{ key := .int .i64 1, val := .string ⟨#[99]⟩, born := 0 }] 1) := by
      rw [hb.block T (by omega), Below.heap_alloc w _ T hTl]; exact hT
    have p1 := hp2.cell 1
    have p3 := hp2.cell 3
    have d1 := hB2.cell 1
    have hbw : Below w.heap.size w wr := hb1.trans (hb.mono (by omega))
    rcases (show k = 0 ∨ k = 1 ∨ k = 2 by omega) with rfl | rfl | rfl
    · have HW := sh (fun W h hB => wstring (w.heap.size + 1) (w.heap.size + 1) (byteCells (abc 0)) ⟨#[97, 98]⟩ W h (by rw [byteCells_length]; decide) hB)
      go_wp2_with (go_at_call 49; refine (HW.out _ HB.out (by omega)).mono ?_; rintro e' w2 ⟨rfl, h2, hb2, _⟩)
      go_roundw
      case rel => exact ⟨1, by omega, by go_num, ⟨.inr h2⟩, hb.trans hb2⟩
      case measure => simp [intOf]
    · have HW := sh (fun W h hB => wstring (w.heap.size + 1) (w.heap.size + 1) (byteCells (abc 1)) ⟨#[99]⟩ W h (by rw [byteCells_length]; decide) hB)
      have l1 : (Instr.lookup 90 (.map (some T)) (.int .i64 1) false).run Try.prog wr = .ok (.string ⟨#[99]⟩) wr := look_int_f (P := Try.prog) (k := 1) Try.underlying90 Try.underlying3 (zero9 wr) hT2 (res := some (0, .string ⟨#[99]⟩)) rfl
      go_wp2_with (go_at_call 49; refine (HW.out _ HB.out (by omega)).mono ?_; rintro e' w2 ⟨rfl, h2, hb2, _⟩)
      go_roundw
      case rel => exact ⟨2, by omega, by go_num, ⟨.inr h2⟩, hb.trans hb2⟩
      case measure => simp [intOf]
    · have HSt := sh (fun W h hB => Try.Builder_String_any_k (w.heap.size + 1) (w.heap.size + 1) (abc 2) W h hB)
      go_wp2_with (go_at_call 50; refine (HSt.out _ HB.out (by omega)).mono ?_; rintro e' w2 ⟨rfl, _, hb2, _⟩)
      go_ret
      exact ⟨rfl, hbw.trans (hb2.mono (by omega))⟩
end Go.Proofs.Ytoclbcpfiacoaaa
