/- Drop of the example's body: (under way) -/
import Derived.Test.YtoclbcpfiacoaaaOwn1
namespace Go.Proofs.Ytoclbcpfiacoaaa
set_option linter.unusedVariables false
set_option linter.unusedSimpArgs false
open Go.RowKit

theorem del_int {P : Program} {w : World} {mty kt et ty : TypeId} {r clock : Nat} {es : Array MapEntry} {k : Int} {i : Nat} {v : Value} (hm : P.underlying mty = some (.map kt et)) (hk : P.underlying kt = some (.int .i64))
    (hb : w.heap[r]? = some (.map es clock)) (hf : Instr.findNow (.int .i64) (.int .i64 k) es.toList 0 = some (some (i, v))) :
    (Builtin.delete_ #[mty, kt] ty #[.map (some r), .int .i64 k]).run P w = .ok (.tuple #[]) { w with heap := w.heap.setIfInBounds r (.map (es.eraseIdxIfInBounds i) clock) } := by
  have hc : (Instr.checkKey es.isEmpty 10000 kt (.int .i64 k)).run P w = .ok () w := MapKept.run_checkKey (k := .int .i64 k) hk (by simp [MapKept.IsKey]) _ 9999
  simp [Builtin.delete_, run_underlying hm, MapKept.run_getObj_map hb, hc, MapKept.run_findKey hk hf, MapKept.run_setObj_map _ hb, Result.andThen]
set_option maxRecDepth 100000 in
set_option maxHeartbeats 2000000 in
theorem drop1 (B M J T : Nat) (w : World) (hBM : B ≤ M) (hBJ : B ≤ J) (hMT : M < T) (hT : w.heap[T]? = some (.map #[{ key := .int .i64 1, val := .string ⟨#[99]⟩, born := 0 }] 1)) (hM : w.heap[M]? = some (.map #[{ key := .int .i64 7, val := .pointer (some ⟨T + 1, 0, none⟩), born := 0 }] 1))
    (hB : Bk w (T + 1) 92 #[.int .i64 2, .map (some T)]) (hJ : Bk w J 86 #[.int .i64 9, .int .i64 1, .int .i64 1, .map (some M)]) :
    Calls Try.prog 17 #[.pointer (some ⟨J, 0, none⟩), .int .i64 7] w fun e w' => e = .returned (.bool true) ∧ Below B w w' := by
  have l1 : (Instr.lookup 84 (.map (some M)) (.int .i64 7) true).run Try.prog w = .ok (.tuple #[.pointer (some ⟨T + 1, 0, none⟩), .bool true]) w := look_int (P := Try.prog) (k := 7) Try.underlying84 Try.underlying3 (zero88 w) hM (res := some (0, .pointer (some ⟨T + 1, 0, none⟩))) rfl
  have hoT : w.ownsMap Try.prog 3 (plainElem (H := Nat) Try.prog 9) T 1 ((DataW.map []).put (.int .i64 1) (.lit (.string [99]))) := own_one Try.underlying90 Try.underlying3 (by decide) (d := .lit (.string [99])) (ps := []) (by simp [plainElem, Try.underlying9]; unfold maxLen; decide) hT
  have c2 := hJ.cell 2
  have c3 := hJ.cell 3
  have d1 := hB.cell 1
  have f2 := hJ.free 2
  go_enter Try.func17, Try.ntmps17
  go_wp2_with ((with_reducible show wpList _ _ _ _ _ _); refine wpList_range_own _ rfl (.tmp 25) 90 rfl 3 9 (Maps.int_keyed Try.underlying3) Try.underlying90 _ T 1 _ rfl hoT ?_; intro w1 hr1 hg1 hs1)
  go_frame
  have hj := hJ.lt
  have hb := hB.lt
  have hm := bk_lt' hM
  have ht := bk_lt' hT
  generalize hD : (DataW.map (H := Nat) []).put (.int .i64 1) (.lit (.string [99])) = D at *
  have hsz : Maps.size D = 1 := by rw [← hD]; rfl
  rw [hsz] at hr1
  go_loopw [8] (fun _ wr => ∃ (cnt : Nat) (left : Lit → Bool) (u : Int), wr.ranges Try.prog 3 (plainElem Try.prog 9) T w.heap.size 1 D left cnt ∧ wr.heap[M]? = some (.map #[{ key := .int .i64 7, val := .pointer (some ⟨T + 1, 0, none⟩), born := 0 }] 1) ∧ Bk wr J 86 #[.int .i64 9, .int .i64 1, .int .i64 u, .map (some M)] ∧ Below B w wr) (fun _ wr => wr.rangeLeft T w.heap.size)
  case atStart => exact ⟨1, _, 1, hr1, (hg1.block M hm (by simp)).trans hM, (hg1.block J hj (by simp)).trans hJ, (Below.refl _ w).grown hg1 (by omega) (fun k e => by cases e)⟩
  case round =>
    obtain ⟨cnt, left, u, hr, hMr, hJr, hbr⟩ := hrel
    have c3r := hJr.cell 3
    have hd : ∀ ty, (Builtin.delete_ #[84, 3] ty #[.map (some M), .int .i64 7]).run Try.prog wr = .ok (.tuple #[]) (putO wr M (.map #[] 1)) := fun ty => by
      have h := del_int (P := Try.prog) (ty := ty) (k := 7) (i := 0) (v := .pointer (some ⟨T + 1, 0, none⟩)) Try.underlying84 Try.underlying3 hMr rfl
      simpa [putO] using h
    go_wp2_with ((with_reducible show wpList _ _ _ _ _ _); refine wpList_next_ranges _ rfl (.tmp 26) rfl 3 (Maps.int_keyed Try.underlying3) (plainElem Try.prog 9) (Value.int .i64) Value.string (fun key kl hkey => by obtain ⟨x, rfl, _⟩ := Maps.keyOf_int_inv Try.underlying3 hkey; exact ⟨x, rfl⟩) (fun v y hv => by obtain ⟨s, rfl, _⟩ := plainElem_string_inv Try.underlying9 hv; exact ⟨s, rfl⟩) T w.heap.size 1 D left cnt rfl hr ?_ ?_)
    · intro hc0 _
      go_wp2
      go_ret
      exact ⟨rfl, hbr.trans (put_below hBM)⟩
    · intro x c kl a b w2 cnt' hkey hlk hv hat2 hrg hlt hgr hsz2 hen
      have hJ2 : Bk w2 J 86 #[.int .i64 9, .int .i64 1, .int .i64 u, .map (some M)] := (hgr.block J hJr.lt (fun e => by have := Option.some.inj e; omega)).trans hJr
      have hM2 := (hgr.block M (bk_lt' hMr) (fun e => by have := Option.some.inj e; omega)).trans hMr
      have c2 := hJ2.cell 2
      have f2 := hJ2.free 2
      have hjt : T ≠ J := fun e => by subst e; exact absurd (hJ.symm.trans hT) (by simp)
      have hjm : J ≠ M := fun e => by subst e; exact absurd (hJ.symm.trans hM) (by simp)
      have hb2 : Below B w w2 := hbr.grown hgr (by have := hbr.size; omega) (fun k e => by have := Option.some.inj e; omega)
      have hkp := fun v => hrg.kept (only_set (only_refl w2 (some J)) (p := ⟨J, 2, none⟩) rfl v) (fun e => hjt (Option.some.inj e)) (fun e => by have := Option.some.inj e; omega)
      clear c3r hd hkey hv hat2
      go_wp2
      go_roundw
      case rel => exact ⟨cnt', _, _, hrg.kept (only_set (only_refl w2 (some J)) (p := ⟨J, 2, none⟩) rfl _) (fun e => hjt (Option.some.inj e)) (fun e => by have := Option.some.inj e; omega), (Below.heap_setCell w2 ⟨J, 2, none⟩ _ M hjm.symm).trans hM2, hJ2.put 2 _, hb2.setCell (p := ⟨J, 2, none⟩) hBJ _⟩
      case measure =>
        rw [(hkp _).left_eq, hr.left_eq]
        exact hlt
end Go.Proofs.Ytoclbcpfiacoaaa
