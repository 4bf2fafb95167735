/- the document's example of the parts (under way) -/
import Derived.Test.YtoclbcpfiacoaaaCutsLaw
import Derived.Test.YtoclbcpfiacoaaaMay
import Derived.Carry
import Derived.MapKept
import Derived.WideMake
namespace Go.Proofs.Ytoclbcpfiacoaaa
set_option linter.unusedVariables false
set_option linter.unusedSimpArgs false
open Go.RowKit

theorem bk_lt' {w : World} {b : Nat} {o : Obj} (h : w.heap[b]? = some o) : b < w.heap.size := (Array.getElem?_eq_some_iff.1 h).1
theorem newj (w : World) : Calls Try.prog 13 #[.int .i64 9, .int .i64 1] w fun e w' => e = .returned (.tuple #[.pointer (some ⟨w.heap.size + 1, 0, none⟩), .int .i64 0]) ∧ w' = (w.alloc (.map #[] 0)).alloc (.cells #[.int .i64 9, .int .i64 1, .int .i64 0, .map (some w.heap.size)] 86) := by
  have H := sh (fun (a b n : Int) W => within_ok n a b W)
  have hmm := @run_makeMap Try.prog
  go_enter Try.func13, Try.ntmps13
  go_wp2_with (go_at_call 32; refine (H.out _ _ _ _).mono ?_; rintro e' w1 ⟨rfl, rfl⟩)
  go_ret2
  exact ⟨rfl, rfl⟩
/-- a lookup by an int, in a map that is known whole -/
theorem look_int {P : Program} {w : World} {mty kt et : TypeId} {r clock : Nat} {es : Array MapEntry} {k : Int} {z : Value} {res : Option (Nat × Value)} (hm : P.underlying mty = some (.map kt et)) (hk : P.underlying kt = some (.int .i64)) (hz : (zeroValue et).run P w = .ok z w)
    (hb : w.heap[r]? = some (.map es clock)) (hf : Instr.findNow (.int .i64) (.int .i64 k) es.toList 0 = some res) :
    (Instr.lookup mty (.map (some r)) (.int .i64 k) true).run P w = .ok (.tuple #[(res.map Prod.snd).getD z, .bool res.isSome]) w := by
  have hc : (Instr.checkKey es.isEmpty 10000 kt (.int .i64 k)).run P w = .ok () w := MapKept.run_checkKey (k := .int .i64 k) hk (by simp [MapKept.IsKey]) _ 9999
  cases res with
  | none => simp [Instr.lookup, run_underlying hm, MapKept.run_getObj_map hb, hc, MapKept.run_findKey hk hf, hz, Result.andThen]
  | some q => simp [Instr.lookup, run_underlying hm, MapKept.run_getObj_map hb, hc, MapKept.run_findKey hk hf, hz, Result.andThen]
/-- a new key -/
theorem upd_int {P : Program} {w : World} {mty kt et : TypeId} {r clock : Nat} {es : Array MapEntry} {k : Int} {val : Value} (hm : P.underlying mty = some (.map kt et)) (hk : P.underlying kt = some (.int .i64))
    (hb : w.heap[r]? = some (.map es clock)) (hf : Instr.findNow (.int .i64) (.int .i64 k) es.toList 0 = some none) :
    (Instr.mapUpdate mty (.map (some r)) (.int .i64 k) val).run P w = .ok () { w with heap := w.heap.setIfInBounds r (.map (es.push { key := .int .i64 k, val := val, born := clock }) (clock + 1)) } := by
  have hc : (Instr.checkKey false 10000 kt (.int .i64 k)).run P w = .ok () w := MapKept.run_checkKey (k := .int .i64 k) hk (by simp [MapKept.IsKey]) false 9999
  simp [Instr.mapUpdate, run_underlying hm, MapKept.run_getObj_map hb, hc, MapKept.run_findKey hk hf, MapKept.run_setObj_map _ hb, Result.andThen]
theorem len_map {P : Program} {w : World} {r clock : Nat} {es : Array MapEntry} {t ty kt et : TypeId} (hm : P.underlying t = some (.map kt et)) (hb : w.heap[r]? = some (.map es clock)) : (Builtin.len_ #[t] ty #[.map (some r)]).run P w = .ok (.int .i64 (es.size : Int)) w := by
  simp [Builtin.len_, run_underlying hm, MapKept.run_getObj_map hb, goInt, Result.andThen]
theorem zero88 (w : World) : (zeroValue 88).run Try.prog w = .ok (.pointer none) w := by kernel_rfl
theorem zero9 (w : World) : (zeroValue 9).run Try.prog w = .ok (.string ⟨#[]⟩) w := by kernel_rfl
/-- the joiner J with its map M, the part at N, a body at T + 1 with its map T -/
def ASt (N J M T : Nat) (eT : Array MapEntry) (cT : Nat) (eM : Array MapEntry) (cM : Nat) (used : Int) (W : World) : Prop :=
  W.heap[T]? = some (.map eT cT) ∧ W.heap[M]? = some (.map eM cM) ∧ Bk W (T + 1) 92 #[.int .i64 2, .map (some T)] ∧ Bk W N 33 #[.int .i64 7, .int .i64 1, .int .i64 2, .string ⟨#[99]⟩] ∧ Bk W J 86 #[.int .i64 9, .int .i64 1, .int .i64 used, .map (some M)]
def putO (W : World) (r : Nat) (o : Obj) : World := { W with heap := W.heap.setIfInBounds r o }
theorem put_same {W : World} {r : Nat} {o o' : Obj} (h : W.heap[r]? = some o) : (putO W r o').heap[r]? = some o' := by
  show (W.heap.setIfInBounds r o')[r]? = _
  rw [Array.getElem?_setIfInBounds, if_pos rfl, if_pos (bk_lt' h)]
theorem put_other {W : World} {r k : Nat} {o' : Obj} (h : k ≠ r) : (putO W r o').heap[k]? = W.heap[k]? := by
  show (W.heap.setIfInBounds r o')[k]? = _
  rw [Array.getElem?_setIfInBounds, if_neg (fun e => h e.symm)]
theorem put_below {W : World} {r B : Nat} {o' : Obj} (h : B ≤ r) : Below B W (putO W r o') := ⟨rfl, rfl, rfl, by show W.heap.size ≤ (W.heap.setIfInBounds r o').size; simp, fun k hk => put_other (by omega)⟩
theorem put_bk {W : World} {r g : Nat} {t : TypeId} {cs : Array Value} {o' : Obj} {es : Array MapEntry} {c : Nat} (h : Bk W g t cs) (hm : W.heap[r]? = some (.map es c)) : Bk (putO W r o') g t cs := (put_other (h.ne_map hm)).trans h
set_option maxRecDepth 100000 in
set_option maxHeartbeats 2000000 in
theorem add1 (B M J : Nat) (hBM : B ≤ M) (hBJ : B ≤ J) (w : World) (hM : w.heap[M]? = some (.map #[] 0)) (hJ : Bk w J 86 #[.int .i64 9, .int .i64 1, .int .i64 0, .map (some M)]) :
    Calls Try.prog 14 #[.pointer (some ⟨J, 0, none⟩), .agg #[.int .i64 7, .int .i64 1, .int .i64 2, .string ⟨#[99]⟩]] w fun e w' => e = .returned (.tuple #[.string ⟨#[]⟩, .bool false, .int .i64 0]) ∧ Below B w w' ∧ ∃ T, M < T ∧ w'.heap[T]? = some (.map #[{ key := .int .i64 1, val := .string ⟨#[99]⟩, born := 0 }] 1) ∧ w'.heap[M]? = some (.map #[{ key := .int .i64 7, val := .pointer (some ⟨T + 1, 0, none⟩), born := 0 }] 1) ∧
      Bk w' (T + 1) 92 #[.int .i64 2, .map (some T)] ∧ Bk w' J 86 #[.int .i64 9, .int .i64 1, .int .i64 1, .map (some M)] := by
  have HM := sh (fun W => may_ok 7 1 2 ⟨#[99]⟩ W)
  rw [show decide (MayP 7 1 2 ⟨#[99]⟩) = true from by decide] at HM
  have hmm := @run_makeMap Try.prog
  go_enter Try.func14, Try.ntmps14
  go_wp2_with (go_at_call 34; refine (HM.out _).mono ?_; rintro e' w1 ⟨rfl, hb1⟩)
  have hg1 : Bk w1 J 86 #[.int .i64 9, .int .i64 1, .int .i64 0, .map (some M)] := (hJ.alloc _).below hb1 (by have := hJ.lt; simp; omega)
  have hM1 : w1.heap[M]? = some (.map #[] 0) := by
    have h := bk_lt' hM
    rw [hb1.block M (by simp; omega), Below.heap_alloc w _ M h]; exact hM
  have l1 : (Instr.lookup 84 (.map (some M)) (.int .i64 7) true).run Try.prog w1.drew = .ok (.tuple #[.pointer none, .bool false]) w1.drew := look_int (P := Try.prog) (k := 7) Try.underlying84 Try.underlying3 (zero88 w1.drew) (show w1.drew.heap[M]? = _ from hM1) (res := none) rfl
  have hp : Bk w1 w.heap.size 33 #[.int .i64 7, .int .i64 1, .int .i64 2, .string ⟨#[99]⟩] := (Bk.made w 33 _).below hb1 (by simp)
  have p0 := hp.cell 0
  have p1 := hp.cell 1
  have p2 := hp.cell 2
  have p3 := hp.cell 3
  have c0 := hg1.cell 0
  have c1 := hg1.cell 1
  have c2 := hg1.cell 2
  have c3 := hg1.cell 3
  go_region
  all_goals go_wp2_with fail
  have hsM : M < w1.heap.size := bk_lt' hM1
  obtain ⟨T, hT⟩ : ∃ T, w1.heap.size = T := ⟨_, rfl⟩
  obtain ⟨W2, hW2⟩ : ∃ W2, ((w1.alloc (.map #[] 0)).alloc (.cells #[.int .i64 2, .map (some w1.heap.size)] 92)).drew = W2 := ⟨_, rfl⟩
  have hT2 : W2.heap[T]? = some (.map #[] 0) := by
    rw [← hW2]
    show ((w1.alloc (.map #[] 0)).alloc _).heap[T]? = _
    rw [Below.heap_alloc _ _ _ (by rw [World.size_alloc]; omega), ← hT]
    exact World.alloc_heap_new w1 (.map #[] 0)
  have hB2 : Bk W2 (T + 1) 92 #[.int .i64 2, .map (some T)] := by
    rw [← hW2, ← hT]
    have h := Bk.made (w1.alloc (.map #[] 0)) 92 #[.int .i64 2, .map (some w1.heap.size)]
    rw [World.size_alloc] at h
    exact h.drew
  have hp2 : Bk W2 w.heap.size 33 #[.int .i64 7, .int .i64 1, .int .i64 2, .string ⟨#[99]⟩] := by rw [← hW2]; exact ((hp.alloc _).alloc _).drew
  have hg2 : Bk W2 J 86 #[.int .i64 9, .int .i64 1, .int .i64 0, .map (some M)] := by rw [← hW2]; exact ((hg1.alloc _).alloc _).drew
  have hM2 : W2.heap[M]? = some (.map #[] 0) := by
    rw [← hW2]
    show ((w1.alloc (.map #[] 0)).alloc _).heap[M]? = _
    rw [Below.heap_alloc _ _ _ (by rw [World.size_alloc]; omega), Below.heap_alloc _ _ _ hsM]
    exact hM1
  have hMw := bk_lt' hM
  have hL2 : Below B w W2 := by
    rw [← hW2]
    have s1 := hb1.size
    simp at s1
    exact ((((((Below.refl _ w).alloc (by omega) _).trans (hb1.mono (by simp; omega))).alloc (by omega) _).alloc (by simp; omega) _).drew)
  rw [hW2]
  simp only [hT]
  clear hW2 c0 c1 c2 c3 p0 p1 p2 p3 l1 hM1 hg1
  have l2 : (Instr.lookup 90 (.map (some T)) (.int .i64 1) true).run Try.prog W2.drew = .ok (.tuple #[.string ⟨#[]⟩, .bool false]) W2.drew := look_int (P := Try.prog) (k := 1) Try.underlying90 Try.underlying3 (zero9 W2.drew) (show W2.drew.heap[T]? = _ from hT2) (res := none) rfl
  have p0 := hp2.cell 0
  have p1 := hp2.cell 1
  have p2 := hp2.cell 2
  have p3 := hp2.cell 3
  have c0 := hg2.cell 0
  have c1 := hg2.cell 1
  have c2 := hg2.cell 2
  have c3 := hg2.cell 3
  have d0 := hB2.cell 0
  have d1 := hB2.cell 1
  go_region
  all_goals go_wp2_with fail
  obtain ⟨W3, hW3⟩ : ∃ W3, W2.drew = W3 := ⟨_, rfl⟩
  have hT3 : W3.heap[T]? = some (.map #[] 0) := by rw [← hW3]; exact hT2
  have hM3 : W3.heap[M]? = some (.map #[] 0) := by rw [← hW3]; exact hM2
  have hB3 : Bk W3 (T + 1) 92 #[.int .i64 2, .map (some T)] := by rw [← hW3]; exact hB2.drew
  have hp3 : Bk W3 w.heap.size 33 #[.int .i64 7, .int .i64 1, .int .i64 2, .string ⟨#[99]⟩] := by rw [← hW3]; exact hp2.drew
  have hg3 : Bk W3 J 86 #[.int .i64 9, .int .i64 1, .int .i64 0, .map (some M)] := by rw [← hW3]; exact hg2.drew
  have hL3 : Below B w W3 := by rw [← hW3]; exact hL2.drew
  rw [hW3]
  clear hW3 l2 p0 p1 p2 p3 c0 c1 c2 c3 d0 d1 hT2 hM2 hB2 hp2 hg2
  have p0 := hp3.cell 0
  have p1 := hp3.cell 1
  have p2 := hp3.cell 2
  have p3 := hp3.cell 3
  have c0 := hg3.cell 0
  have c1 := hg3.cell 1
  have c2 := hg3.cell 2
  have c3 := hg3.cell 3
  have d0 := hB3.cell 0
  have d1 := hB3.cell 1
  go_quiet (fail)
  all_goals go_wp2_with fail
  have ln : ∀ k, (Builtin.len_ #[90] 3 #[.map (some T)]).run Try.prog (W3.drewN k) = .ok (.int .i64 0) (W3.drewN k) := fun k => len_map Try.underlying90 (show (W3.drewN k).heap[T]? = _ from hT3)
  have lm : ∀ k, (Builtin.len_ #[84] 3 #[.map (some M)]).run Try.prog (W3.drewN k) = .ok (.int .i64 0) (W3.drewN k) := fun k => len_map Try.underlying84 (show (W3.drewN k).heap[M]? = _ from hM3)
  go_region
  all_goals go_wp2_with fail
  have hL4 : Below B w (W3.drewN (nq + 1)) := below_drewN hL3 _
  have hA4 : ASt w.heap.size J M T #[] 0 #[] 0 0 (W3.drewN (nq + 1)) := ⟨hT3, hM3, hB3, hp3, hg3⟩
  clear ln lm p0 p1 p2 p3 c0 c1 c2 c3 d0 d1 hT3 hM3 hB3 hp3 hg3
  generalize W3.drewN (nq + 1) = W4 at *
  obtain ⟨hT4, hM4, hB4, hp4, hg4⟩ := hA4
  have p0 := hp4.cell 0
  have p1 := hp4.cell 1
  have p2 := hp4.cell 2
  have p3 := hp4.cell 3
  have c0 := hg4.cell 0
  have c1 := hg4.cell 1
  have c2 := hg4.cell 2
  have c3 := hg4.cell 3
  have d0 := hB4.cell 0
  have d1 := hB4.cell 1
  have lm : ∀ k, (Builtin.len_ #[84] 3 #[.map (some M)]).run Try.prog (W4.drewN k) = .ok (.int .i64 0) (W4.drewN k) := fun k => len_map Try.underlying84 (show (W4.drewN k).heap[M]? = _ from hM4)
  have lmd : (Builtin.len_ #[84] 3 #[.map (some M)]).run Try.prog W4.drew = .ok (.int .i64 0) W4.drew := lm 1
  go_quiet (fail)
  all_goals go_wp2_with fail
  have hL5 : Below B w (W4.drewN nq) := below_drewN hL4 _
  have hA5 : ASt w.heap.size J M T #[] 0 #[] 0 0 (W4.drewN nq) := ⟨hT4, hM4, hB4, hp4, hg4⟩
  clear lm lmd p0 p1 p2 p3 c0 c1 c2 c3 d0 d1 hT4 hM4 hB4 hp4 hg4
  generalize W4.drewN nq = W5 at *
  obtain ⟨hT5, hM5, hB5, hp5, hg5⟩ := hA5
  have p0 := hp5.cell 0
  have p1 := hp5.cell 1
  have p2 := hp5.cell 2
  have p3 := hp5.cell 3
  have c0 := hg5.cell 0
  have c1 := hg5.cell 1
  have c2 := hg5.cell 2
  have c3 := hg5.cell 3
  have d0 := hB5.cell 0
  have d1 := hB5.cell 1
  go_quiet (fail)
  all_goals go_wp2_with fail
  have hL6 : Below B w (W5.drewN nq) := below_drewN hL5 _
  have hA6 : ASt w.heap.size J M T #[] 0 #[] 0 0 (W5.drewN nq) := ⟨hT5, hM5, hB5, hp5, hg5⟩
  clear p0 p1 p2 p3 c0 c1 c2 c3 d0 d1 hT5 hM5 hB5 hp5 hg5
  generalize W5.drewN nq = W6 at *
  obtain ⟨hT6, hM6, hB6, hp6, hg6⟩ := hA6
  have p0 := hp6.cell 0
  have p1 := hp6.cell 1
  have p3 := hp6.cell 3
  have c0 := hg6.cell 0
  have c3 := hg6.cell 3
  have d0 := hB6.cell 0
  have d1 := hB6.cell 1
  have hu : (Instr.mapUpdate 90 (.map (some T)) (.int .i64 1) (.string ⟨#[99]⟩)).run Try.prog W6.drew = .ok () (putO W6.drew T (.map #[{ key := .int .i64 1, val := .string ⟨#[99]⟩, born := 0 }] 1)) :=
    upd_int (P := Try.prog) Try.underlying90 Try.underlying3 (show W6.drew.heap[T]? = _ from hT6) rfl
  go_region
  all_goals go_wp2_with fail
  have hTM : M ≠ T := by omega
  have hL7 : Below B w (putO W6.drew T (.map #[{ key := .int .i64 1, val := .string ⟨#[99]⟩, born := 0 }] 1)) := hL6.drew.trans (put_below (by omega))
  have hA7 : ASt w.heap.size J M T #[{ key := .int .i64 1, val := .string ⟨#[99]⟩, born := 0 }] 1 #[] 0 0 (putO W6.drew T (.map #[{ key := .int .i64 1, val := .string ⟨#[99]⟩, born := 0 }] 1)) :=
    ⟨put_same (W := W6.drew) hT6, (put_other (W := W6.drew) hTM).trans hM6, put_bk (W := W6.drew) hB6 hT6, put_bk (W := W6.drew) hp6 hT6, put_bk (W := W6.drew) hg6 hT6⟩
  clear hu p0 p1 p3 c0 c3 d0 d1 hT6 hM6 hB6 hp6 hg6
  generalize putO W6.drew T (.map #[{ key := .int .i64 1, val := .string ⟨#[99]⟩, born := 0 }] 1) = W7 at *
  obtain ⟨hT7, hM7, hB7, hp7, hg7⟩ := hA7
  have p0 := hp7.cell 0
  have c3 := hg7.cell 3
  have hu : (Instr.mapUpdate 84 (.map (some M)) (.int .i64 7) (.pointer (some ⟨T + 1, 0, none⟩))).run Try.prog W7.drew = .ok () (putO W7.drew M (.map #[{ key := .int .i64 7, val := .pointer (some ⟨T + 1, 0, none⟩), born := 0 }] 1)) :=
    upd_int (P := Try.prog) Try.underlying84 Try.underlying3 (show W7.drew.heap[M]? = _ from hM7) rfl
  go_region
  all_goals go_wp2_with fail
  have hL8 : Below B w (putO W7.drew M (.map #[{ key := .int .i64 7, val := .pointer (some ⟨T + 1, 0, none⟩), born := 0 }] 1)) := hL7.drew.trans (put_below hBM)
  have hA8 : ASt w.heap.size J M T #[{ key := .int .i64 1, val := .string ⟨#[99]⟩, born := 0 }] 1 #[{ key := .int .i64 7, val := .pointer (some ⟨T + 1, 0, none⟩), born := 0 }] 1 0 (putO W7.drew M (.map #[{ key := .int .i64 7, val := .pointer (some ⟨T + 1, 0, none⟩), born := 0 }] 1)) :=
    ⟨(put_other (W := W7.drew) hTM.symm).trans hT7, put_same (W := W7.drew) hM7, put_bk (W := W7.drew) hB7 hM7, put_bk (W := W7.drew) hp7 hM7, put_bk (W := W7.drew) hg7 hM7⟩
  clear hu p0 c3 hT7 hM7 hB7 hp7 hg7
  generalize putO W7.drew M (.map #[{ key := .int .i64 7, val := .pointer (some ⟨T + 1, 0, none⟩), born := 0 }] 1) = W8 at *
  obtain ⟨hT8, hM8, hB8, hp8, hg8⟩ := hA8
  have p3 := hp8.cell 3
  have c2 := hg8.cell 2
  have f2 := hg8.free 2
  go_region
  all_goals go_wp2_with fail
  have hmj : J ≠ M := fun e => by subst e; exact absurd (hg8.symm.trans hM8) (by simp)
  have hjt : J ≠ T := fun e => by subst e; exact absurd (hg8.symm.trans hT8) (by simp)
  have hjb : T + 1 ≠ J := hB8.ne hg8 (by decide)
  go_ret3
  refine ⟨rfl, (hL8.setCell (p := ⟨J, 2, none⟩) hBJ _).drew, T, by omega, ?_, ?_, ?_, ?_⟩
  · exact (Below.heap_setCell W8 ⟨J, 2, none⟩ (.int .i64 1) T (fun e => hjt e.symm)).trans hT8
  · exact (Below.heap_setCell W8 ⟨J, 2, none⟩ (.int .i64 1) M (fun e => hmj e.symm)).trans hM8
  · exact (hB8.far (p := ⟨J, 2, none⟩) hjb _).drew
  · exact (hg8.put 2 (.int .i64 1)).drew
end Go.Proofs.Ytoclbcpfiacoaaa
