/- PartsBytes: the small functions: May of the reference, Put of the program and of the reference, Of. -/
import Derived.Test.YtoclbcpfiacoaaaCutsLaw
import Derived.Test.YtoclbcpfiacoaaaMay
import Derived.Test.YtoclbcpfiacoaaaPlain
namespace Go.Proofs.Ytoclbcpfiacoaaa
set_option linter.unusedVariables false
set_option linter.unusedSimpArgs false
open Go.RowKit

theorem empty_of {t : ByteArray} (h : t.size = 0) : t = ⟨#[]⟩ := by
  have hl : lst t = [] := List.eq_nil_of_length_eq_zero (by rw [← size_lst]; exact h)
  rw [← str_lst t, hl]; rfl
set_option maxRecDepth 100000 in
set_option maxHeartbeats 2000000 in
theorem rmay (id n of : Int) (t : ByteArray) (w : World) : Calls Try.prog 28 #[.agg #[.int .i64 id, .int .i64 n, .int .i64 of, .string t]] w fun e w' => e = .returned (.bool (decide (MayP id n of t))) ∧ Below w.heap.size w w' := by
  by_cases hz : t.size = 0
  all_goals by_cases o : of = 1
  all_goals first
    | (have f1 : (of == 1) = true := by rw [beq_iff_eq]; exact o)
    | (have f1 : (of == 1) = false := by rw [beq_eq_false_iff_ne]; exact o)
  all_goals have O := sh o
  all_goals clear o
  all_goals first
    | (obtain rfl := empty_of hz
       clear hz)
    | (have hz' : 0 < (t.size : Int) := by omega
       clear hz)
  all_goals go_enter Try.func28, Try.ntmps28
  all_goals go_wp2
  all_goals
    go_ret
    refine ⟨ret_bool ?_, (Below.refl _ w).alloc (Nat.le_refl _) _⟩
    have o := O.out
    have z0 : (⟨#[]⟩ : ByteArray).size = 0 := rfl
    first
      | (symm; apply decide_eq_true; refine ⟨?_, ?_, ?_, ?_, ?_, ?_, ?_, ?_⟩ <;> omega)
      | (symm; apply decide_eq_false; rintro ⟨m1, m2, m3, m4, m5, m6, m7, m8⟩; omega)
      | (exfalso; rename_i he; subst he; simp at hz')
def putPL (a b c : Nat) (t : List UInt8) : List UInt8 := lebL a ++ (lebL b ++ (lebL c ++ t))
/-- a part's cells -/
def ptC (a b c : Int) (t : ByteArray) : Array Value := #[.int .i64 a, .int .i64 b, .int .i64 c, .string t]
set_option maxHeartbeats 1000000 in
theorem of_part (a b c : Int) (t : ByteArray) (w : World) : Calls Try.prog 19 #[.agg #[.int .i64 a, .int .i64 b, .int .i64 c, .string t]] w fun e w' => e = .returned (.agg #[.int .i64 a, .int .i64 b, .int .i64 c, .string t]) ∧ Below w.heap.size w w' := by
  go_enter Try.func19, Try.ntmps19
  go_wp2
  refine bodyPost_ret (v := .agg #[.int .i64 a, .int .i64 b, .int .i64 c, .string t]) ?_ rfl ⟨rfl, ((Below.refl _ w).alloc (Nat.le_refl _) _).alloc (by simp) _⟩
  simp [results, Try.results19, go_sem]
/-- what is written when k numbers are -/
def putK (a b c : Nat) (k : Nat) : List UInt8 := if k = 0 then [] else if k = 1 then lebL a else if k = 2 then lebL a ++ lebL b else lebL a ++ lebL b ++ lebL c
theorem putK_put (a b c : Nat) (t : ByteArray) : str (putK a b c 3) ++ t = str (putPL a b c (lst t)) := by
  have h : str (putK a b c 3) ++ str (lst t) = str (putPL a b c (lst t)) := by rw [str_append]; simp [putK, putPL]
  rwa [str_lst] at h
theorem putK_len {a b c : Nat} (ha : a < u64M) (hb : b < u64M) (hc : c < u64M) (k : Nat) : (putK a b c k).length ≤ 30 := by
  have := leb_len10 ha
  have := leb_len10 hb
  have := leb_len10 hc
  unfold putK
  split
  · simp
  · split
    · omega
    · split <;> simp only [List.length_append] <;> omega
set_option maxRecDepth 100000 in
set_option maxHeartbeats 2000000 in
theorem parts_put (a b c : Nat) (t : ByteArray) (h : MayP a b c t) (w : World) : Calls Try.prog 27 #[.agg #[.int .i64 (a : Int), .int .i64 (b : Int), .int .i64 (c : Int), .string t]] w fun e w' => e = .returned (.tuple #[.string (str (putPL a b c (lst t))), .int .i64 0]) ∧ Below w.heap.size w w' := by
  have HM := sh (fun W => may_ok a b c t W)
  rw [decide_eq_true h] at HM
  obtain ⟨h1, h2, h3, h4, h5, h6, h7, h8⟩ := h
  have ha : a < u64M := by unfold u64M; omega
  have hb : b < u64M := by unfold u64M; omega
  have hc : c < u64M := by unfold u64M; omega
  have HA := sh (fun W => leb_put a ha W)
  have HB := sh (fun W => leb_put b hb W)
  have HC := sh (fun W => leb_put c hc W)
  have wa : IntKind.u64.wrap (a : Int) = (a : Int) := wrap_u64 (by omega) (by unfold u64M; omega)
  have wb : IntKind.u64.wrap (b : Int) = (b : Int) := wrap_u64 (by omega) (by unfold u64M; omega)
  have wc : IntKind.u64.wrap (c : Int) = (c : Int) := wrap_u64 (by omega) (by unfold u64M; omega)
  have z0 := putK_len ha hb hc 0
  have z1 := putK_len ha hb hc 1
  have z2 := putK_len ha hb hc 2
  have z3 := putK_len ha hb hc 3
  have la : (str (lebL a)).size ≤ 10 := by rw [size_str]; exact leb_len10 ha
  have lb : (str (lebL b)).size ≤ 10 := by rw [size_str]; exact leb_len10 hb
  have lc : (str (lebL c)).size ≤ 10 := by rw [size_str]; exact leb_len10 hc
  clear h8 ha hb hc
  go_enter Try.func27, Try.ntmps27
  go_wp2_with (go_at_call 34; refine (HM.out _).mono ?_; clear HM; rintro e' w1 ⟨rfl, hb1⟩; have hP1 : Bk w1 w.heap.size 33 #[.int .i64 (a : Int), .int .i64 (b : Int), .int .i64 (c : Int), .string t] := (Bk.made w 33 _).below hb1 (by simp); have p0 := hP1.cell 0; have p1 := hP1.cell 1; have p2 := hP1.cell 2)
  have hL1 : Below w.heap.size w w1 := ((Below.refl _ w).alloc (Nat.le_refl _) _).trans (hb1.mono (by simp))
  have hS1 := hb1.size
  simp at hS1
  clear hb1 p0 p1 p2
  go_loopw [4, 18] (fun v4 v18 wr => ∃ k : Nat, k ≤ 3 ∧ v18 = .int .i64 (k : Int) ∧ v4 = .string (str (putK a b c k)) ∧ Bk wr w1.heap.size 3 #[.int .i64 (a : Int), .int .i64 (b : Int), .int .i64 (c : Int)] ∧ Bk wr w.heap.size 33 #[.int .i64 (a : Int), .int .i64 (b : Int), .int .i64 (c : Int), .string t] ∧ Below w.heap.size w wr) (fun _ v18 _ => 3 - (intOf v18).toNat)
  case atStart => exact ⟨0, by omega, rfl, rfl, Bk.made _ _ _, hP1.alloc _, hL1.alloc (by omega) _⟩
  case round =>
    obtain ⟨k, hk, rfl, rfl, hS, hP, hL⟩ := hrel
    have s0 := hS.cell 0
    have s1 := hS.cell 1
    have s2 := hS.cell 2
    have p3 := hP.cell 3
    have hwl := hL.size
    rcases (show k = 0 ∨ k = 1 ∨ k = 2 ∨ k = 3 by omega) with rfl | rfl | rfl | rfl
    · have z0' : (str (putK a b c 0)).size ≤ 30 := by rw [size_str]; exact z0
      have E := sh (show str (putK a b c 0) ++ str (lebL a) = str (putK a b c 1) by rw [str_append]; simp [putK])
      generalize str (putK a b c 0) = A0 at *
      go_wp2_with (go_at_call 39; refine (HA.out _).mono ?_; clear HA; rintro e' w2 ⟨rfl, hb2⟩)
      go_roundw
      case rel => exact ⟨1, by omega, by go_num, by rw [E.out], hS.below hb2 hS.lt, hP.below hb2 hP.lt, hL.trans (hb2.mono hL.size)⟩
      case measure => simp [intOf]
    · have z0' : (str (putK a b c 1)).size ≤ 30 := by rw [size_str]; exact z1
      have E := sh (show str (putK a b c 1) ++ str (lebL b) = str (putK a b c 2) by rw [str_append]; simp [putK])
      generalize str (putK a b c 1) = A0 at *
      go_wp2_with (go_at_call 39; refine (HB.out _).mono ?_; clear HB; rintro e' w2 ⟨rfl, hb2⟩)
      go_roundw
      case rel => exact ⟨2, by omega, by go_num, by rw [E.out], hS.below hb2 hS.lt, hP.below hb2 hP.lt, hL.trans (hb2.mono hL.size)⟩
      case measure => simp [intOf]
    · have z0' : (str (putK a b c 2)).size ≤ 30 := by rw [size_str]; exact z2
      have E := sh (show str (putK a b c 2) ++ str (lebL c) = str (putK a b c 3) by rw [str_append]; simp [putK])
      generalize str (putK a b c 2) = A0 at *
      go_wp2_with (go_at_call 39; refine (HC.out _).mono ?_; clear HC; rintro e' w2 ⟨rfl, hb2⟩)
      go_roundw
      case rel => exact ⟨3, by omega, by go_num, by rw [E.out], hS.below hb2 hS.lt, hP.below hb2 hP.lt, hL.trans (hb2.mono hL.size)⟩
      case measure => simp [intOf]
    · have z0' : (str (putK a b c 3)).size ≤ 30 := by rw [size_str]; exact z3
      have E := sh (putK_put a b c t)
      generalize str (putK a b c 3) = A0 at *
      go_wp2_with fail
      go_ret2
      exact ⟨ret_si E.out, hL⟩
end Go.Proofs.Ytoclbcpfiacoaaa
