/- parts.may and the reference's May: contracts. -/
import Derived.Test.YtoclbcpfiacoaaaCut
namespace Go.Proofs.Ytoclbcpfiacoaaa
set_option linter.unusedVariables false
set_option linter.unusedSimpArgs false
open Go.RowKit

/-- may a part be? -/
def MayP (id n of : Int) (t : ByteArray) : Prop := 0 ≤ id ∧ id ≤ 2147483647 ∧ 1 ≤ of ∧ of ≤ 1024 ∧ 0 ≤ n ∧ n ≤ of - 1 ∧ t.size ≤ 65536 ∧ (t.size ≠ 0 ∨ of = 1)
instance (id n of : Int) (t : ByteArray) : Decidable (MayP id n of t) := by unfold MayP; infer_instance
theorem tl_nil {t : ByteArray} (h : t.size = 0) : (t.toList == []) = true := by
  rw [beq_iff_eq, ByteArray.toList_eq]
  exact List.eq_nil_of_length_eq_zero (by have := size_lst t; unfold lst at this; omega)
theorem tl_ne {t : ByteArray} (h : t.size ≠ 0) : (t.toList == []) = false := by
  rw [beq_eq_false_iff_ne, ByteArray.toList_eq]
  intro e
  have h3 := size_lst t
  unfold lst at h3
  rw [e] at h3
  exact h h3
theorem dd_true {a b : Prop} [Decidable a] [Decidable b] (h1 : a) (h2 : b) : (decide a && decide b) = true := by simp [h1, h2]
theorem dd_false {a b : Prop} [Decidable a] [Decidable b] (h : ¬ (a ∧ b)) : (decide a && decide b) = false := by
  by_cases h1 : a <;> by_cases h2 : b <;> simp [h1, h2] <;> exact absurd ⟨h1, h2⟩ h
set_option maxRecDepth 100000 in
set_option maxHeartbeats 2000000 in
theorem may_ok (id n of : Int) (t : ByteArray) (w : World) : Calls Try.prog 34 #[.agg #[.int .i64 id, .int .i64 n, .int .i64 of, .string t]] w fun e w' => e = .returned (.bool (decide (MayP id n of t))) ∧ Below w.heap.size w w' := by
  have H1 := sh (fun W => within_ok id 0 2147483647 W)
  have H2 := sh (fun W => within_ok of 1 1024 W)
  have H3 := sh (fun W => within_ok n 0 (of - 1) W)
  by_cases A : 0 ≤ id ∧ id ≤ 2147483647
  · rw [dd_true A.1 A.2] at H1
    by_cases B : 1 ≤ of ∧ of ≤ 1024
    · rw [dd_true B.1 B.2] at H2
      obtain ⟨b0, b1⟩ := B
      by_cases C : 0 ≤ n ∧ n ≤ of - 1
      · rw [dd_true C.1 C.2] at H3
        by_cases D : t.size ≤ 65536
        · by_cases E : t.size = 0
          · have e1 := tl_nil E
            by_cases F : of = 1
            · have HR : decide (MayP id n of t) = true := decide_eq_true ⟨A.1, A.2, b0, b1, C.1, C.2, D, .inr F⟩
              rw [HR]
              have f1 : (of == 1) = true := by rw [beq_iff_eq]; exact F
              have d1 : (t.size : Int) ≤ 65536 := by omega
              clear A C HR E F
              go_enter Try.func34, Try.ntmps34
              go_wp2_with (first
                | (go_at_call 32; refine (H1.out _).mono ?_; clear H1; rintro e' w1 ⟨rfl, rfl⟩)
                | (go_at_call 32; refine (H2.out _).mono ?_; clear H2; rintro e' w1 ⟨rfl, rfl⟩)
                | (go_at_call 32; refine (H3.out _).mono ?_; clear H3; rintro e' w1 ⟨rfl, rfl⟩))
              go_ret
              exact ⟨rfl, (Below.refl _ w).alloc (Nat.le_refl _) _⟩
            · have HR : decide (MayP id n of t) = false := decide_eq_false (fun h => h.2.2.2.2.2.2.2.elim (fun x => x E) F)
              rw [HR]
              have f1 : (of == 1) = false := by rw [beq_eq_false_iff_ne]; exact F
              have d1 : (t.size : Int) ≤ 65536 := by omega
              clear A C HR E F
              go_enter Try.func34, Try.ntmps34
              go_wp2_with (first
                | (go_at_call 32; refine (H1.out _).mono ?_; clear H1; rintro e' w1 ⟨rfl, rfl⟩)
                | (go_at_call 32; refine (H2.out _).mono ?_; clear H2; rintro e' w1 ⟨rfl, rfl⟩)
                | (go_at_call 32; refine (H3.out _).mono ?_; clear H3; rintro e' w1 ⟨rfl, rfl⟩))
              go_ret
              exact ⟨rfl, (Below.refl _ w).alloc (Nat.le_refl _) _⟩
          · have HR : decide (MayP id n of t) = true := decide_eq_true ⟨A.1, A.2, b0, b1, C.1, C.2, D, .inl E⟩
            rw [HR]
            have e1 := tl_ne E
            have d1 : (t.size : Int) ≤ 65536 := by omega
            clear A C HR E
            go_enter Try.func34, Try.ntmps34
            go_wp2_with (first
              | (go_at_call 32; refine (H1.out _).mono ?_; clear H1; rintro e' w1 ⟨rfl, rfl⟩)
              | (go_at_call 32; refine (H2.out _).mono ?_; clear H2; rintro e' w1 ⟨rfl, rfl⟩)
              | (go_at_call 32; refine (H3.out _).mono ?_; clear H3; rintro e' w1 ⟨rfl, rfl⟩))
            go_ret
            exact ⟨rfl, (Below.refl _ w).alloc (Nat.le_refl _) _⟩
        · have HR : decide (MayP id n of t) = false := decide_eq_false (fun h => D h.2.2.2.2.2.2.1)
          rw [HR]
          have d1 : ¬ (t.size : Int) ≤ 65536 := by omega
          clear A C HR D
          go_enter Try.func34, Try.ntmps34
          go_wp2_with (first
            | (go_at_call 32; refine (H1.out _).mono ?_; clear H1; rintro e' w1 ⟨rfl, rfl⟩)
            | (go_at_call 32; refine (H2.out _).mono ?_; clear H2; rintro e' w1 ⟨rfl, rfl⟩)
            | (go_at_call 32; refine (H3.out _).mono ?_; clear H3; rintro e' w1 ⟨rfl, rfl⟩))
          go_ret
          exact ⟨rfl, (Below.refl _ w).alloc (Nat.le_refl _) _⟩
      · have HR : decide (MayP id n of t) = false := decide_eq_false (fun h => C ⟨h.2.2.2.2.1, h.2.2.2.2.2.1⟩)
        rw [HR]
        rw [dd_false C] at H3
        clear A C HR
        go_enter Try.func34, Try.ntmps34
        go_wp2_with (first
          | (go_at_call 32; refine (H1.out _).mono ?_; clear H1; rintro e' w1 ⟨rfl, rfl⟩)
          | (go_at_call 32; refine (H2.out _).mono ?_; clear H2; rintro e' w1 ⟨rfl, rfl⟩)
          | (go_at_call 32; refine (H3.out _).mono ?_; clear H3; rintro e' w1 ⟨rfl, rfl⟩))
        go_ret
        exact ⟨rfl, (Below.refl _ w).alloc (Nat.le_refl _) _⟩
    · have HR : decide (MayP id n of t) = false := decide_eq_false (fun h => B ⟨h.2.2.1, h.2.2.2.1⟩)
      rw [HR]
      rw [dd_false B] at H2
      clear A B HR H3
      go_enter Try.func34, Try.ntmps34
      go_wp2_with (first
        | (go_at_call 32; refine (H1.out _).mono ?_; clear H1; rintro e' w1 ⟨rfl, rfl⟩)
        | (go_at_call 32; refine (H2.out _).mono ?_; clear H2; rintro e' w1 ⟨rfl, rfl⟩))
      go_ret
      exact ⟨rfl, (Below.refl _ w).alloc (Nat.le_refl _) _⟩
  · have HR : decide (MayP id n of t) = false := decide_eq_false (fun h => A ⟨h.1, h.2.1⟩)
    rw [HR]
    rw [dd_false A] at H1
    clear A HR H2 H3
    go_enter Try.func34, Try.ntmps34
    go_wp2_with (go_at_call 32; refine (H1.out _).mono ?_; clear H1; rintro e' w1 ⟨rfl, rfl⟩)
    go_ret
    exact ⟨rfl, (Below.refl _ w).alloc (Nat.le_refl _) _⟩
end Go.Proofs.Ytoclbcpfiacoaaa
