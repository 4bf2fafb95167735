/- PartsBytes: the plain law: what is put is got again, and what is got is put as it was. -/
import Derived.Test.YtoclbcpfiacoaaaPb4
namespace Go.Proofs.Ytoclbcpfiacoaaa
set_option linter.unusedVariables false
set_option linter.unusedSimpArgs false
open Go.RowKit

theorem nx_inv : ∀ (l : List UInt8) (k n m j : Nat), k ≤ 9 → n < 128 ^ k → nx k n l = (m, j, 0) → ∃ q, m = n + q * 128 ^ k ∧ (k = 0 ∨ 0 < q) ∧ k < j ∧ l.take (j - k) = lebL q
  | [], k, n, m, j, _, _, h => by
    simp only [nx, Prod.mk.injEq] at h
    omega
  | b :: r, k, n, m, j, hk, hn, h => by
    have hb255 := b.toNat_lt
    by_cases c : (k = 9 ∧ 1 < b.toNat) ∨ (b.toNat = 0 ∧ 0 < k)
    · rw [nx_err c] at h
      simp only [Prod.mk.injEq] at h
      omega
    · by_cases d : b.toNat < 128
      · rw [nx_done c d] at h
        simp only [Prod.mk.injEq] at h
        obtain ⟨rfl, rfl, _⟩ := h
        refine ⟨b.toNat, by rw [Nat.mod_eq_of_lt d], by omega, by omega, ?_⟩
        rw [lebL_lo d, show k + 1 - k = 0 + 1 by omega, List.take_succ_cons]
        simp
      · obtain ⟨D, hD, _, hD2⟩ := shl_fact b.toNat k hb255 hk (by omega)
        obtain ⟨_, h1, h2⟩ := hD2 n hn
        rw [hD] at h1 h2
        rw [nx_more c d] at h
        obtain ⟨q, e1, e2, e3, e4⟩ := nx_inv r (k + 1) _ m j (by omega) h1 h
        have hq : 0 < q := by omega
        refine ⟨b.toNat % 128 + 128 * q, ?_, by omega, by omega, ?_⟩
        · rw [e1, Nat.pow_succ, Nat.add_mul]
          have : q * (128 ^ k * 128) = 128 * q * 128 ^ k := by rw [Nat.mul_comm (128 ^ k) 128, ← Nat.mul_assoc, Nat.mul_comm q 128]
          omega
        · rw [lebL_hi (by omega), show j - k = (j - (k + 1)) + 1 by omega, List.take_succ_cons, e4]
          have f1 : (b.toNat % 128 + 128 * q) % 128 + 128 = b.toNat := by omega
          have f2 : (b.toNat % 128 + 128 * q) / 128 = q := by omega
          rw [f1, f2]
          simp
theorem nxt_inv {s : ByteArray} {m j : Nat} (h : nxt s = (m, j, 0)) : lst s = lebL m ++ (lst s).drop j := by
  obtain ⟨q, e1, _, e3, e4⟩ := nx_inv (lst s) 0 0 m j (by omega) (by simp) h
  have hq : m = q := by simpa using e1
  subst hq
  rw [← e4]
  exact (List.take_append_drop j (lst s)).symm
/-- a reader that reads on: its number's bytes stand ahead -/
theorem rest_inv (r : RD) (hr : r.ok) (h : r.lebR.1.f = 0) : r.f = 0 ∧ lst r.rest = lebL r.lebR.2 ++ lst r.lebR.1.rest := by
  have hf : r.f = 0 := by
    by_cases c : r.f = 0
    · exact c
    · rw [lebR_bad c] at h; exact h
  obtain ⟨m, j, e, hn⟩ := nxt_ex r.rest
  rcases step_rest r hr hf hn with ⟨rfl, p2, p3, p4, p5⟩ | ⟨p1, p2, p3, p4⟩
  · refine ⟨hf, ?_⟩
    have h1 := nxt_inv hn
    rw [p4] at p5 ⊢
    rw [← p5]
    have h2 := extract_str (lst r.rest) j r.rest.size
    rw [str_lst] at h2
    rw [h2, lst_str, List.take_of_length_le (by rw [List.length_drop, ← size_lst]; omega)]
    exact h1
  · rw [p4] at h
    exact absurd h p1
theorem rest0 (s : ByteArray) : (Rk s 0).rest = s := by
  rw [← str_lst (Rk s 0).rest, rest_lst]; exact str_lst s
theorem rest_inv' (s : ByteArray) (hs : s.size ≤ 9223372036854775807) (k : Nat) (h : (Rk s (k + 1)).f = 0) : (Rk s k).f = 0 ∧ lst (Rk s k).rest = lebL (Vk s k) ++ lst (Rk s (k + 1)).rest := by
  have h' : (Rk s k).lebR.1.f = 0 := h
  exact rest_inv (Rk s k) (Rk_ok s hs k) h'
theorem got (s : ByteArray) (hs : s.size ≤ 9223372036854775807) (h : (Rk s 3).f = 0) : lst s = putPL (Vk s 0) (Vk s 1) (Vk s 2) (lst (Rk s 3).rest) := by
  obtain ⟨h2, e2⟩ := rest_inv' s hs 2 h
  obtain ⟨h1, e1⟩ := rest_inv' s hs 1 h2
  obtain ⟨h0, e0⟩ := rest_inv' s hs 0 h1
  rw [rest0] at e0
  unfold putPL
  rw [e0, e1, e2]
/-- what is got: the fields, and the error -/
theorem get_law (s : ByteArray) (hs : s.size ≤ 9223372036854775807) : ∃ (x y z : Nat) (T : ByteArray) (g : Int), getV s (Rk s 3) (Vk s 0) (Vk s 1) (Vk s 2) = #[partV x y z T, .int .i64 g] ∧
    (g ≠ 0 ∨ (g = 0 ∧ MayP x y z T ∧ str (putPL x y z (lst T)) = s)) := by
  by_cases hf : (Rk s 3).f = 0
  · obtain ⟨g1, g2, g3⟩ := getV_good s (Vk s 0) (Vk s 1) (Vk s 2) hf
    by_cases hm : MayP (capN (Vk s 0) : Nat) (capN (Vk s 1) : Nat) (capN (Vk s 2) : Nat) (Rk s 3).rest
    · refine ⟨_, _, _, _, 0, g2 hm, .inr ⟨rfl, hm, ?_⟩⟩
      have hno : ¬ (2147483647 < Vk s 0 ∨ 1024 < Vk s 1 ∨ 1024 < Vk s 2) := fun h => may_no h hm
      have hx : capN (Vk s 0) = Vk s 0 := by unfold capN; rw [if_neg (by omega)]
      have hy : capN (Vk s 1) = Vk s 1 := by unfold capN; rw [if_neg (by omega)]
      have hz : capN (Vk s 2) = Vk s 2 := by unfold capN; rw [if_neg (by omega)]
      rw [hx, hy, hz, ← got s hs hf, str_lst]
    · exact ⟨0, 0, 0, ⟨#[]⟩, 3, g3 hm, .inl (by omega)⟩
  · refine ⟨0, 0, 0, ⟨#[]⟩, (Rk s 3).f, ?_, .inl hf⟩
    unfold getV
    rw [if_pos hf]
    rfl
theorem step_leb (s : ByteArray) (hs : s.size ≤ 9223372036854775807) (k m : Nat) (hm : m < u64M) (rest : List UInt8) (hf : (Rk s k).f = 0) (h : lst (Rk s k).rest = lebL m ++ rest) : Vk s k = m ∧ (Rk s (k + 1)).f = 0 ∧ lst (Rk s (k + 1)).rest = rest := by
  have hn : nxt (Rk s k).rest = (m, (lebL m).length, 0) := by
    have := nxt_leb m hm rest
    rwa [← h, str_lst] at this
  rcases step_rest (Rk s k) (Rk_ok s hs k) hf hn with ⟨_, p2, p3, p4, p5⟩ | ⟨p1, _⟩
  · refine ⟨congrArg Prod.snd p4, ?_, ?_⟩
    · show (Rk s k).lebR.1.f = 0
      rw [p4]; exact hf
    · show lst (Rk s k).lebR.1.rest = rest
      rw [← p5]
      have h2 := extract_str (lst (Rk s k).rest) (lebL m).length (Rk s k).rest.size
      rw [str_lst] at h2
      rw [h2, lst_str, List.take_of_length_le (by rw [List.length_drop, ← size_lst]; omega), h, List.drop_left]
  · exact absurd rfl p1
/-- what is put is got -/
theorem put_law (a b c : Nat) (t : ByteArray) (h : MayP a b c t) (hs : (str (putPL a b c (lst t))).size ≤ 9223372036854775807) :
    getV (str (putPL a b c (lst t))) (Rk (str (putPL a b c (lst t))) 3) (Vk (str (putPL a b c (lst t))) 0) (Vk (str (putPL a b c (lst t))) 1) (Vk (str (putPL a b c (lst t))) 2) = #[partV a b c t, .int .i64 0] := by
  obtain ⟨h1, h2, h3, h4, h5, h6, h7, h8⟩ := id h
  obtain ⟨v0, f1, r1⟩ := step_leb _ hs 0 a (by unfold u64M; omega) (lebL b ++ (lebL c ++ lst t)) rfl (by rw [rest0, lst_str]; rfl)
  obtain ⟨v1, f2, r2⟩ := step_leb _ hs 1 b (by unfold u64M; omega) _ f1 r1
  obtain ⟨v2, f3, r3⟩ := step_leb _ hs 2 c (by unfold u64M; omega) _ f2 r2
  have hT : (Rk (str (putPL a b c (lst t))) 3).rest = t := by rw [← str_lst (Rk (str (putPL a b c (lst t))) 3).rest, r3, str_lst]
  obtain ⟨g1, g2, g3⟩ := getV_good (str (putPL a b c (lst t))) a b c f3
  have hx : capN a = a := by unfold capN; rw [if_neg (by omega)]
  have hy : capN b = b := by unfold capN; rw [if_neg (by omega)]
  have hz : capN c = c := by unfold capN; rw [if_neg (by omega)]
  rw [hx, hy, hz, hT] at g2
  rw [v0, v1, v2]
  exact g2 h
theorem putPL_size (a b c : Nat) (t : ByteArray) (h : MayP a b c t) : (str (putPL a b c (lst t))).size ≤ 65600 := by
  obtain ⟨h1, h2, h3, h4, h5, h6, h7, h8⟩ := h
  rw [size_str]
  unfold putPL
  simp only [List.length_append]
  have e1 := leb_len10 (n := a) (by unfold u64M; omega)
  have e2 := leb_len10 (n := b) (by unfold u64M; omega)
  have e3 := leb_len10 (n := c) (by unfold u64M; omega)
  rw [← size_lst]
  omega
set_option maxHeartbeats 1000000 in
set_option maxRecDepth 100000 in
theorem parts_put_bad (a b c : Int) (t : ByteArray) (h : ¬ MayP a b c t) (w : World) : Calls Try.prog 27 #[.agg #[.int .i64 a, .int .i64 b, .int .i64 c, .string t]] w fun e w' => e = .returned (.tuple #[.string ⟨#[]⟩, .int .i64 1]) ∧ Below w.heap.size w w' := by
  have HM := sh (fun W => may_ok a b c t W)
  rw [decide_eq_false h] at HM
  clear h
  go_enter Try.func27, Try.ntmps27
  go_wp2_with (go_at_call 34; refine (HM.out _).mono ?_; clear HM; rintro e' w1 ⟨rfl, hb1⟩)
  go_ret2
  exact ⟨rfl, ((Below.refl _ w).alloc (Nat.le_refl _) _).trans (hb1.mono (by simp))⟩
end Go.Proofs.Ytoclbcpfiacoaaa
