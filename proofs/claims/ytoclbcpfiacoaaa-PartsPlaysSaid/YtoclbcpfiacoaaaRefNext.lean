/- The reference's Next (layer 3): contract over the loaded program. -/
import Derived.Test.YtoclbcpfiacoaaaNext
namespace Go.Proofs.Ytoclbcpfiacoaaa
set_option linter.unusedVariables false
set_option linter.unusedSimpArgs false
open Go.RowKit

theorem str_at {s : ByteArray} {k : Nat} {b : UInt8} (h : (lst s)[k]? = some b) : ∀ hk : k < s.size, s[k]'hk = b := by
  intro hk
  have := (List.getElem?_eq_some_iff.1 h).2
  rw [← this]
  simp [lst, ByteArray.getElem_eq_getElem_data]
theorem mul_fact (b k : Nat) (hb : b < 256) (hk : k ≤ 9) (h9 : k = 9 → b ≤ 1) : ∃ D B : Nat, D = b % 128 * 128 ^ k ∧ B = 128 ^ k ∧ IntKind.u64.wrap ((b : Int) % 128 * (B : Int)) = (D : Int) ∧
    (∀ n : Nat, n < 128 ^ k → IntKind.u64.wrap ((n : Int) + (D : Int)) = (n : Int) + (D : Int)) ∧ (∀ n : Nat, n < 128 ^ k → n + D < 128 ^ (k + 1)) ∧ (k ≤ 8 → IntKind.u64.wrap ((B : Int) * 128) = ((128 ^ (k + 1) : Nat) : Int)) := by
  obtain ⟨D, hD, _, h2⟩ := shl_fact b k hb hk h9
  refine ⟨D, 128 ^ k, hD, rfl, ?_, fun n hn => ?_, fun n hn => (h2 n hn).2.1, fun h8 => ?_⟩
  · have e : ((b : Int) % 128 * ((128 ^ k : Nat) : Int)) = (D : Int) := by rw [hD]; simp
    rw [e]
    have h1 := (h2 0 (Nat.pow_pos (by decide))).2.2
    exact wrap_u64 (by omega) (by omega)
  · have h1 := (h2 n hn).2.2
    exact wrap_u64 (by omega) (by omega)
  · have e : (((128 ^ k : Nat) : Int) * 128) = ((128 ^ (k + 1) : Nat) : Int) := by rw [Nat.pow_succ]; simp
    rw [e]
    have h1 : (128 : Nat) ^ (k + 1) ≤ 128 ^ 9 := Nat.pow_le_pow_right (by decide) (by omega)
    have h3 : (128 : Nat) ^ 9 = 9223372036854775808 := by decide
    generalize 128 ^ (k + 1) = X at h1 ⊢
    exact wrap_u64 (by omega) (by unfold u64M; omega)

set_option maxHeartbeats 1000000 in
set_option maxRecDepth 100000 in
theorem ref_next (s : ByteArray) (hs : s.size ≤ maxLen) (w : World) : Calls Try.prog 47 #[.string s] w fun e w' => e = .returned (nxV (nxt s)) ∧ w = w' := by
  unfold maxLen at hs
  have hlen := size_lst s
  have HL := hide hlen
  clear hlen
  go_enter Try.func47, Try.ntmps47
  go_wp2
  go_loop [5, 6, 7] (fun v5 v6 v7 => ∃ (n k B : Nat), k ≤ s.size ∧ k ≤ 9 ∧ n < 128 ^ k ∧ Hid (B = 128 ^ k) ∧ Hid (nxt s = nx k n ((lst s).drop k)) ∧ v5 = .int .u64 (n : Int) ∧ v6 = .int .u64 (B : Int) ∧ v7 = .int .i64 (k : Int)) (fun _ _ v7 => s.size - (intOf v7).toNat)
  case atStart => exact ⟨0, 0, 1, by omega, by omega, by simp, rfl, rfl, rfl, rfl, rfl⟩
  case round =>
    obtain ⟨n, k, B, hk, hk9, hn, HB, HX, rfl, rfl, rfl⟩ := hrel
    have HN := hide hn
    clear hn
    by_cases hlt : k < s.size
    · obtain ⟨b, hbk⟩ : ∃ b, (lst s)[k]? = some b := ⟨_, List.getElem?_eq_getElem (by rw [← HL.out]; exact hlt)⟩
      have hsb := str_at hbk
      have hb255 := b.toNat_lt
      have HX2 : Hid (nxt s = nx k n (b :: (lst s).drop (k + 1))) := by rw [← drop_cons hbk]; exact HX
      clear HX hbk
      by_cases c1 : k = 9 ∧ 1 < b.toNat
      · have HR : Hid (nxt s = (0, 0, 3)) := HX2.out.trans (nx_err (.inl c1))
        have k9 : ((k : Int) == 9) = true := by rw [beq_iff_eq]; omega
        have b1 : (1 : Int) < (b.toNat : Int) := by omega
        clear c1
        go_wp2
        go_ret3
        exact ⟨ret_nx HR rfl rfl rfl, rfl⟩
      · by_cases c2 : b.toNat = 0 ∧ 0 < k
        · have HR : Hid (nxt s = (0, 0, 3)) := HX2.out.trans (nx_err (.inr c2))
          have b1 : ¬ (1 : Int) < (b.toNat : Int) := by omega
          have b0 : ((b.toNat : Int) == 0) = true := by rw [beq_iff_eq]; omega
          have k0 : (0 : Int) < (k : Int) := by omega
          clear c1 c2
          obtain ⟨q, k9⟩ : ∃ q, ((k : Int) == 9) = q := ⟨_, rfl⟩
          cases q
          all_goals
            go_wp2
            go_ret3
            exact ⟨ret_nx HR rfl rfl rfl, rfl⟩
        · have hno : ¬ ((k = 9 ∧ 1 < b.toNat) ∨ (b.toNat = 0 ∧ 0 < k)) := fun h => h.elim c1 c2
          obtain ⟨D, B', hD, hB', hmul, hsum, hlt2, hby⟩ := mul_fact b.toNat k hb255 hk9 (by omega)
          obtain rfl : B = B' := HB.out.trans hB'.symm
          have hsm := hsum n HN.out
          have HL2 := hide (hlt2 n HN.out)
          have HD := hide hD
          clear hsum hlt2 hD hB'
          by_cases d : b.toNat < 128
          · have HR : Hid (nxt s = (n + D, k + 1, 0)) := HX2.out.trans (by rw [nx_done hno d, HD.out])
            have b2 : (b.toNat : Int) < 128 := by omega
            clear hby
            by_cases e0 : b.toNat = 0
            · have k0 : ¬ (0 : Int) < (k : Int) := by omega
              have b0 : ((b.toNat : Int) == 0) = true := by rw [beq_iff_eq]; omega
              have k9 : ((k : Int) == 9) = false := by rw [beq_eq_false_iff_ne]; omega
              clear c1 c2 hno d e0
              go_wp2
              go_ret3
              exact ⟨ret_nx HR (by omega) (by omega) rfl, rfl⟩
            · have b0 : ((b.toNat : Int) == 0) = false := by rw [beq_eq_false_iff_ne]; omega
              by_cases e9 : k = 9
              · have k9 : ((k : Int) == 9) = true := by rw [beq_iff_eq]; omega
                have b1 : ¬ (1 : Int) < (b.toNat : Int) := by omega
                have k0 : (0 : Int) < (k : Int) := by omega
                clear c1 c2 hno d e0 e9
                go_wp2
                go_ret3
                exact ⟨ret_nx HR (by omega) (by omega) rfl, rfl⟩
              · have k9 : ((k : Int) == 9) = false := by rw [beq_eq_false_iff_ne]; omega
                clear c1 c2 hno d e0 e9
                by_cases k0 : (0 : Int) < (k : Int)
                all_goals
                  go_wp2
                  go_ret3
                  exact ⟨ret_nx HR (by omega) (by omega) rfl, rfl⟩
          · have HR : Hid (nxt s = nx (k + 1) (n + D) ((lst s).drop (k + 1))) := HX2.out.trans (by rw [nx_more hno d, HD.out])
            have b2 : ¬ (b.toNat : Int) < 128 := by omega
            have b0 : ((b.toNat : Int) == 0) = false := by rw [beq_eq_false_iff_ne]; omega
            have hk8 : k ≤ 8 := by omega
            have k9 : ((k : Int) == 9) = false := by rw [beq_eq_false_iff_ne]; omega
            obtain ⟨B2, hB2⟩ : ∃ B2 : Nat, 128 ^ (k + 1) = B2 := ⟨_, rfl⟩
            have hby2 := hby hk8
            rw [hB2] at hby2
            have HB2 := hide hB2
            clear c1 c2 hno d hby hB2
            by_cases k0 : (0 : Int) < (k : Int)
            all_goals
              go_wp2
              go_round
              case rel => exact ⟨n + D, k + 1, B2, by omega, by omega, HL2.out, HB2.out.symm, HR, by go_num, rfl, by go_num⟩
              case measure => simp [intOf]; omega
    · go_wp2
      go_ret3
      have HR : Hid (nxt s = (0, 0, 2)) := HX.out.trans (by rw [List.drop_eq_nil_of_le (by rw [← HL.out]; omega)]; rfl)
      exact ⟨ret_nx HR rfl rfl rfl, rfl⟩
end Go.Proofs.Ytoclbcpfiacoaaa
