/- leb.Size, leb.Next and the reference's Next: contracts over the loaded program. -/
import Derived.Test.YtoclbcpfiacoaaaLeb
import Derived.Laws.BitsAllLaws
namespace Go.Proofs.Ytoclbcpfiacoaaa
set_option linter.unusedVariables false
set_option linter.unusedSimpArgs false
open Go.RowKit

set_option maxHeartbeats 400000 in
set_option maxRecDepth 100000 in
theorem leb_size (n : Nat) (hn : n < u64M) (w : World) : Calls Try.prog 38 #[.int .u64 (n : Int)] w fun e w' => e = .returned (.int .i64 ((lebL n).length : Int)) ∧ w = w' := by
  have hl := leb_len10 hn
  go_enter Try.func38, Try.ntmps38
  go_wp2
  go_loop [0, 3] (fun v0 v3 => ∃ (m k : Nat), v0 = .int .u64 (m : Int) ∧ m < u64M ∧ k ≤ 10 ∧ Hid (k + (lebL m).length = (lebL n).length + 1) ∧ v3 = .int .i64 (k : Int)) (fun v0 _ => (intOf v0).toNat)
  case atStart => exact ⟨n, 1, rfl, hn, by omega, by show _ = _; omega, rfl⟩
  case round =>
    obtain ⟨m, k, rfl, hm, hk, HA, rfl⟩ := hrel
    have HM := hide hm
    clear hm hn
    by_cases c : m < 128
    · go_wp2
      go_ret
      refine ⟨ret_int ?_, rfl⟩
      have := HA.out
      rw [lebL_lo c] at this
      simp at this
      omega
    · have c' : (128 : Int) ≤ (m : Int) := by omega
      have hw : IntKind.u64.wrap ((m : Int) / 128) = (m : Int) / 128 := wrap_u64 (by omega) (by have := HM.out; omega)
      have hp := leb_len_pos (m / 128)
      have hk2 : k + 1 ≤ 10 := by
        have := HA.out
        rw [lebL_hi c, List.length_cons] at this
        omega
      go_wp2
      go_round
      case rel => exact ⟨m / 128, k + 1, by go_num, Nat.lt_of_le_of_lt (Nat.div_le_self _ _) HM.out, hk2, by have := HA.out; rw [lebL_hi c, List.length_cons] at this; show _ = _; omega, by go_num⟩
      case measure => simp [intOf]; omega

/-- the number that bytes begin with, how many bytes it has, or an error -/
def nx : Nat → Nat → List UInt8 → Nat × Nat × Int
  | _, _, [] => (0, 0, 2)
  | i, n, b :: r =>
    if (i = 9 ∧ 1 < b.toNat) ∨ (b.toNat = 0 ∧ 0 < i) then (0, 0, 3)
    else if b.toNat < 128 then (n + b.toNat % 128 * 128 ^ i, i + 1, 0)
    else nx (i + 1) (n + b.toNat % 128 * 128 ^ i) r
def nxt (s : ByteArray) : Nat × Nat × Int := nx 0 0 (lst s)
def nxV (r : Nat × Nat × Int) : Value := .tuple #[.int .u64 (r.1 : Int), .int .i64 (r.2.1 : Int), .int .i64 r.2.2]

theorem shl_fact (b k : Nat) (hb : b < 256) (hk : k ≤ 9) (h9 : k = 9 → b ≤ 1) : ∃ D : Nat, D = b % 128 * 128 ^ k ∧ IntKind.u64.wrap ((b : Int) % 128 * 2 ^ (7 * k)) = (D : Int) ∧
    ∀ n : Nat, n < 128 ^ k → bits .or .u64 (n : Int) (D : Int) = (n : Int) + (D : Int) ∧ n + D < 128 ^ (k + 1) ∧ n + D < u64M := by
  have hp : (2 : Nat) ^ (7 * k) = 128 ^ k := by rw [Nat.pow_mul]
  have hpi : (2 : Int) ^ (7 * k) = ((128 ^ k : Nat) : Int) := by rw [← hp]; simp
  have hlt : ∀ n : Nat, n < 128 ^ k → n + b % 128 * 128 ^ k < 128 ^ (k + 1) := by
    intro n hn
    have h1 : b % 128 ≤ 127 := by omega
    have h2 : b % 128 * 128 ^ k ≤ 127 * 128 ^ k := Nat.mul_le_mul_right _ h1
    rw [Nat.pow_succ]
    omega
  have hM : ∀ n : Nat, n < 128 ^ k → n + b % 128 * 128 ^ k < u64M := by
    intro n hn
    by_cases e : k = 9
    · subst e
      have h1 := h9 rfl
      have h2 : b % 128 * 128 ^ 9 ≤ 1 * 128 ^ 9 := Nat.mul_le_mul_right _ (by omega)
      have h3 : (128 : Nat) ^ 9 = 9223372036854775808 := by decide
      unfold u64M
      omega
    · have h1 := hlt n hn
      have h2 : (128 : Nat) ^ (k + 1) ≤ 128 ^ 9 := Nat.pow_le_pow_right (by decide) (by omega)
      have h3 : (128 : Nat) ^ 9 = 9223372036854775808 := by decide
      unfold u64M
      omega
  refine ⟨b % 128 * 128 ^ k, rfl, ?_, fun n hn => ⟨?_, hlt n hn, hM n hn⟩⟩
  · rw [hpi]
    have e : ((b : Int) % 128 * ((128 ^ k : Nat) : Int)) = ((b % 128 * 128 ^ k : Nat) : Int) := by simp
    rw [e]
    have h1 := hM 0 (Nat.pow_pos (by decide))
    exact wrap_u64 (by omega) (by omega)
  · have h1 := hM n hn
    unfold u64M at h1
    rw [u64_or_nat n _ (by omega) (by omega)]
    have h2 : n ||| (b % 128 * 128 ^ k) = n + b % 128 * 128 ^ k := by
      rw [Nat.or_comm, Nat.mul_comm, ← hp, ← Nat.two_pow_add_eq_or_of_lt (by rw [hp]; exact hn)]
      omega
    rw [h2]
    omega
theorem nx_err {k n : Nat} {b : UInt8} {r : List UInt8} (h : (k = 9 ∧ 1 < b.toNat) ∨ (b.toNat = 0 ∧ 0 < k)) : nx k n (b :: r) = (0, 0, 3) := by rw [nx, if_pos h]
theorem nx_done {k n : Nat} {b : UInt8} {r : List UInt8} (h : ¬ ((k = 9 ∧ 1 < b.toNat) ∨ (b.toNat = 0 ∧ 0 < k))) (h2 : b.toNat < 128) : nx k n (b :: r) = (n + b.toNat % 128 * 128 ^ k, k + 1, 0) := by rw [nx, if_neg h, if_pos h2]
theorem nx_more {k n : Nat} {b : UInt8} {r : List UInt8} (h : ¬ ((k = 9 ∧ 1 < b.toNat) ∨ (b.toNat = 0 ∧ 0 < k))) (h2 : ¬ b.toNat < 128) : nx k n (b :: r) = nx (k + 1) (n + b.toNat % 128 * 128 ^ k) r := by rw [nx, if_neg h, if_neg h2]
theorem drop_cons {l : List UInt8} {k : Nat} {b : UInt8} (h : l[k]? = some b) : l.drop k = b :: l.drop (k + 1) := by
  obtain ⟨hl, rfl⟩ := List.getElem?_eq_some_iff.1 h
  exact List.drop_eq_getElem_cons hl
theorem ret_nx {s : ByteArray} {n k : Nat} {e : Int} {x y z : Int} (h : Hid (nxt s = (n, k, e))) (hx : x = n) (hy : y = k) (hz : z = e) : Ending.returned (.tuple #[.int .u64 x, .int .i64 y, .int .i64 z]) = .returned (nxV (nxt s)) := by
  rw [h.out, hx, hy, hz]; rfl

set_option maxHeartbeats 1000000 in
set_option maxRecDepth 100000 in
theorem leb_next (s : ByteArray) (hs : s.size ≤ maxLen) (w : World) : Calls Try.prog 54 #[.string s] w fun e w' => e = .returned (nxV (nxt s)) ∧ Below w.heap.size w w' := by
  unfold maxLen at hs
  obtain ⟨cap, w1, hcv, hsz, hb, hcell, hcap, -⟩ := conv_bytes (P := Try.prog) Try.underlying9 Try.underlying67 Try.underlying5 w s
  have hlen := size_lst s
  have HL := hide hlen
  clear hlen hsz
  go_enter Try.func54, Try.ntmps54
  go_wp2
  go_loop [5, 12] (fun v5 v12 => ∃ (n k : Nat), k ≤ s.size ∧ k ≤ 9 ∧ n < 128 ^ k ∧ Hid (nxt s = nx k n ((lst s).drop k)) ∧ v5 = .int .u64 (n : Int) ∧ v12 = .int .i64 (k : Int)) (fun _ v12 => s.size - (intOf v12).toNat)
  case atStart => exact ⟨0, 0, by omega, by omega, by simp, rfl, rfl, rfl⟩
  case round =>
    obtain ⟨n, k, hk, hk9, hn, HX, rfl, rfl⟩ := hrel
    have HN := hide hn
    clear hn
    by_cases hlt : k < s.size
    · obtain ⟨b, hbk⟩ : ∃ b, (lst s)[k]? = some b := ⟨_, List.getElem?_eq_getElem (by rw [← HL.out]; exact hlt)⟩
      have hc := hcell k b hbk
      have hb255 := b.toNat_lt
      have HX2 : Hid (nxt s = nx k n (b :: (lst s).drop (k + 1))) := by rw [← drop_cons hbk]; exact HX
      clear HX hbk hcell
      by_cases c1 : k = 9 ∧ 1 < b.toNat
      · have HR : Hid (nxt s = (0, 0, 3)) := HX2.out.trans (nx_err (.inl c1))
        have k9 : ((k : Int) == 9) = true := by rw [beq_iff_eq]; omega
        have b1 : (1 : Int) < (b.toNat : Int) := by omega
        clear c1
        go_wp2
        go_ret3
        exact ⟨ret_nx HR rfl rfl rfl, hb⟩
      · by_cases c2 : b.toNat = 0 ∧ 0 < k
        · have HR : Hid (nxt s = (0, 0, 3)) := HX2.out.trans (nx_err (.inr c2))
          have b1 : ¬ (1 : Int) < (b.toNat : Int) := by omega
          have b0 : ((b.toNat : Int) == 0) = true := by rw [beq_iff_eq]; omega
          have k0 : (0 : Int) < (k : Int) := by omega
          have b2 : (b.toNat : Int) < 128 := by omega
          clear c1 c2
          obtain ⟨q, k9⟩ : ∃ q, ((k : Int) == 9) = q := ⟨_, rfl⟩
          cases q
          all_goals
            go_wp2
            go_ret3
            exact ⟨ret_nx HR rfl rfl rfl, hb⟩
        · have hno : ¬ ((k = 9 ∧ 1 < b.toNat) ∨ (b.toNat = 0 ∧ 0 < k)) := fun h => h.elim c1 c2
          obtain ⟨D, hD, hsh, hD2⟩ := shl_fact b.toNat k hb255 hk9 (by omega)
          obtain ⟨hor, hlt2, hM⟩ := hD2 n HN.out
          have HM := hide hM
          have HL2 := hide hlt2
          have HD := hide hD
          clear hD2 hM hlt2 hD
          by_cases d : b.toNat < 128
          · have HR : Hid (nxt s = (n + D, k + 1, 0)) := HX2.out.trans (by rw [nx_done hno d, HD.out])
            have b2 : (b.toNat : Int) < 128 := by omega
            by_cases e0 : b.toNat = 0
            · have k0 : ¬ (0 : Int) < (k : Int) := by omega
              have b0 : ((b.toNat : Int) == 0) = true := by rw [beq_iff_eq]; omega
              have k9 : ((k : Int) == 9) = false := by rw [beq_eq_false_iff_ne]; omega
              clear c1 c2 hno d e0
              go_wp2
              go_ret3
              exact ⟨ret_nx HR (by omega) (by omega) rfl, hb⟩
            · have b0 : ((b.toNat : Int) == 0) = false := by rw [beq_eq_false_iff_ne]; omega
              by_cases e9 : k = 9
              · have k9 : ((k : Int) == 9) = true := by rw [beq_iff_eq]; omega
                have b1 : ¬ (1 : Int) < (b.toNat : Int) := by omega
                clear c1 c2 hno d e0 e9
                go_wp2
                go_ret3
                exact ⟨ret_nx HR (by omega) (by omega) rfl, hb⟩
              · have k9 : ((k : Int) == 9) = false := by rw [beq_eq_false_iff_ne]; omega
                clear c1 c2 hno d e0 e9
                go_wp2
                go_ret3
                exact ⟨ret_nx HR (by omega) (by omega) rfl, hb⟩
          · have HR : Hid (nxt s = nx (k + 1) (n + D) ((lst s).drop (k + 1))) := HX2.out.trans (by rw [nx_more hno d, HD.out])
            have b2 : ¬ (b.toNat : Int) < 128 := by omega
            have hk8 : k ≤ 8 := by omega
            have k9 : ((k : Int) == 9) = false := by rw [beq_eq_false_iff_ne]; omega
            clear c1 c2 hno d
            go_wp2
            go_round
            case rel => exact ⟨n + D, k + 1, by omega, by omega, HL2.out, HR, by go_num, by go_num⟩
            case measure => simp [intOf]; omega
    · go_wp2
      go_ret3
      have HR : Hid (nxt s = (0, 0, 2)) := HX.out.trans (by rw [List.drop_eq_nil_of_le (by rw [← HL.out]; omega)]; rfl)
      exact ⟨ret_nx HR rfl rfl rfl, hb⟩
end Go.Proofs.Ytoclbcpfiacoaaa
