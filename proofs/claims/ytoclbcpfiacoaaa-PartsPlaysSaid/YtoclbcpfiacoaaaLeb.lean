/- leb.Put, leb.Size and the reference's Put: contracts over the loaded program. -/
import Derived.Test.YtoclbcpfiacoaaaProg
import Derived.Test.YtoclbcpfiacoaaaStr
import Derived.WalkKit
import Derived.WalkSpells
import Derived.WalkLawsBesides
import Derived.Deep.QuietTactic
import Derived.BigQuiet
import Derived.StillTailTactics
import Derived.OwnWalk
import Derived.Deep.RegionWith
namespace Go.Proofs.Ytoclbcpfiacoaaa
set_option linter.unusedVariables false
set_option linter.unusedSimpArgs false
open Go.RowKit

def lebL (n : Nat) : List UInt8 := if n < 128 then [UInt8.ofNat n] else UInt8.ofNat (n % 128 + 128) :: lebL (n / 128)
termination_by n
decreasing_by omega
theorem lebL_lo {n : Nat} (h : n < 128) : lebL n = [UInt8.ofNat n] := by rw [lebL, if_pos h]
theorem lebL_hi {n : Nat} (h : ¬ n < 128) : lebL n = UInt8.ofNat (n % 128 + 128) :: lebL (n / 128) := by rw [lebL, if_neg h]
theorem leb_len_pos (n : Nat) : 0 < (lebL n).length := by rw [lebL]; split <;> simp
theorem leb_len : ∀ (k n : Nat), n < 128 ^ (k + 1) → (lebL n).length ≤ k + 1
  | 0, n, h => by rw [lebL_lo (by simpa using h)]; simp
  | k + 1, n, h => by
    by_cases c : n < 128
    · rw [lebL_lo c]; simp
    · rw [lebL_hi c]
      have h2 : n / 128 < 128 ^ (k + 1) := by
        rw [Nat.pow_succ] at h
        exact Nat.div_lt_of_lt_mul (by rw [Nat.mul_comm]; exact h)
      have := leb_len k (n / 128) h2
      simp only [List.length_cons]; omega
def u64M : Nat := 18446744073709551616
theorem leb_len10 {n : Nat} (h : n < u64M) : (lebL n).length ≤ 10 := leb_len 9 n (Nat.lt_trans h (by unfold u64M; decide))

theorem info5 : (Try.prog.info? 5).map (fun i => (i.zero, i.size, i.bytes)) = some (some (.int .u8 0), 1, 1) := by kernel_rfl

theorem wrap_u64 {x : Int} (h0 : 0 ≤ x) (h : x < (u64M : Int)) : IntKind.u64.wrap x = x := by
  have h' : x < 18446744073709551616 := h
  simp only [IntKind.wrap, IntKind.bits, IntKind.signed]
  simp
  omega
theorem leb_step1 (acc : List UInt8) (m : Nat) (h : m < 128) : cellsB acc ++ [Value.int .u8 (m : Int)] = cellsB (acc ++ [UInt8.ofNat m]) := by
  rw [cellsB_append]
  congr 1
  rw [← byteV_ofNat m (by omega)]; rfl
theorem leb_step2 (acc : List UInt8) (m : Nat) : cellsB acc ++ [Value.int .u8 ((m : Int) % 128 + 128)] = cellsB (acc ++ [UInt8.ofNat (m % 128 + 128)]) := by
  rw [cellsB_append]
  congr 1
  have : byteV (UInt8.ofNat (m % 128 + 128)) = Value.int .u8 ((m : Int) % 128 + 128) := by
    rw [byteV_ofNat _ (by omega)]; congr 1
  rw [← this]; rfl
theorem leb_step3 {acc : List UInt8} {m n : Nat} (h : Hid (acc ++ lebL m = lebL n)) (c : ¬ m < 128) : Hid ((acc ++ [UInt8.ofNat (m % 128 + 128)]) ++ lebL (m / 128) = lebL n) := by
  show _ = _
  rw [← h.out, lebL_hi c]; simp
set_option maxHeartbeats 400000 in
set_option maxRecDepth 100000 in
theorem leb_put (n : Nat) (hn : n < u64M) (w : World) : Calls Try.prog 39 #[.int .u64 (n : Int)] w fun e w' => e = .returned (.string (str (lebL n))) ∧ Below w.heap.size w w' := by
  obtain ⟨i0, hi0, hz0, hz1, hz2⟩ := info_parts info5
  go_enter Try.func39, Try.ntmps39
  go_wp2
  go_loopw [0, 3] (fun v0 v3 wr => ∃ (m : Nat) (acc : List UInt8), v0 = .int .u64 (m : Int) ∧ m < u64M ∧ Hid (acc ++ lebL m = lebL n) ∧ wr.ownsRow w.heap.size 5 1 v3 acc.length (cellsB acc) ∧ Below w.heap.size w wr) (fun v0 _ _ => (intOf v0).toNat)
  case atStart => exact ⟨n, [], rfl, hn, rfl, own_row_nil _ _ _ _, Below.refl _ _⟩
  case round =>
    obtain ⟨m, acc, rfl, hm, HA, hown, hb⟩ := hrel
    have hl : acc.length ≤ 10 := by
      have h1 := leb_len10 hn
      have h2 := congrArg List.length HA.out
      rw [List.length_append] at h2
      omega
    have HM := hide hm
    clear hm hn
    by_cases c : m < 128
    · go_wp2_with (at_builtin; refine wpList_append_own _ rfl (.tmp 15) (.tmp 18) 67 rfl w.heap.size 5 i0 (.int .u8 0) 1 1 Try.underlying67 hi0 hz0 hz1 hz2 rfl (by decide) _ acc.length (cellsB acc) rfl (hown.alloc _) ⟨wr.heap.size, 0, none⟩ 1 1 [_] rfl rfl (cell_one _ _ _) (by simp [Value.oneCell']) (by unfold maxLen; omega) (by omega) (by have := hb.size; simp; omega) ?_; intro v1 w1 hown1 hg1 _; have hb1 := below_append (hb.alloc hb.size _) (hown.alloc _) (by have := hb.size; simp; omega) hg1; rw [leb_step1 acc m c] at hown1; have hcv := own_str (P := Try.prog) Try.underlying67 Try.underlying5 Try.underlying9 hown1)
      go_ret
      exact ⟨ret_str (by rw [← HA.out, lebL_lo c]), hb1⟩
    · have c' : (128 : Int) ≤ (m : Int) := by omega
      have hw : IntKind.u64.wrap ((m : Int) / 128) = (m : Int) / 128 := wrap_u64 (by omega) (by have := HM.out; omega)
      go_wp2_with (at_builtin; refine wpList_append_own _ rfl (.tmp 6) (.tmp 11) 67 rfl w.heap.size 5 i0 (.int .u8 0) 1 1 Try.underlying67 hi0 hz0 hz1 hz2 rfl (by decide) _ acc.length (cellsB acc) rfl (hown.alloc _) ⟨wr.heap.size, 0, none⟩ 1 1 [_] rfl rfl (cell_one _ _ _) (by simp [Value.oneCell']) (by unfold maxLen; omega) (by omega) (by have := hb.size; simp; omega) ?_; intro v1 w1 hown1 hg1 _; have hb1 := below_append (hb.alloc hb.size _) (hown.alloc _) (by have := hb.size; simp; omega) hg1; rw [leb_step2 acc m] at hown1)
      go_roundw
      case rel => exact ⟨m / 128, acc ++ [UInt8.ofNat (m % 128 + 128)], by go_num, Nat.lt_of_le_of_lt (Nat.div_le_self _ _) HM.out, leb_step3 HA c, by rw [List.length_append]; exact hown1, hb1⟩
      case measure => simp [intOf]; omega

set_option maxHeartbeats 1000000 in
set_option maxRecDepth 100000 in
theorem ref_put (n : Nat) : ∀ (hn : n < u64M) (w : World), Calls Try.prog 40 #[.int .u64 (n : Int)] w fun e w' => e = .returned (.string (str (lebL n))) ∧ Below w.heap.size w w' := by
  induction n using Nat.strongRecOn with
  | _ n ih =>
  intro hn w
  by_cases c : n < 128
  · have hcv := conv_one Try.underlying67 Try.underlying5 Try.underlying9 (n : Int) (by omega) (by omega)
    rw [Int.toNat_natCast, ← lebL_lo c] at hcv
    clear ih
    go_enter Try.func40, Try.ntmps40
    go_wp2
    go_ret
    exact ⟨rfl, (Below.refl _ w).alloc (Nat.le_refl _) _⟩
  · have hw : IntKind.u64.wrap ((n : Int) / 128) = ((n / 128 : Nat) : Int) := by rw [wrap_u64 (by omega) (by omega)]; omega
    have HI := hide (ih (n / 128) (by omega) (Nat.lt_of_le_of_lt (Nat.div_le_self _ _) hn))
    clear ih
    have HN := hide hn
    clear hn
    have c' : (128 : Int) ≤ (n : Int) := by omega
    obtain ⟨D, hD, hd0, hd1⟩ : ∃ D : Int, (n : Int).tmod 128 = D ∧ 0 ≤ D ∧ D < 128 := ⟨_, rfl, by rw [Int.tmod_eq_emod_of_nonneg (by omega)]; omega, by rw [Int.tmod_eq_emod_of_nonneg (by omega)]; omega⟩
    have hD1 : IntKind.u8.wrap D = D := wrap_u8 (by omega) (by omega)
    have hD2 : IntKind.u8.wrap (D + 128) = D + 128 := wrap_u8 (by omega) (by omega)
    have hcv := conv_one Try.underlying67 Try.underlying5 Try.underlying9 (D + 128) (by omega) (by omega)
    obtain ⟨S1, hS1, hs1⟩ : ∃ S1, str [UInt8.ofNat (D + 128).toNat] = S1 ∧ S1.size ≤ 1 := ⟨_, rfl, by rw [size_str]; simp⟩
    obtain ⟨S2, hS2, hs2⟩ : ∃ S2, str (lebL (n / 128)) = S2 ∧ S2.size ≤ 10 := ⟨_, rfl, by rw [size_str]; exact leb_len10 (Nat.lt_of_le_of_lt (Nat.div_le_self _ _) HN.out)⟩
    rw [hS1] at hcv
    rw [hS2] at HI
    have HS : Hid (str (lebL n) = S1 ++ S2) := by
      show _ = _
      rw [← hS1, ← hS2, str_append, lebL_hi c]
      have hDn : (D + 128).toNat = n % 128 + 128 := by rw [← hD, Int.tmod_eq_emod_of_nonneg (by omega)]; omega
      rw [hDn]; rfl
    clear hS1 hS2
    go_enter Try.func40, Try.ntmps40
    go_wp2_with fail
    go_region_with (go_at_call 40; refine (HI.out _).mono ?_; rintro e' w' ⟨rfl, hb⟩; obtain ⟨hbc, hbf⟩ := bcell hb)
    all_goals
      go_wp2
      go_ret
      refine ⟨ret_str HS.out.symm, ?_⟩
      first
      | exact ((Below.refl _ w).alloc (Nat.le_refl _) _).drew.trans (hb.mono (by simp))
      | exact ((Below.refl _ w).drew.trans (hb.mono (Nat.le_refl _))).alloc hb.size _
end Go.Proofs.Ytoclbcpfiacoaaa
