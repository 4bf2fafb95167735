/- HexesBytes: the walk of the statement. -/
import Derived.Test.YtlmddmkobhkndaaDump
namespace Go.Proofs.Ytlmddmkobhkndaa
set_option linter.unusedVariables false
set_option linter.unusedSimpArgs false
open Go.RowKit

theorem unhex_hex : ∀ l : List UInt8, unhex (hexL l) = some l
  | [] => rfl
  | b :: l => by
    have hb := b.toNat_lt
    have h1 := val_hit (v := b.toNat / 16) (by omega) rfl
    have h2 := val_hit (v := b.toNat % 16) (by omega) rfl
    show unhex (dig (b.toNat / 16) :: dig (b.toNat % 16) :: hexL l) = _
    rw [unhex, unhex_hex l, if_pos (by unfold okd; rw [h1, h2]; simp; omega)]
    have : two (dig (b.toNat / 16)) (dig (b.toNat % 16)) = b := by
      unfold two
      rw [h1, h2]
      apply UInt8.toNat_inj.1
      rw [UInt8.toNat_ofNat_of_lt' (by show _ < 256; simp; omega)]
      simp; omega
    simp [this]
theorem hex2_two {h l : UInt8} (ok : okd h l = true) : hex2 (two h l) = [h, l] := by
  unfold okd at ok
  simp only [Bool.and_eq_true, decide_eq_true_eq] at ok
  rcases val_range h with e | ⟨v, v1, v2, v3⟩
  · omega
  rcases val_range l with e | ⟨u, u1, u2, u3⟩
  · omega
  unfold hex2 two
  rw [v2, u2]
  have : (UInt8.ofNat (16 * (v : Int).toNat + (u : Int).toNat)).toNat = 16 * v + u := by
    rw [UInt8.toNat_ofNat_of_lt' (by show _ < 256; simp; omega)]; simp
  rw [this, show (16 * v + u) / 16 = v by omega, show (16 * v + u) % 16 = u by omega, v3, u3]
theorem hex_unhex : ∀ (l m : List UInt8), unhex l = some m → hexL m = l
  | [], m, h => by cases h; rfl
  | [_], m, h => by cases h
  | a :: b :: r, m, h => by
    unfold unhex at h
    split at h
    · rename_i hok
      obtain ⟨q, hq, rfl⟩ := Option.map_eq_some_iff.1 h
      show hex2 (two a b) ++ hexL q = _
      rw [hex2_two hok, hex_unhex r q hq]; rfl
    · cases h
theorem alive27 (w : World) : Calls Try.prog 5 #[] w fun e w' => e = .returned (.bool true) ∧ Below w.heap.size w w' := by
  have HD := sh (fun W => dump16 ⟨#[97, 0]⟩ (by decide) (by decide) W)
  have e : str (lineL (lst ⟨#[97, 0]⟩)) = ⟨#[48, 48, 48, 48, 48, 48, 48, 48, 32, 54, 49, 32, 48, 48, 32, 32, 97, 46, 10]⟩ := by rfl
  rw [e] at HD
  go_enter Try.func5, Try.ntmps5
  go_wp2_with (go_at_call 16; refine (HD.out _).mono ?_; rintro e' w' ⟨rfl, hb⟩)
  go_ret
  exact ⟨rfl, hb⟩
set_option maxHeartbeats 2000000 in
set_option maxRecDepth 100000 in
theorem hb_walk (s t : ByteArray) (w : World) (hs : s.size ≤ maxLen) (ht : t.size ≤ maxLen) : Calls Try.prog 3 #[.string s, .string t] w fun e w' => e = .returned (.bool true) ∧ Below w.heap.size w w' := by
  have HA := sh alive27
  by_cases c : (500 : Int) < (s.size : Int)
  · go_enter Try.func3, Try.ntmps3
    go_wp2_with (go_at_call 5; refine (HA.out _).mono ?_; rintro e' w2 ⟨rfl, hb⟩)
    go_ret
    exact ⟨rfl, hb⟩
  · by_cases c2 : (500 : Int) < (t.size : Int)
    · go_enter Try.func3, Try.ntmps3
      go_wp2_with (go_at_call 5; refine (HA.out _).mono ?_; rintro e' w2 ⟨rfl, hb⟩)
      go_ret
      exact ⟨rfl, hb⟩
    · have H1 := sh (fun W => hex_ok s (by omega) W)
      have HR := sh (fun W => rhex s (by omega) W)
      have H2 := sh (fun W => hbytes (str (hexL (lst s))) (by rw [size_str, hexL_len, ← size_lst]; omega) W)
      have e2 : unhexV (unhex (lst (str (hexL (lst s))))) = .tuple #[.string s, .int .i64 0] := by rw [lst_str, unhex_hex]; rfl
      rw [e2] at H2
      have H3 := sh (fun W => hbytes t (by omega) W)
      have HB := sh (fun W => rbytes t (by omega) W)
      obtain ⟨X, hX⟩ : ∃ X, str (hexL (lst s)) = X := ⟨_, rfl⟩
      rw [hX] at H1 H2 HR
      clear hX e2
      cases q : unhex (lst t) with
      | none =>
        have e3 : unhexV (unhex (lst t)) = .tuple #[.string ⟨#[]⟩, .int .i64 3] := by rw [q]; rfl
        rw [e3] at H3 HB
        clear e3 q
        go_enter Try.func3, Try.ntmps3
        go_wp2_with (first
          | (go_at_call 5; refine (HA.out _).mono ?_; rintro e' w2 ⟨rfl, hb⟩)
          | (go_at_call 6; refine (H1.out _).mono ?_; clear H1; rintro e' w3 ⟨rfl, hb3⟩)
          | (go_at_call 7; refine (H2.out _).mono ?_; clear H2; rintro e' w4 ⟨rfl, hb4⟩)
          | (go_at_call 7; refine (H3.out _).mono ?_; clear H3; rintro e' w5 ⟨rfl, hb5⟩)
          | (go_at_call 8; refine (HB.out _).mono ?_; clear HB; rintro e' w6 ⟨rfl, hb6⟩)
          | (go_at_call 9; refine (HR.out _).mono ?_; clear HR; rintro e' w7 ⟨rfl, hb7⟩))
        go_ret
        have t3 := hb.trans (hb3.mono hb.size)
        have t4 := t3.trans (hb4.mono t3.size)
        have t5 := t4.trans (hb5.mono t4.size)
        have t6 := t5.trans (hb6.mono t5.size)
        exact ⟨by simp, t6.trans (hb7.mono t6.size)⟩
      | some m =>
        have e3 : unhexV (unhex (lst t)) = .tuple #[.string (str m), .int .i64 0] := by rw [q]; rfl
        have hml : m.length ≤ 1000000 := by have := unhex_len _ _ q; rw [← size_lst] at this; omega
        have H4 := sh (fun W => hex_ok (str m) (by rw [size_str]; exact hml) W)
        have e4 : str (hexL (lst (str m))) = t := by rw [lst_str, hex_unhex _ _ q, str_lst]
        rw [e4] at H4
        rw [e3] at H3 HB
        obtain ⟨M, hM⟩ : ∃ M, str m = M := ⟨_, rfl⟩
        rw [hM] at H3 HB H4
        clear e3 e4 q hM hml
        go_enter Try.func3, Try.ntmps3
        go_wp2_with (first
          | (go_at_call 5; refine (HA.out _).mono ?_; rintro e' w2 ⟨rfl, hb⟩)
          | (go_at_call 6; refine (H1.out _).mono ?_; clear H1; rintro e' w3 ⟨rfl, hb3⟩)
          | (go_at_call 7; refine (H2.out _).mono ?_; clear H2; rintro e' w4 ⟨rfl, hb4⟩)
          | (go_at_call 7; refine (H3.out _).mono ?_; clear H3; rintro e' w5 ⟨rfl, hb5⟩)
          | (go_at_call 8; refine (HB.out _).mono ?_; clear HB; rintro e' w6 ⟨rfl, hb6⟩)
          | (go_at_call 9; refine (HR.out _).mono ?_; clear HR; rintro e' w7 ⟨rfl, hb7⟩)
          | (go_at_call 6; refine (H4.out _).mono ?_; clear H4; rintro e' w8 ⟨rfl, hb8⟩))
        go_ret
        have t3 := hb.trans (hb3.mono hb.size)
        have t4 := t3.trans (hb4.mono t3.size)
        have t5 := t4.trans (hb5.mono t4.size)
        have t6 := t5.trans (hb6.mono t5.size)
        have t7 := t6.trans (hb7.mono t6.size)
        exact ⟨by simp, t7.trans (hb8.mono t7.size)⟩
end Go.Proofs.Ytlmddmkobhkndaa
