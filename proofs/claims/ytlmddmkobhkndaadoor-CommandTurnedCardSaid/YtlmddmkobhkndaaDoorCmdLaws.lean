/- CommandPuts and CommandGets: the walks of the two statements. -/
import Derived.Test.YtlmddmkobhkndaaDoorCmdGet
namespace Go.Proofs.YtlmddmkobhkndaaDoor
set_option linter.unusedVariables false
set_option linter.unusedSimpArgs false
open Go.RowKit Go.Lib

set_option maxRecDepth 100000 in
theorem alive_put : cputV (cput (lst ⟨#[112, 105, 110, 103]⟩)) = .tuple #[.string ⟨#[112, 105, 110, 103, 0, 0, 0, 0, 0, 0, 0, 0]⟩, .int .i64 0] := by rfl
theorem alive13 (w : World) : Calls Tryd.prog 8 #[] w fun e w' => e = .returned (.bool true) ∧ Below w.heap.size w w' := by
  have HP := sh (fun W => cput_ok ⟨#[112, 105, 110, 103]⟩ W)
  rw [alive_put] at HP
  go_enter Tryd.func8, Tryd.ntmps8
  go_wp2_with (go_at_call 9; refine (HP.out _).mono ?_; rintro e' w' ⟨rfl, hb⟩)
  go_ret
  exact ⟨rfl, hb⟩
theorem cput_no {l : List UInt8} (h : mayL l = false) : cputV (cput l) = .tuple #[.string ⟨#[]⟩, .int .i64 11] := by unfold cput; rw [if_neg (by rw [h]; simp)]; rfl
theorem cput_yes {l : List UInt8} (h : mayL l = true) : cputV (cput l) = .tuple #[.string (str (padL l)), .int .i64 0] := by unfold cput; rw [if_pos h]; rfl
theorem cget_pad {l : List UInt8} (h : mayL l = true) : cputV (cget (padL l)) = .tuple #[.string (str l), .int .i64 0] := by
  obtain ⟨h1, h2, h3⟩ := may_all h
  unfold cget
  rw [trim_pad h1, if_pos ⟨padL_len h3, h⟩]; rfl
set_option maxHeartbeats 1000000 in
set_option maxRecDepth 100000 in
theorem puts_walk (s : ByteArray) (w : World) (hs : s.size ≤ maxLen) : Calls Tryd.prog 3 #[.string s] w fun e w' => e = .returned (.bool true) ∧ Below w.heap.size w w' := by
  have HA := sh alive13
  by_cases c : (200 : Int) < (s.size : Int)
  · go_enter Tryd.func3, Tryd.ntmps3
    go_wp2_with (go_at_call 8; refine (HA.out _).mono ?_; rintro e' w2 ⟨rfl, hb⟩)
    go_ret
    exact ⟨rfl, hb⟩
  · have HP := sh (fun W => cput_ok s W)
    have HM := sh (fun W => cmay s W)
    have HR := sh (fun W => rmay s hs W)
    have HQ := sh (fun W => rput s hs W)
    cases q : mayL (lst s)
    · rw [q] at HM HR
      rw [cput_no q] at HP
      clear q
      go_enter Tryd.func3, Tryd.ntmps3
      go_wp2_with (first
        | (go_at_call 8; refine (HA.out _).mono ?_; rintro e' w2 ⟨rfl, hb⟩)
        | (go_at_call 9; refine (HP.out _).mono ?_; rintro e' w3 ⟨rfl, hb3⟩)
        | (go_at_call 10; refine (HM.out _).mono ?_; rintro e' w4 ⟨rfl, hb4⟩)
        | (go_at_call 11; refine (HR.out _).mono ?_; rintro e' w5 ⟨rfl, rfl⟩))
      go_ret
      have t3 := hb.trans (hb3.mono hb.size)
      exact ⟨rfl, t3.trans (hb4.mono t3.size)⟩
    · have HG := sh (fun W => cget_ok (str (padL (lst s))) (by rw [size_str, padL_len (may_all q).2.2]; unfold maxLen; omega) W)
      rw [lst_str, cget_pad q, str_lst] at HG
      rw [q] at HM HR
      rw [cput_yes q] at HP
      clear q
      generalize str (padL (lst s)) = S at *
      go_enter Tryd.func3, Tryd.ntmps3
      go_wp2_with (first
        | (go_at_call 8; refine (HA.out _).mono ?_; rintro e' w2 ⟨rfl, hb⟩)
        | (go_at_call 9; refine (HP.out _).mono ?_; rintro e' w3 ⟨rfl, hb3⟩)
        | (go_at_call 10; refine (HM.out _).mono ?_; rintro e' w4 ⟨rfl, hb4⟩)
        | (go_at_call 11; refine (HR.out _).mono ?_; rintro e' w5 ⟨rfl, rfl⟩)
        | (go_at_call 12; refine (HG.out _).mono ?_; rintro e' w6 ⟨rfl, hb6⟩)
        | (go_at_call 13; refine (HQ.out _).mono ?_; rintro e' w7 ⟨rfl, rfl⟩))
      go_ret
      have t3 := hb.trans (hb3.mono hb.size)
      have t4 := t3.trans (hb4.mono t3.size)
      exact ⟨by simp, t4.trans (hb6.mono t4.size)⟩
theorem cget_cases (l : List UInt8) : cget l = ([], 3) ∨ ∃ t, cget l = (t, 0) ∧ mayL t = true ∧ padL t = l := by
  unfold cget
  by_cases c : l.length = 12 ∧ mayL (trimL l) = true
  · rw [if_pos c]
    exact .inr ⟨_, rfl, c.2, trim_pad_back c.1⟩
  · rw [if_neg c]; exact .inl rfl
set_option maxHeartbeats 1000000 in
set_option maxRecDepth 100000 in
theorem gets_walk (s : ByteArray) (w : World) (hs : s.size ≤ maxLen) : Calls Tryd.prog 4 #[.string s] w fun e w' => e = .returned (.bool true) ∧ Below w.heap.size w w' := by
  have HA := sh alive13
  by_cases c : (200 : Int) < (s.size : Int)
  · go_enter Tryd.func4, Tryd.ntmps4
    go_wp2_with (go_at_call 8; refine (HA.out _).mono ?_; rintro e' w2 ⟨rfl, hb⟩)
    go_ret
    exact ⟨rfl, hb⟩
  · have HG := sh (fun W => cget_ok s hs W)
    have HR := sh (fun W => rget_ok s hs W)
    rcases cget_cases (lst s) with h | ⟨t, h, hm, hp⟩
    · have hv : cputV (cget (lst s)) = .tuple #[.string ⟨#[]⟩, .int .i64 3] := by rw [h]; rfl
      rw [hv] at HG HR
      clear h hv
      go_enter Tryd.func4, Tryd.ntmps4
      go_wp2_with (first
        | (go_at_call 8; refine (HA.out _).mono ?_; rintro e' w2 ⟨rfl, hb⟩)
        | (go_at_call 12; refine (HG.out _).mono ?_; rintro e' w3 ⟨rfl, hb3⟩)
        | (go_at_call 14; refine (HR.out _).mono ?_; rintro e' w5 ⟨rfl, rfl⟩))
      go_ret
      exact ⟨rfl, hb.trans (hb3.mono hb.size)⟩
    · have hv : cputV (cget (lst s)) = .tuple #[.string (str t), .int .i64 0] := by rw [h]; rfl
      have HP := sh (fun W => cput_ok (str t) W)
      rw [lst_str, cput_yes hm, hp, str_lst] at HP
      rw [hv] at HG HR
      clear h hv hm hp
      generalize str t = T at *
      go_enter Tryd.func4, Tryd.ntmps4
      go_wp2_with (first
        | (go_at_call 8; refine (HA.out _).mono ?_; rintro e' w2 ⟨rfl, hb⟩)
        | (go_at_call 12; refine (HG.out _).mono ?_; rintro e' w3 ⟨rfl, hb3⟩)
        | (go_at_call 14; refine (HR.out _).mono ?_; rintro e' w5 ⟨rfl, rfl⟩)
        | (go_at_call 9; refine (HP.out _).mono ?_; rintro e' w6 ⟨rfl, hb6⟩))
      go_ret
      have t3 := hb.trans (hb3.mono hb.size)
      exact ⟨by simp, t3.trans (hb6.mono t3.size)⟩
end Go.Proofs.YtlmddmkobhkndaaDoor
