/- The statements of layer 15: what is put is told again; the walk of PlainPuts. -/
import Derived.Test.YtoclbcpfiacoaaaPlain
namespace Go.Proofs.Ytoclbcpfiacoaaa
set_option linter.unusedVariables false
set_option linter.unusedSimpArgs false
open Go.RowKit

theorem pnext_told (most : Int) (id : Nat) (hid : id < u64M) (body : ByteArray) (rest : List UInt8) (h1 : ((inL id (lst body)).length : Int) ≤ most) (h2 : most ≤ 9223372036854775807)
    (hs : (str (putL id (lst body) ++ rest)).size ≤ maxLen) (w : World) :
    Calls Try.prog 26 #[.int .i64 most, .string (str (putL id (lst body) ++ rest))] w fun e w' => e = .returned (.tuple #[frV id body, .int .i64 ((putL id (lst body)).length : Int), .int .i64 0]) ∧ Below w.heap.size w w' := by
  obtain ⟨N, hN⟩ : ∃ N, (inL id (lst body)).length = N := ⟨_, rfl⟩
  have hNM : N < u64M := by unfold u64M; rw [hN] at h1; omega
  have hput : putL id (lst body) ++ rest = lebL N ++ (inL id (lst body) ++ rest) := by unfold putL; rw [hN, List.append_assoc]
  have hpl : (putL id (lst body)).length = (lebL N).length + N := by unfold putL; rw [hN, List.length_append, hN]
  have hn : nxt (str (putL id (lst body) ++ rest)) = (N, (lebL N).length, 0) := by rw [hput]; exact nxt_leb N hNM _
  have hin : (str (putL id (lst body) ++ rest)).extract (lebL N).length ((lebL N).length + N) = str (inL id (lst body)) := by
    rw [extract_str, hput, List.drop_left, show (lebL N).length + N - (lebL N).length = N by omega, ← hN, List.take_left]
  have hk : (lebL N).length + N ≤ (str (putL id (lst body) ++ rest)).size := by rw [size_str, List.length_append, hpl]; omega
  have hr : (RD.mk ((str (putL id (lst body) ++ rest)).extract (lebL N).length ((lebL N).length + N)) 0 0).lebR = (⟨str (inL id (lst body)), (lebL id).length, 0⟩, id) := by
    rw [hin]; exact rd_leb id hid _
  rw [hN] at h1
  have hsz : (str (inL id (lst body))).size = N := by rw [size_str, hN]
  have hok : (RD.mk (str (inL id (lst body))) (lebL id).length 0).ok := by
    refine ⟨?_, ?_⟩
    · show (lebL id).length ≤ (str (inL id (lst body))).size
      rw [size_str]; unfold inL; rw [List.length_append]; omega
    · show (str (inL id (lst body))).size ≤ _
      rw [hsz]; omega
  have hbody : (str (inL id (lst body))).extract (lebL id).length (str (inL id (lst body))).size = body := by
    rw [extract_str, size_str]
    unfold inL
    rw [List.drop_left, List.length_append, show (lebL id).length + (lst body).length - (lebL id).length = (lst body).length by omega, List.take_length, str_lst]
  have := pnext_ok most _ hs N (lebL N).length hn h1 h2 hk _ id hr hok rfl w
  refine this.mono fun e w' ⟨he, hb⟩ => ⟨?_, hb⟩
  rw [he, hbody, hpl]
  rfl
theorem put_size (id : Nat) (hid : id < u64M) (body : ByteArray) (hb : body.size ≤ 1000000) : (putL id (lst body)).length ≤ 1000030 ∧ (inL id (lst body)).length ≤ 1000010 := by
  have hl10 := leb_len10 hid
  have hl : (inL id (lst body)).length = (lebL id).length + body.size := by unfold inL; rw [List.length_append, ← size_lst]
  have hN10 := leb_len10 (show (inL id (lst body)).length < u64M by unfold u64M; omega)
  unfold putL
  rw [List.length_append]
  omega

set_option maxHeartbeats 400000 in
set_option maxRecDepth 100000 in
theorem alive15 (w : World) : Calls Try.prog 23 #[] w fun e w' => e = .returned (.bool true) ∧ Below w.heap.size w w' := by
  have hp : putL 5 (lst ⟨#[97, 98]⟩) = [3, 5, 97, 98] := by
    have h5 : lebL 5 = [5] := lebL_lo (by decide)
    have h3 : lebL 3 = [3] := lebL_lo (by decide)
    have hi : inL 5 (lst ⟨#[97, 98]⟩) = [5, 97, 98] := by unfold inL; rw [h5]; rfl
    unfold putL; rw [hi]; show lebL 3 ++ _ = _; rw [h3]; rfl
  have hi : (inL 5 (lst ⟨#[97, 98]⟩)).length ≤ 65536 := by unfold inL; rw [lebL_lo (by decide)]; decide
  have H1 := sh (pput_ok 5 (by unfold u64M; decide) ⟨#[97, 98]⟩ hi)
  rw [hp, show str [3, 5, 97, 98] = ⟨#[3, 5, 97, 98]⟩ from rfl] at H1
  have hn : nxt ⟨#[0]⟩ = (0, 1, 0) := rfl
  have hl : (RD.mk ((⟨#[0]⟩ : ByteArray).extract 1 (1 + 0)) 0 0).lebR = (⟨⟨#[]⟩, 0, 2⟩, 0) := rfl
  have H2 := sh (pnext_form 9 ⟨#[0]⟩ (by unfold maxLen; decide) 0 1 hn (by decide) (by decide) (by decide) _ 0 hl ⟨by decide, by decide⟩ (by decide))
  clear hp hi hn hl
  go_enter Try.func23, Try.ntmps23
  go_wp2_with fail
  refine (H1.out _).mono ?_
  rintro e' w2 ⟨rfl, hb2⟩
  go_wp2_with fail
  refine (H2.out _).mono ?_
  rintro e' w3 ⟨rfl, hb3⟩
  simp only [fr0]
  go_wp2_with fail
  go_ret
  exact ⟨rfl, (hb2.trans (hb3.mono hb2.size)).alloc (Nat.le_trans hb2.size hb3.size) _⟩
set_option maxHeartbeats 1000000 in
set_option maxRecDepth 100000 in
theorem puts_walk (id : Int) (wi : (Lit.int .u64 id).wf = true) (body more : ByteArray) (w : World) :
    Calls Try.prog 5 #[.int .u64 id, .string body, .string more] w fun e w' => e = .returned (.bool true) ∧ Below w.heap.size w w' := by
  obtain ⟨n, rfl, hn⟩ : ∃ n : Nat, id = (n : Int) ∧ n < u64M := by
    have : 0 ≤ id ∧ id ≤ 18446744073709551615 := by simpa [Lit.wf, IntKind.min, IntKind.max, IntKind.signed, IntKind.bits] using wi
    exact ⟨id.toNat, by omega, by unfold u64M; omega⟩
  clear wi
  by_cases g1 : (500 < body.size ∧ body.size < 65500) ∨ 70000 < body.size ∨ 100 < more.size
  · by_cases a1 : (500 : Int) < (body.size : Int)
    · by_cases a2 : (body.size : Int) < 65500
      · clear g1
        go_enter Try.func5, Try.ntmps5
        go_wp2_with (go_at_call 23; refine (alive15 _).mono ?_; rintro e' w2 ⟨rfl, hb2⟩)
        go_ret
        exact ⟨rfl, hb2⟩
      · by_cases a3 : (70000 : Int) < (body.size : Int)
        · clear g1
          go_enter Try.func5, Try.ntmps5
          go_wp2_with (go_at_call 23; refine (alive15 _).mono ?_; rintro e' w2 ⟨rfl, hb2⟩)
          go_ret
          exact ⟨rfl, hb2⟩
        · have a4 : (100 : Int) < (more.size : Int) := by omega
          clear g1
          go_enter Try.func5, Try.ntmps5
          go_wp2_with (go_at_call 23; refine (alive15 _).mono ?_; rintro e' w2 ⟨rfl, hb2⟩)
          go_ret
          exact ⟨rfl, hb2⟩
    · have a3 : ¬ (70000 : Int) < (body.size : Int) := by omega
      have a4 : (100 : Int) < (more.size : Int) := by omega
      clear g1
      go_enter Try.func5, Try.ntmps5
      go_wp2_with (go_at_call 23; refine (alive15 _).mono ?_; rintro e' w2 ⟨rfl, hb2⟩)
      go_ret
      exact ⟨rfl, hb2⟩
  · have b1 : body.size ≤ 70000 := by omega
    have b2 : more.size ≤ 100 := by omega
    have a3 : ¬ (70000 : Int) < (body.size : Int) := by omega
    have a4 : ¬ (100 : Int) < (more.size : Int) := by omega
    have a2 : (500 : Int) < (body.size : Int) → ¬ (body.size : Int) < 65500 := by omega
    have HR := sh (refput n hn body (by omega))
    have hps := put_size n hn body (by omega)
    by_cases hov : 65536 < (inL n (lst body)).length
    · have HP := sh (pput_over n hn body (by omega) hov)
      have HD : Sh (decide (((inL n (lst body)).length : Int) ≤ 65536) = false) := sh (decide_eq_false (by omega))
      rw [HD.out] at HR
      clear g1 hov hps hn
      by_cases a1 : (500 : Int) < (body.size : Int)
      all_goals
        try have a2' := a2 a1
        clear a2
        go_enter Try.func5, Try.ntmps5
        go_wp2_with fail
        refine (alive15 _).mono ?_
        rintro e' w2 ⟨rfl, hb2⟩
        go_wp2_with fail
        refine (HP.out _).mono ?_
        rintro e' w3 ⟨rfl, rfl⟩
        go_wp2_with fail
        refine (HR.out _).mono ?_
        rintro e' w4 ⟨rfl, hb4⟩
        go_wp2_with fail
        go_ret
        exact ⟨rfl, hb2.trans (hb4.mono hb2.size)⟩
    · have HP := sh (pput_ok n hn body (by omega))
      have HD : Sh (decide (((inL n (lst body)).length : Int) ≤ 65536) = true) := sh (decide_eq_true (by omega))
      rw [HD.out] at HR
      have hsz : (str (putL n (lst body))).size ≤ 1000030 := by rw [size_str]; exact hps.1
      have hap : str (putL n (lst body)) ++ more = str (putL n (lst body) ++ lst more) := by rw [← str_append, str_lst]
      have HT := sh (pnext_told 65536 n hn body (lst more) (by omega) (by omega) (by rw [← hap, ByteArray.size_append]; unfold maxLen; omega))
      rw [← hap, ← size_str] at HT
      clear g1 hov hps hn hap
      generalize str (putL n (lst body)) = S at *
      by_cases a1 : (500 : Int) < (body.size : Int)
      all_goals
        try have a2' := a2 a1
        clear a2
        go_enter Try.func5, Try.ntmps5
        go_wp2_with fail
        refine (alive15 _).mono ?_
        rintro e' w2 ⟨rfl, hb2⟩
        go_wp2_with fail
        refine (HP.out _).mono ?_
        rintro e' w3 ⟨rfl, hb3⟩
        go_wp2_with fail
        refine (HR.out _).mono ?_
        rintro e' w4 ⟨rfl, hb4⟩
        go_wp2_with fail
        refine (HT.out _).mono ?_
        simp only [frV]
        rintro e' w5 ⟨rfl, hb5⟩
        go_wp2_with fail
        go_ret
        have t3 := hb2.trans (hb3.mono hb2.size)
        have t4 := t3.trans (hb4.mono t3.size)
        have t5 := t4.trans (hb5.mono t4.size)
        exact ⟨rfl, t5.alloc t5.size _⟩
end Go.Proofs.Ytoclbcpfiacoaaa
