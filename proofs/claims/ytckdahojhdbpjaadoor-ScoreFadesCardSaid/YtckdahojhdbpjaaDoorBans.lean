/- ScoreBans: the walk of the statement itself. -/
import Derived.Test.YtckdahojhdbpjaaDoorAlive
namespace Go.Proofs.YtckdahojhdbpjaaDoor
set_option linter.unusedVariables false
set_option linter.unusedSimpArgs false
open Go.RowKit

/-- a slice of integers that came in, read -/
def IsRow (k : IntKind) (w : World) (a : Option Addr) (len cap : Nat) (zs : List Int) : Prop :=
  (a = none ∧ len = 0 ∧ cap = 0 ∧ zs = []) ∨
  ∃ x, a = some x ∧ len ≤ cap ∧ cap ≤ maxLen ∧ zs.length = cap ∧ (∀ i, i < zs.length → w.cell? (x.add i) = some (.int k (zs.getD i 0))) ∧ ∀ n ∈ zs, (Lit.int k n).wf = true
theorem block_add (a : Addr) (n : Nat) : (a.add n).block = a.block := by unfold Addr.add; split <;> rfl
theorem IsRow.at_ {k : IntKind} {w : World} {a : Option Addr} {len cap : Nat} {zs : List Int} (h : IsRow k w a len cap zs) {i : Nat} (hi : i < len) :
    ∃ x, a = some x ∧ w.cell? (x.add i) = some (.int k (zs[i]?.getD 0)) ∧ (Lit.int k (zs[i]?.getD 0)).wf = true ∧ (x.add i).block < w.heap.size := by
  rcases h with ⟨_, h, _⟩ | ⟨x, rfl, h1, h2, h3, h4, h5⟩
  · omega
  · have hl : i < zs.length := by omega
    have := h4 i hl
    rw [List.getD_eq_getElem?_getD] at this
    refine ⟨x, rfl, this, ?_, World.block_lt_of_cell? w _ this⟩
    rw [List.getElem?_eq_getElem hl]
    exact h5 _ (List.getElem_mem hl)
theorem IsRow.len_le {k : IntKind} {w : World} {a : Option Addr} {len cap : Nat} {zs : List Int} (h : IsRow k w a len cap zs) : len ≤ 9223372036854775807 := by
  rcases h with ⟨_, h, _⟩ | ⟨x, rfl, h1, h2, _⟩
  · omega
  · unfold maxLen at h2; omega
theorem wf_u8 {n : Int} (h : (Lit.int .u8 n).wf = true) : 0 ≤ n ∧ n ≤ 255 := by simpa [Lit.wf, IntKind.min, IntKind.max, IntKind.signed, IntKind.bits] using h
theorem wf_i64 {n : Int} (h : (Lit.int .i64 n).wf = true) : -9223372036854775808 ≤ n ∧ n ≤ 9223372036854775807 := by simpa [Lit.wf, IntKind.min, IntKind.max, IntKind.signed, IntKind.bits] using h

/-- so far: the points together, below the limit -/
def BInv (lim now S : Int) (o : Option Acc) : Prop := 0 ≤ S ∧ S < lim ∧ ((o = none ∧ S = 0) ∨ o = some ⟨S, now, 0⟩)
theorem hv_0 (v : Int) : hv (0 : Int).toNat v = v := rfl
theorem clip_id {now : Int} (h0 : 0 ≤ now) (h1 : now ≤ 2305843009213693952) : clipZ now = now := by unfold clipZ; rw [if_neg (by omega), if_neg (by omega)]
theorem at_same {now S : Int} (h0 : 0 ≤ now) (h1 : now ≤ 1152921504606846976) : atZ 1 S now now = S := by
  unfold atZ
  rw [clip_id h0 (by omega)]
  have : maxZ now now = now := by simp [maxZ]
  rw [this]
  simp; rfl
theorem bans_lo {lim ban now S e : Int} {o : Option Acc} (hi : BInv lim now S o) (h0 : 0 ≤ now) (h1 : now ≤ 1152921504606846976) (h : S + ptsZ e < lim) :
    ∃ o', faultO lim 1 ban o now e = (o', S + ptsZ e) ∧ BInv lim now (S + ptsZ e) o' ∧ untilO o' = 0 := by
  have hq := ptsZ_bd e
  obtain ⟨hS, hSl, ho⟩ := hi
  unfold faultO
  by_cases hz : ptsZ e = 0
  · rw [if_pos hz, hz]
    refine ⟨o, ?_, ⟨by omega, by omega, by simpa using ho⟩, ?_⟩
    · rcases ho with ⟨rfl, rfl⟩ | rfl
      · rfl
      · simp [scoreO, at_same h0 h1]
    · rcases ho with ⟨rfl, rfl⟩ | rfl <;> rfl
  · rw [if_neg hz]
    have hf : faultA lim 1 ban now (ptsZ e) (o.getD ⟨0, clipZ now, 0⟩) = ⟨S + ptsZ e, now, 0⟩ := by
      have hg : o.getD ⟨0, clipZ now, 0⟩ = ⟨S, now, 0⟩ := by
        rcases ho with ⟨rfl, rfl⟩ | rfl
        · simp [clip_id h0 (show now ≤ 2305843009213693952 by omega)]
        · rfl
      rw [hg]
      unfold faultA
      dsimp only
      rw [at_same h0 h1, if_pos h, clip_id h0 (by omega)]
      simp [maxZ]
    rw [hf]
    exact ⟨_, rfl, ⟨by omega, h, .inr rfl⟩, rfl⟩
theorem bans_hi {lim ban now S e : Int} {o : Option Acc} (hi : BInv lim now S o) (hb : 1 ≤ ban) (h0 : 0 ≤ now) (h1 : now ≤ 1152921504606846976) (h : lim ≤ S + ptsZ e) :
    faultO lim 1 ban o now e = (some ⟨0, now, now + ban⟩, 0) := by
  have hq := ptsZ_bd e
  obtain ⟨hS, hSl, ho⟩ := hi
  unfold faultO
  rw [if_neg (by omega)]
  have hg : o.getD ⟨0, clipZ now, 0⟩ = ⟨S, now, 0⟩ := by
    rcases ho with ⟨rfl, rfl⟩ | rfl
    · simp [clip_id h0 (show now ≤ 2305843009213693952 by omega)]
    · rfl
  rw [hg]
  unfold faultA
  dsimp only
  rw [at_same h0 h1, if_neg (by omega), clip_id h0 (by omega)]
  have m1 : maxZ now now = now := by simp [maxZ]
  have m2 : maxZ 0 (now + ban) = now + ban := by unfold maxZ; rw [if_pos (by omega)]
  rw [m1, m2]

set_option maxHeartbeats 1000000 in
set_option maxRecDepth 100000 in
theorem bans_walk (a0 a1 a2 : Int) (a3 : Option Addr) (len3 cap3 : Nat) (z3 : List Int) (w : World) (w0 : (Lit.int .i64 a0).wf = true) (w1 : (Lit.int .i64 a1).wf = true) (w2 : (Lit.int .i64 a2).wf = true) (w3 : IsRow .u8 w a3 len3 cap3 z3)
    (hT : Tab w) (hw0 : 0 < w.heap.size) :
    Calls Tryd.prog 4 #[.int .i64 a0, .int .i64 a1, .int .i64 a2, .slice a3 len3 cap3] w fun e w' => e = .returned (.bool true) ∧ Below w.heap.size w w' := by
  have hlen := w3.len_le
  cases hR : rightB a0 1 a1 with
  | false =>
    have HR := hide hR
    clear hR
    go_enter Tryd.func4, Tryd.ntmps4
    go_wp2_with (first | (go_at_call 6; refine (alive_any _ hT hw0).mono ?_; rintro e' wa ⟨rfl, hba⟩) | (go_at_call 7; refine (right_any _ _ _ _).mono ?_; rw [HR.out]; rintro e' w' ⟨rfl, rfl⟩))
    go_ret
    exact ⟨rfl, hba⟩
  | true =>
    have hr' : 1 ≤ a0 ∧ a0 ≤ 1000000 ∧ 1 ≤ (1:Int) ∧ (1:Int) ≤ 1099511627776 ∧ 1 ≤ a1 ∧ a1 ≤ 1099511627776 := of_decide_eq_true hR
    obtain ⟨q1, q2, -, -, q3, q4⟩ := hr'
    have HR := hide hR
    clear hR
    by_cases c1 : 50 < len3
    · have c1' : (50 : Int) < (len3 : Int) := by omega
      go_enter Tryd.func4, Tryd.ntmps4
      go_wp2_with (first | (go_at_call 6; refine (alive_any _ hT hw0).mono ?_; rintro e' wa ⟨rfl, hba⟩) | (go_at_call 7; refine (right_any _ _ _ _).mono ?_; rw [HR.out]; rintro e' w' ⟨rfl, rfl⟩))
      go_ret
      exact ⟨rfl, hba⟩
    · by_cases c2 : a2 < 0
      · go_enter Tryd.func4, Tryd.ntmps4
        go_wp2_with (first | (go_at_call 6; refine (alive_any _ hT hw0).mono ?_; rintro e' wa ⟨rfl, hba⟩) | (go_at_call 7; refine (right_any _ _ _ _).mono ?_; rw [HR.out]; rintro e' w' ⟨rfl, rfl⟩))
        go_ret
        exact ⟨rfl, hba⟩
      · by_cases c3 : 1152921504606846976 < a2
        · go_enter Tryd.func4, Tryd.ntmps4
          go_wp2_with (first | (go_at_call 6; refine (alive_any _ hT hw0).mono ?_; rintro e' wa ⟨rfl, hba⟩) | (go_at_call 7; refine (right_any _ _ _ _).mono ?_; rw [HR.out]; rintro e' w' ⟨rfl, rfl⟩))
          go_ret
          exact ⟨rfl, hba⟩
        · have c1' : ¬ (50 : Int) < (len3 : Int) := by omega
          go_enter Tryd.func4, Tryd.ntmps4
          go_wp2_with (first | (go_at_call 6; refine (alive_any _ hT hw0).mono ?_; rintro e' wa ⟨rfl, hba⟩) | (go_at_call 7; refine (right_any _ _ _ _).mono ?_; rw [HR.out]; rintro e' w' ⟨rfl, rfl⟩) | (go_at_call 8; refine (St.new (w0 := w) (B := w.heap.size) (hT.below hba hw0) hba hba.size hw0 a0 1 a1 HR.out).mono ?_; rintro e' w1 ⟨rfl, h1⟩))
          generalize wa.heap.size + 1 = g at *
          generalize wa.heap.size = m at *
          go_loopw [11, 12] (fun al i wr => ∃ (k : Nat) (S : Int) (o : Option Acc), k ≤ len3 ∧ BInv a0 a2 S o ∧ untilO o = 0 ∧ St w wr w.heap.size g m k a0 1 a1 (one o) ∧ al = .int .i64 S ∧ i = .int .i64 k) (fun _ i _ => len3 - (intOf i).toNat)
          case atStart => exact ⟨0, 0, none, by omega, ⟨by omega, by omega, .inl ⟨rfl, rfl⟩⟩, rfl, h1, rfl, rfl⟩
          case round =>
            obtain ⟨k, S, o, hk, hinv, hu, hst, rfl, rfl⟩ := hrel
            by_cases hk2 : k < len3
            · obtain ⟨x, rfl, hc0, hwf, hbl⟩ := w3.at_ hk2
              have hc := (hst.bel.cell hbl).trans hc0
              have hzb := wf_u8 hwf
              generalize z3[k]?.getD 0 = z at *
              clear hc0 hwf
              have hq := ptsZ_bd (z % 13)
              by_cases hlt : S + ptsZ (z % 13) < a0
              · obtain ⟨o', hf, hinv', hu'⟩ := bans_lo (ban := a1) hinv (by omega) (by omega) hlt
                have Hu := hide hu
                have Hu' := hide hu'
                have HF := hide ((fault_one a0 1 a1 o a2 (z % 13)).trans (by rw [hf]))
                clear hu hu' hf
                have hS0 := hinv.1
                have hS1 := hinv.2.1
                go_wp2_with (first | (go_at_call 11; refine (refpoints_any _ _).mono ?_; rintro e' w' ⟨rfl, rfl⟩) | (go_at_call 9; refine (hst.fault_to q1 q2 (by omega) q3 q4 hw0 nmA nmA_size (by unfold maxLen; omega) a2 (z % 13) HF.out).mono ?_; rintro e' wf ⟨rfl, hst'⟩) | (go_at_call 12; refine (hst'.banned_to nmA nmA_size a2 (x := false) (by rw [until_one, Hu'.out, clip_id (by omega) (by omega)]; exact decide_eq_false (by omega))).mono ?_; rintro e' w' ⟨rfl, rfl⟩))
                go_roundw
                case rel => exact ⟨k + 1, S + ptsZ (z % 13), o', by omega, hinv', Hu'.out, hst', rfl, by go_num⟩
                case measure => simp [intOf]; omega
              · have HF := hide ((fault_one a0 1 a1 o a2 (z % 13)).trans (by rw [bans_hi hinv q3 (by omega) (by omega) (Int.not_lt.1 hlt)]))
                have HU : Hid (untilO (some ⟨0, a2, a2 + a1⟩) = a2 + a1) := rfl
                have hS0 := hinv.1
                have hS1 := hinv.2.1
                have Hu := hide hu
                clear hu
                go_wp2_with (first | (go_at_call 11; refine (refpoints_any _ _).mono ?_; rintro e' w' ⟨rfl, rfl⟩) | (go_at_call 9; refine (hst.fault_to q1 q2 (by omega) q3 q4 hw0 nmA nmA_size (by unfold maxLen; omega) a2 (z % 13) HF.out).mono ?_; rintro e' wf ⟨rfl, hst'⟩) | (go_at_call 12; fail))
                refine (hst'.banned_to nmA nmA_size a2 (x := true) (by rw [until_one, HU.out, clip_id (by omega) (by omega)]; exact decide_eq_true (by omega))).mono ?_
                rintro e' w' ⟨rfl, rfl⟩
                go_wp2_with fail
                refine (hst'.banned_to nmA nmA_size (a2 + a1 - 1) (x := true) (by rw [until_one, HU.out, clip_id (by omega) (by omega)]; exact decide_eq_true (by omega))).mono ?_
                rintro e' w' ⟨rfl, rfl⟩
                go_wp2_with fail
                refine (hst'.banned_to nmA nmA_size (a2 + a1) (x := false) (by rw [until_one, HU.out, clip_id (by omega) (by omega)]; exact decide_eq_false (by omega))).mono ?_
                rintro e' w' ⟨rfl, rfl⟩
                go_wp2_with fail
                refine (hst'.until_to nmA nmA_size (x := a2 + a1) (by rw [until_one, HU.out])).mono ?_
                rintro e' w' ⟨rfl, rfl⟩
                go_wp2_with fail
                refine (hst'.banned_to nmB nmB_size a2 (x := false) (by rw [until_oneB, clip_id (by omega) (by omega)]; exact decide_eq_false (by omega))).mono ?_
                rintro e' w' ⟨rfl, rfl⟩
                go_wp2_with fail
                go_ret
                exact ⟨rfl, hst'.bel⟩
            · have Hu := hide hu
              clear hu
              go_wp2_with (go_at_call 13; refine (hst.until_to nmA nmA_size (x := 0) (by rw [until_one, Hu.out])).mono ?_; rintro e' w' ⟨rfl, rfl⟩)
              go_ret
              exact ⟨rfl, hst.bel⟩
end Go.Proofs.YtckdahojhdbpjaaDoor
