/- the reference's Cut: contract. -/
import Derived.Test.YtoclbcpfiacoaaaCut
namespace Go.Proofs.Ytoclbcpfiacoaaa
set_option linter.unusedVariables false
set_option linter.unusedSimpArgs false
open Go.RowKit

def strs (n : Nat) (f : Nat → List UInt8) : List Value := (List.range n).map fun i => .string (str (f i))
theorem strs_snoc (n : Nat) (f : Nat → List UInt8) : strs (n + 1) f = strs n f ++ [.string (str (f n))] := by simp [strs, List.range_succ]
theorem info9 : (Try.prog.info? 9).map (fun i => (i.zero, i.size, i.bytes)) = some (some (.string ⟨#[]⟩), 1, 16) := by kernel_rfl
theorem info31 : (Try.prog.info? 31).map (fun i => (i.zero, i.size, i.bytes)) = some (some (.agg #[.int .i64 0, .int .i64 0, .int .i64 0, .string ⟨#[]⟩]), 4, 40) := by kernel_rfl
theorem own_ne {W : World} {B B' : Nat} {e e' : TypeId} {sz sz' n n' : Nat} {v v' : Value} {xs xs' : List Value} (h : W.ownsRow B e sz v n xs) (h' : W.ownsRow B' e' sz' v' n' xs') (hne : e ≠ e') : v.ownBlock = none ∨ v.ownBlock ≠ v'.ownBlock := by
  rcases h.2 with ⟨rfl, _⟩ | ⟨g, cap, cur, rfl, _, hg, _⟩
  · exact .inl rfl
  · refine .inr fun e1 => ?_
    rcases h'.2 with ⟨rfl, _⟩ | ⟨g', cap', cur', rfl, _, hg', _⟩
    · simp [Value.ownBlock] at e1
    · have : g = g' := by simpa [Value.ownBlock] using e1
      subst this
      rw [hg] at hg'
      cases hg'
      exact hne rfl
theorem exS (l : List UInt8) (i j : Nat) : (str l).extract i j = str ((l.drop i).take (j - i)) := by
  apply ByteArray.ext
  simp only [str, ByteArray.data_extract]
  apply Array.ext'
  simp [List.extract]
theorem pieces_eq {z n L : Nat} (hz : 1 ≤ z) (h1 : L - n * z ≤ z) (h2 : n = 0 ∨ n * z < L) : pieces z L = n + 1 := by
  unfold pieces
  have e : (n + 1) * z = n * z + z := Nat.succ_mul n z
  rcases h2 with rfl | h2
  · have : (L + z - 1) / z ≤ 1 := by
      rw [Nat.div_le_iff_le_mul_add_pred (by omega)]
      omega
    omega
  · have : (L + z - 1) / z = n + 1 := Nat.div_eq_of_lt_le (by omega) (by rw [Nat.succ_mul]; omega)
    omega
theorem piece_last {z : Nat} {l : List UInt8} {n : Nat} (h : l.length - n * z ≤ z) : piece z l n = l.drop (n * z) := by
  unfold piece
  rw [List.take_of_length_le (by rw [List.length_drop]; exact h)]
set_option maxRecDepth 100000 in
set_option maxHeartbeats 2000000 in
theorem rcut_bad (id sz : Int) (s : ByteArray) (hbad : ¬ (0 ≤ id ∧ id ≤ 2147483647 ∧ 1 ≤ sz ∧ sz ≤ 65536)) (w : World) : Calls Try.prog 11 #[.int .i64 id, .string s, .int .i64 sz] w fun e w' => e = .returned (.tuple #[.slice none 0 0, .int .i64 1]) ∧ w = w' := by
  by_cases c1 : id < 0 <;> by_cases c2 : 2147483647 < id <;> by_cases c3 : sz < 1 <;> by_cases c4 : 65536 < sz
  all_goals try (exfalso; omega)
  all_goals
    clear hbad
    go_enter Try.func11, Try.ntmps11
    go_wp2
    go_ret2
    exact ⟨rfl, rfl⟩
set_option maxRecDepth 100000 in
set_option maxHeartbeats 4000000 in
theorem rcut_ok (id : Int) (z : Nat) (s : ByteArray) (hs : s.size ≤ 1000000) (hid : 0 ≤ id ∧ id ≤ 2147483647) (hz : 1 ≤ z) (hz2 : z ≤ 65536) (w : World) : Calls Try.prog 11 #[.int .i64 id, .string s, .int .i64 (z : Int)] w fun e w' =>
    (1024 < pieces z s.size ∧ e = .returned (.tuple #[.slice none 0 0, .int .i64 4]) ∧ Below w.heap.size w w') ∨
    (pieces z s.size ≤ 1024 ∧ ∃ v, e = .returned (.tuple #[v, .int .i64 0]) ∧ w'.ownsRow w.heap.size 31 4 v (pieces z s.size) (pcs id (pieces z s.size : Nat) (pieces z s.size) (piece z (lst s))) ∧ Below w.heap.size w w') := by
  obtain ⟨i9, ha0, ha1, ha2, ha3⟩ := info_parts info9
  obtain ⟨i31, hb0, hb1', hb2, hb3⟩ := info_parts info31
  have HL := sh (size_lst s)
  have d1 : ¬ id < 0 := by omega
  have d2 : ¬ (2147483647 : Int) < id := by omega
  go_enter Try.func11, Try.ntmps11
  go_wp2
  go_loopw [1, 8] (fun v1 v8 wr => ∃ (n : Nat) (S : ByteArray), v1 = .string S ∧ Sh (S = str ((lst s).drop (n * z)) ∧ S.size = s.size - n * z ∧ (n = 0 ∨ n * z < s.size)) ∧ n ≤ s.size ∧ S.size ≤ s.size ∧ wr.ownsRow w.heap.size 9 1 v8 n (strs n (piece z (lst s))) ∧ Below w.heap.size w wr) (fun v1 _ _ => match v1 with | .string S => S.size | _ => 0)
  case atStart => exact ⟨0, s, rfl, ⟨by simp; exact (str_lst s).symm, by simp, .inl rfl⟩, by omega, Nat.le_refl _, own_row_nil _ _ _ _, Below.refl _ _⟩
  case round =>
    obtain ⟨n, S, rfl, HS, hn, hSs, hown, hb⟩ := hrel
    by_cases hlt : z < S.size
    · have hm : (n + 1) * z = n * z + z := Nat.succ_mul n z
      obtain ⟨hS1, hS2, hS3⟩ := HS.out
      have HE := sh (show S.extract z S.size = str ((lst s).drop ((n + 1) * z)) from by rw [hS1, exS, List.drop_drop, size_str, hm, List.take_of_length_le (by simp; omega)])
      have HP := sh (show S.extract 0 z = str (piece z (lst s) n) from by rw [hS1, exS, List.drop_zero]; rfl)
      have hn2 : n + 1 ≤ s.size := by
        have : n * 1 ≤ n * z := Nat.mul_le_mul_left n hz
        omega
      obtain ⟨T, hT⟩ : ∃ T, S.extract 0 z = T := ⟨_, rfl⟩
      obtain ⟨R, hR⟩ : ∃ R, S.extract z S.size = R := ⟨_, rfl⟩
      have hRs : R.size = S.size - z := by rw [← hR, ByteArray.size_extract]; omega
      have hTs : T.size = z := by rw [← hT, ByteArray.size_extract]; omega
      have HST := sh (show strs n (piece z (lst s)) ++ [Value.string T] = strs (n + 1) (piece z (lst s)) from by rw [strs_snoc, ← HP.out, hT])
      rw [hR] at HE
      have HSZ := sh (show R.size = s.size - (n + 1) * z ∧ ((n + 1) = 0 ∨ (n + 1) * z < s.size) from by rw [hRs, hm]; exact ⟨by omega, .inr (by omega)⟩)
      clear hS1 hS2 hS3 hm
      go_wp2_with (at_builtin; refine wpList_append_own _ rfl _ _ 70 rfl w.heap.size 9 i9 (.string ⟨#[]⟩) 1 16 Try.underlying70 ha0 ha1 ha2 ha3 rfl (by decide) _ n _ rfl (hown.alloc _) ⟨wr.heap.size, 0, none⟩ 1 1 [.string T] rfl rfl (cell_one _ _ _) (by simp [Value.oneCell']) (by unfold maxLen; omega) (by omega) (by have := hb.size; simp; omega) ?_; intro v1 w1 hown1 hg1 _; have hb1 := below_append (hb.alloc hb.size _) (hown.alloc _) (by have := hb.size; simp; omega) hg1; rw [HST.out] at hown1)
      go_roundw
      case rel => exact ⟨n + 1, R, rfl, ⟨HE.out, HSZ.out⟩, by omega, by omega, hown1, hb1⟩
      case measure =>
        show R.size < S.size
        omega
    · obtain ⟨hS1, hS2, hS3⟩ := HS.out
      have HK := sh (pieces_eq (z := z) (n := n) (L := s.size) hz (by omega) hS3)
      have HST := sh (show strs n (piece z (lst s)) ++ [Value.string S] = strs (n + 1) (piece z (lst s)) from by
        rw [strs_snoc, piece_last (by rw [← HL.out]; omega), ← hS1])
      have hSs2 : S.size ≤ 1000000 := by omega
      clear hS1 hS2 hS3 HS
      by_cases hk : 1024 < n + 1
      · go_wp2_with (at_builtin; refine wpList_append_own _ rfl _ _ 70 rfl w.heap.size 9 i9 (.string ⟨#[]⟩) 1 16 Try.underlying70 ha0 ha1 ha2 ha3 rfl (by decide) _ n _ rfl (hown.alloc _) ⟨wr.heap.size, 0, none⟩ 1 1 [.string S] rfl rfl (cell_one _ _ _) (by simp [Value.oneCell']) (by unfold maxLen; omega) (by omega) (by have := hb.size; simp; omega) ?_; intro v1 w1 hown1 hg1 _; have hb1 := below_append (hb.alloc hb.size _) (hown.alloc _) (by have := hb.size; simp; omega) hg1; rw [HST.out] at hown1; obtain ⟨g, cp, rfl⟩ := ownsRow_succ hown1)
        go_ret2
        exact .inl ⟨by rw [HK.out]; exact hk, rfl, hb1⟩
      · go_wp2_with (at_builtin; refine wpList_append_own _ rfl _ _ 70 rfl w.heap.size 9 i9 (.string ⟨#[]⟩) 1 16 Try.underlying70 ha0 ha1 ha2 ha3 rfl (by decide) _ n _ rfl (hown.alloc _) ⟨wr.heap.size, 0, none⟩ 1 1 [.string S] rfl rfl (cell_one _ _ _) (by simp [Value.oneCell']) (by unfold maxLen; omega) (by omega) (by have := hb.size; simp; omega) ?_; intro v1 w1 hown1 hg1 _; have hb1 := below_append (hb.alloc hb.size _) (hown.alloc _) (by have := hb.size; simp; omega) hg1; rw [HST.out] at hown1; obtain ⟨g, cp, rfl⟩ := ownsRow_succ hown1)
        clear hown HST
        have hki : ¬ (1024 : Int) < (n : Int) + 1 := by omega
        have hn9 : n ≤ 1000000 := by omega
        go_loopw [9, 10] (fun v9 v10 wr2 => ∃ i : Nat, i ≤ (n + 1) ∧ v10 = .int .i64 (i : Int) ∧ wr2.ownsRow w.heap.size 31 4 v9 i (pcs id ((n : Int) + 1) i (piece z (lst s))) ∧ wr2.ownsRow w.heap.size 9 1 (.slice (some ⟨g, 0, none⟩) (n + 1) cp) (n + 1) (strs (n + 1) (piece z (lst s))) ∧ Below w.heap.size w wr2) (fun _ v10 _ => (n + 1) - (intOf v10).toNat)
        case atStart => exact ⟨0, by omega, rfl, own_row_nil _ _ _ _, hown1, hb1⟩
        case round =>
          obtain ⟨i, hi, rfl, ho, hto, hbr⟩ := hrel
          by_cases hik : i < (n + 1)
          · have hce := hto.cells (g := g) rfl i (.string (str (piece z (lst s) i))) (by simp [strs, hik])
            have hPC := sh (show pcs id ((n : Int) + 1) i (piece z (lst s)) ++ [.int .i64 id, .int .i64 (i : Int), .int .i64 ((n : Int) + 1), .string (str (piece z (lst s) i))] = pcs id ((n : Int) + 1) (i + 1) (piece z (lst s)) from by rw [pcs_snoc]; rfl)
            obtain ⟨T, hT⟩ : ∃ T, str (piece z (lst s) i) = T := ⟨_, rfl⟩
            rw [hT] at hce hPC
            rw [show (⟨g, 0, none⟩ : Addr).add i = ⟨g, i, none⟩ by unfold Addr.add; split <;> simp_all] at hce
            clear hT
            have hne := own_ne hto ho (by decide)
            have hin : (i : Int) < (n : Int) + 1 := by omega
            go_wp2_with (at_builtin; refine wpList_append_own _ rfl _ _ 27 rfl w.heap.size 31 i31 (.agg #[.int .i64 0, .int .i64 0, .int .i64 0, .string ⟨#[]⟩]) 4 40 Try.underlying27 hb0 hb1' hb2 hb3 rfl (by decide) _ i _ rfl (ho.alloc _) ⟨wr.heap.size, 0, none⟩ 1 1 [.int .i64 id, .int .i64 (i : Int), .int .i64 ((n : Int) + 1), .string T] rfl rfl (cells_new _ _ _) (by simp [Value.oneCell']) (by unfold maxLen; omega) (by omega) (by have := hbr.size; simp; omega) ?_; intro v2 w2 hown2 hg2 _; have hb2' := below_append (hbr.alloc hbr.size _) (ho.alloc _) (by have := hbr.size; simp; omega) hg2; rw [hPC.out] at hown2; have hto2 := (hto.alloc _).kept hg2 hne)
            go_roundw
            case rel =>
              refine ⟨i + 1, by omega, by go_num, ?_⟩
              first
                | exact ⟨hown2, hto2, hb2'⟩
                | exact hown2
                | (trace_state; simp_all)
            case measure => simp [intOf]; omega
          · have hiK : i = (n + 1) := by omega
            have hin : ¬ (i : Int) < (n : Int) + 1 := by omega
            rw [hiK] at ho
            go_wp2
            go_ret2
            exact .inr ⟨by rw [HK.out]; omega, _, rfl, by rw [HK.out]; exact ho, hbr⟩
end Go.Proofs.Ytoclbcpfiacoaaa
