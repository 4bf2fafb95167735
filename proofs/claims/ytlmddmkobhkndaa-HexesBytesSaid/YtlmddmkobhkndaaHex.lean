/- hexes.Hex, the reference's digit, value and Hex: contracts. -/
import Derived.Test.YtlmddmkobhkndaaBld
namespace Go.Proofs.Ytlmddmkobhkndaa
set_option linter.unusedVariables false
set_option linter.unusedSimpArgs false
open Go.RowKit
open Go.Lib hiding intOf

def dgs : List UInt8 := [48, 49, 50, 51, 52, 53, 54, 55, 56, 57, 97, 98, 99, 100, 101, 102]
def dig (n : Nat) : UInt8 := dgs.getD n 0
def hex2 (b : UInt8) : List UInt8 := [dig (b.toNat / 16), dig (b.toNat % 16)]
def hexL (l : List UInt8) : List UInt8 := l.flatMap hex2
theorem hexL_snoc (l : List UInt8) (b : UInt8) : hexL (l ++ [b]) = hexL l ++ hex2 b := by simp [hexL]
theorem hexL_len (l : List UInt8) : (hexL l).length = 2 * l.length := by
  induction l with
  | nil => rfl
  | cons b l ih =>
    show (hex2 b ++ hexL l).length = _
    rw [List.length_append, ih]; simp [hex2]; omega
theorem dig_fin : ∀ n : Fin 16, ∀ hk : n.val < (⟨#[48, 49, 50, 51, 52, 53, 54, 55, 56, 57, 97, 98, 99, 100, 101, 102]⟩ : ByteArray).size, (⟨#[48, 49, 50, 51, 52, 53, 54, 55, 56, 57, 97, 98, 99, 100, 101, 102]⟩ : ByteArray)[n.val]'hk = dig n.val := by decide
theorem dig_at {n : Nat} (h : n < 16) : ∀ hk : n < (⟨#[48, 49, 50, 51, 52, 53, 54, 55, 56, 57, 97, 98, 99, 100, 101, 102]⟩ : ByteArray).size, (⟨#[48, 49, 50, 51, 52, 53, 54, 55, 56, 57, 97, 98, 99, 100, 101, 102]⟩ : ByteArray)[n]'hk = dig n := fun hk => dig_fin ⟨n, h⟩ hk
theorem str_at {s : ByteArray} {k : Nat} {b : UInt8} (h : (lst s)[k]? = some b) : ∀ hk : k < s.size, s[k]'hk = b := by
  intro hk
  have := (List.getElem?_eq_some_iff.1 h).2
  rw [← this]
  simp [lst, ByteArray.getElem_eq_getElem_data]
theorem take_snoc {l : List UInt8} {k : Nat} {b : UInt8} (h : l[k]? = some b) : l.take (k + 1) = l.take k ++ [b] := by
  obtain ⟨hk, rfl⟩ := List.getElem?_eq_some_iff.1 h
  exact (List.take_append_getElem hk).symm
theorem cellsB_eq (l : List UInt8) : cellsB l = byteCells l := rfl
theorem byteCells_snoc (l : List UInt8) (b : UInt8) : byteCells (l ++ [b]) = byteCells l ++ [.int .u8 (b.toNat : Int)] := by simp [byteCells]

set_option maxHeartbeats 2000000 in
set_option maxRecDepth 100000 in
theorem hex_ok (s : ByteArray) (hs : s.size ≤ 1000000) (w : World) : Calls Try.prog 6 #[.string s] w fun e w' => e = .returned (.string (str (hexL (lst s)))) ∧ Below w.heap.size w w' := by
  have HL := sh (size_lst s)
  have HF : IsBuilderF 42 5 w.heap.size w.heap.size (byteCells []) (w.alloc (.cells #[.pointer none, .slice none 0 0] 42)) := IsBuilderF.of (fresh_isBuilder 42 5 w)
  go_enter Try.func6, Try.ntmps6
  go_wp2
  go_loopw [7] (fun v7 wr => ∃ k : Nat, k ≤ s.size ∧ v7 = .int .i64 (k : Int) ∧ Sh (IsBuilderF 42 5 w.heap.size w.heap.size (byteCells (hexL ((lst s).take k))) wr) ∧ Below w.heap.size w wr) (fun v7 _ => s.size - (RowKit.intOf v7).toNat)
  case atStart => exact ⟨0, by omega, rfl, ⟨HF⟩, (Below.refl _ w).alloc (Nat.le_refl _) _⟩
  case round =>
    obtain ⟨k, hk, rfl, HB, hb⟩ := hrel
    by_cases hlt : k < s.size
    · obtain ⟨b, hbk⟩ : ∃ b, (lst s)[k]? = some b := ⟨_, List.getElem?_eq_getElem (by rw [← HL.out]; exact hlt)⟩
      have hsb := str_at hbk
      have hb255 := b.toNat_lt
      have HT : Sh (hexL ((lst s).take (k + 1)) = (hexL ((lst s).take k) ++ [dig (b.toNat / 16)]) ++ [dig (b.toNat % 16)]) := ⟨by rw [take_snoc hbk, hexL_snoc]; simp [hex2]⟩
      have hlen : (hexL ((lst s).take k)).length ≤ 2000000 := by rw [hexL_len, List.length_take]; omega
      have d1 := dig_at (n := b.toNat / 16) (by omega)
      have d2 := dig_at (n := b.toNat % 16) (by omega)
      have HW1 := sh (fun W h hB => wbyte w.heap.size w.heap.size (byteCells (hexL ((lst s).take k))) ((dig (b.toNat / 16)).toNat : Int) W h (by rw [byteCells_length]; omega) hB)
      have HW2 := sh (fun W h hB => wbyte w.heap.size w.heap.size (byteCells (hexL ((lst s).take k) ++ [dig (b.toNat / 16)])) ((dig (b.toNat % 16)).toNat : Int) W h (by rw [byteCells_length]; simp; omega) hB)
      go_wp2_with (first
        | (go_at_call 17; refine (HW1.out _ HB.out hb.size).mono ?_; clear HW1; rintro e' w1 ⟨rfl, h1, hb1, _⟩; rw [← byteCells_snoc] at h1; have t1 := hb.trans hb1)
        | (go_at_call 17; refine (HW2.out _ (.inr h1) t1.size).mono ?_; clear HW2; rintro e' w2 ⟨rfl, h2, hb2, _⟩; rw [← byteCells_snoc] at h2; have t2 := t1.trans hb2))
      rw [← HT.out] at h2
      go_roundw
      case rel => exact ⟨k + 1, by omega, by go_num, ⟨.inr h2⟩, t2⟩
      case measure => simp [RowKit.intOf]; omega
    · have HE : Sh ((lst s).take k = lst s) := ⟨List.take_of_length_le (by rw [← HL.out]; omega)⟩
      rw [HE.out] at HB
      have HSt := sh (fun W h hB => Try.Builder_String_any_k w.heap.size w.heap.size (hexL (lst s)) W h hB)
      go_wp2_with (go_at_call 18; refine (HSt.out _ HB.out hb.size).mono ?_; rintro e' w1 ⟨rfl, h1, hb1, _⟩)
      go_ret
      exact ⟨rfl, hb.trans hb1⟩

theorem rdig (n : Nat) (h : n < 16) (w : World) : Calls Try.prog 22 #[.int .i64 (n : Int)] w fun e w' => e = .returned (.string (str [dig n])) ∧ w = w' := by
  have hx : (⟨#[48, 49, 50, 51, 52, 53, 54, 55, 56, 57, 97, 98, 99, 100, 101, 102]⟩ : ByteArray).extract n (n + 1) = str [dig n] := by
    have : ∀ n : Fin 16, (⟨#[48, 49, 50, 51, 52, 53, 54, 55, 56, 57, 97, 98, 99, 100, 101, 102]⟩ : ByteArray).extract n.val (n.val + 1) = str [dig n.val] := by decide
    exact this ⟨n, h⟩
  go_enter Try.func22, Try.ntmps22
  go_wp2
  go_ret
  exact ⟨rfl, rfl⟩
theorem rdigQ (n : Nat) (h : n < 16) (w : World) : Calls Try.prog 22 #[.int .i64 (n : Int)] w fun e w' => e = .returned (.string (str [dig n])) ∧ w' = w :=
  (rdig n h w).mono fun e w' ⟨a, b⟩ => ⟨a, b.symm⟩

def val (b : UInt8) : Int := Lib.indexByte dgs b
theorem val_dig : ∀ v : Fin 16, val (dig v.val) = (v.val : Int) := by decide
theorem val_hit {v : Nat} (h : v < 16) {b : UInt8} (e : dig v = b) : val b = (v : Int) := by rw [← e]; exact val_dig ⟨v, h⟩
theorem index_none : ∀ (l : List UInt8) (c : UInt8), c ∉ l → Lib.indexByte l c = -1
  | [], _, _ => rfl
  | b :: l, c, h => by
    have h1 : (b == c) = false := by rw [beq_eq_false_iff_ne]; rintro rfl; exact h (by simp)
    have h2 := index_none l c (fun hm => h (by simp [hm]))
    simp [Lib.indexByte, h1, h2]
theorem val_none {b : UInt8} (h : ∀ j, j < 16 → dig j ≠ b) : val b = -1 := by
  refine index_none _ _ fun hm => ?_
  obtain ⟨j, hj, e⟩ := List.getElem_of_mem hm
  refine h j (by simpa [dgs] using hj) ?_
  unfold dig
  rw [List.getD_eq_getElem?_getD, List.getElem?_eq_getElem hj]; exact e
theorem val_range (b : UInt8) : val b = -1 ∨ ∃ v : Nat, v < 16 ∧ val b = (v : Int) ∧ dig v = b := by
  by_cases h : ∃ j, j < 16 ∧ dig j = b
  · obtain ⟨j, hj, e⟩ := h
    exact .inr ⟨j, hj, val_hit hj e, e⟩
  · exact .inl (val_none fun j hj e => h ⟨j, hj, e⟩)
set_option maxHeartbeats 1000000 in
theorem rval (b : UInt8) (w : World) : Calls Try.prog 21 #[.int .u8 (b.toNat : Int)] w fun e w' => e = .returned (.int .i64 (val b)) ∧ w = w' := by
  go_enter Try.func21, Try.ntmps21
  go_wp2
  go_loop [3] (fun v3 => ∃ k : Nat, k ≤ 16 ∧ Sh (∀ j, j < k → dig j ≠ b) ∧ v3 = .int .i64 (k : Int)) (fun v3 => 16 - (RowKit.intOf v3).toNat)
  case atStart => exact ⟨0, by omega, ⟨fun j hj => by omega⟩, rfl⟩
  case round =>
    obtain ⟨k, hk, HX, rfl⟩ := hrel
    by_cases hlt : k < 16
    · have HD := sh (fun W => rdig k hlt W)
      obtain ⟨D, hD⟩ : ∃ D, str [dig k] = D := ⟨_, rfl⟩
      have hD0 : ∀ hk : 0 < D.size, D[0]'hk = dig k := by subst hD; intro hk; rfl
      have hDs : D.size = 1 := by rw [← hD]; rfl
      rw [hD] at HD
      clear hD
      by_cases e : dig k = b
      · have HV : Sh (val b = (k : Int)) := ⟨val_hit hlt e⟩
        have hbq : (((dig k).toNat : Int) == (b.toNat : Int)) = true := by rw [beq_iff_eq, e]
        clear HX e
        go_wp2_with (go_at_call 22; refine (HD.out _).mono ?_; rintro e' w1 ⟨rfl, rfl⟩)
        go_ret
        exact ⟨ret_int HV.out.symm, rfl⟩
      · have HX2 : Sh (∀ j, j < k + 1 → dig j ≠ b) := ⟨fun j hj => by
          by_cases ej : j = k
          · subst ej; exact e
          · exact HX.out j (by omega)⟩
        have hbq : (((dig k).toNat : Int) == (b.toNat : Int)) = false := by
          rw [beq_eq_false_iff_ne]
          intro h
          exact e (UInt8.toNat_inj.1 (by omega))
        clear HX e
        go_wp2_with (go_at_call 22; refine (HD.out _).mono ?_; rintro e' w1 ⟨rfl, rfl⟩)
        go_round
        case rel => exact ⟨k + 1, by omega, HX2, by go_num⟩
        case measure => simp [RowKit.intOf]; omega
    · have HV : Sh (val b = -1) := ⟨val_none fun j hj => HX.out j (by omega)⟩
      go_wp2
      go_ret
      exact ⟨ret_int HV.out.symm, rfl⟩
theorem rvalQ (b : UInt8) (w : World) : Calls Try.prog 21 #[.int .u8 (b.toNat : Int)] w fun e w' => e = .returned (.int .i64 (val b)) ∧ w' = w :=
  (rval b w).mono fun e w' ⟨a, b⟩ => ⟨a, b.symm⟩
set_option maxHeartbeats 1000000 in
set_option maxRecDepth 100000 in
theorem rhex (s : ByteArray) (hs : s.size ≤ 1000000) (w : World) : Calls Try.prog 9 #[.string s] w fun e w' => e = .returned (.string (str (hexL (lst s)))) ∧ Below w.heap.size w w' := by
  have HL := sh (size_lst s)
  go_enter Try.func9, Try.ntmps9
  go_wp2
  go_loopw [3, 4] (fun v3 v4 wr => ∃ (k : Nat) (S : ByteArray), k ≤ s.size ∧ S.size ≤ 2 * k ∧ v3 = .string S ∧ v4 = .int .i64 (k : Int) ∧ Sh (S = str (hexL ((lst s).take k))) ∧ Below w.heap.size w wr) (fun _ v4 _ => s.size - (RowKit.intOf v4).toNat)
  case atStart => exact ⟨0, ⟨#[]⟩, by omega, Nat.zero_le _, rfl, rfl, ⟨rfl⟩, Below.refl _ _⟩
  case round =>
    obtain ⟨k, S, hk, hS, rfl, rfl, HS, hb⟩ := hrel
    by_cases hlt : k < s.size
    · obtain ⟨b, hbk⟩ : ∃ b, (lst s)[k]? = some b := ⟨_, List.getElem?_eq_getElem (by rw [← HL.out]; exact hlt)⟩
      have hsb := str_at hbk
      have hb255 := b.toNat_lt
      obtain ⟨D1, hD1⟩ : ∃ D, str [dig (b.toNat / 16)] = D := ⟨_, rfl⟩
      obtain ⟨D2, hD2⟩ : ∃ D, str [dig (b.toNat % 16)] = D := ⟨_, rfl⟩
      have hs1 : D1.size = 1 := by rw [← hD1]; rfl
      have hs2 : D2.size = 1 := by rw [← hD2]; rfl
      have HT : Sh (S ++ D1 ++ D2 = str (hexL ((lst s).take (k + 1)))) := ⟨by rw [take_snoc hbk, hexL_snoc, HS.out, ← hD1, ← hD2, str_append, str_append]; simp [hex2]⟩
      obtain ⟨q1, hq1, hq1', hq16⟩ : ∃ q : Nat, (b.toNat : Int).tdiv 16 = (q : Int) ∧ (b.toNat : Int) / 16 = (q : Int) ∧ q = b.toNat / 16 := ⟨b.toNat / 16, by rw [Int.tdiv_eq_ediv_of_nonneg (by omega)]; omega, by omega, rfl⟩
      obtain ⟨q2, hq2, hq2', hq26⟩ : ∃ q : Nat, (b.toNat : Int).tmod 16 = (q : Int) ∧ (b.toNat : Int) % 16 = (q : Int) ∧ q = b.toNat % 16 := ⟨b.toNat % 16, by rw [Int.tmod_eq_emod_of_nonneg (by omega)]; omega, by omega, rfl⟩
      have C1 := sh (fun W => rdigQ q1 (by omega) W)
      have C2 := sh (fun W => rdigQ q2 (by omega) W)
      rw [hq16, hD1, ← hq16] at C1
      rw [hq26, hD2, ← hq26] at C2
      clear hD1 hD2 hq16 hq26 hbk HS
      go_wp2_with fail
      go_quiet ((go_at_call 22; first | exact Calls.quiet_of_same (C1.out _) | exact Calls.quiet_of_same (C2.out _)))
      all_goals go_wp2_with fail
      go_roundw
      case rel => exact ⟨k + 1, S ++ D1 ++ D2, by omega, by rw [ByteArray.size_append, ByteArray.size_append]; omega, rfl, by go_num, HT, below_drewN hb _⟩
      case measure => simp [RowKit.intOf]; omega
    · have HE : Sh (S = str (hexL (lst s))) := ⟨by rw [HS.out, List.take_of_length_le (by rw [← HL.out]; omega)]⟩
      go_wp2
      go_ret
      exact ⟨ret_str HE.out, hb⟩
end Go.Proofs.Ytlmddmkobhkndaa
