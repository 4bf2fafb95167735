/- hexes.place at 0, the sign of a byte, and a dump's line at 0: contracts. -/
import Derived.Test.YtlmddmkobhkndaaHBytes
namespace Go.Proofs.Ytlmddmkobhkndaa
set_option linter.unusedVariables false
set_option linter.unusedSimpArgs false
open Go.RowKit

/-- a row of bytes in block g, made a string -/
theorem conv_atT {g : Nat} {l : List UInt8} {W : World} (c : Nat) (h : ∀ j b, l[j]? = some b → W.cell? ⟨g, j, none⟩ = some (.int .u8 (b.toNat : Int))) :
    (convert 40 9 (.slice (some ⟨g, 0, none⟩) l.length c)).run Try.prog W = .ok (.string (str l)) W := by
  refine run_convert_bytes_back W 40 9 5 ⟨g, 0, none⟩ c l Try.underlying40 Try.underlying5 Try.underlying9 (fun j hj => ?_)
  have : (⟨g, 0, none⟩ : Addr).add j = ⟨g, j, none⟩ := by unfold Addr.add; split <;> simp_all
  rw [this]
  exact h j _ (List.getElem?_eq_getElem hj)
set_option maxHeartbeats 1000000 in
set_option maxRecDepth 100000 in
theorem place0 (w : World) : Calls Try.prog 49 #[.int .i64 0] w fun e w' => e = .returned (.string ⟨#[48, 48, 48, 48, 48, 48, 48, 48]⟩) ∧ Below w.heap.size w w' := by
  obtain ⟨i0, hi0, hz0, hz1, hz2⟩ := info_parts info5
  have hmk : (Instr.makeSlice 40 (.int .i64 8) (.int .i64 8)).run Try.prog w = .ok (.slice (some ⟨w.heap.size, 0, none⟩) 8 8) (w.alloc (.cells (Array.replicate 8 (.int .u8 0)) 5)) := by
    have h := run_makeSlice (P := Try.prog) w 40 5 i0 (.int .u8 0) Try.underlying40 hi0 hz0 .i64 .i64 8 8 (by decide) (by decide) (by rw [hz1]; decide) (by rw [hz2]; decide) (by decide)
    rw [hz1, show madeCells (Value.int IntKind.u8 0).cells (Int.toNat 8 * 1) = Array.replicate 8 (.int .u8 0) from by kernel_rfl] at h
    exact h
  have hd0 := dig_at (n := 0) (by decide)
  go_enter Try.func49, Try.ntmps49
  go_wp2
  go_loopw [0, 4] (fun v0 v4 wr => ∃ (z : Int) (cs : Array Value), v0 = .int .i64 0 ∧ -1 ≤ z ∧ z ≤ 7 ∧ v4 = .int .i64 z ∧ Sh (Bk wr w.heap.size 5 cs ∧ cs.size = 8 ∧ ∀ t : Nat, z < (t : Int) → t < 8 → cs[t]? = some (.int .u8 48)) ∧ Below w.heap.size w wr) (fun _ v4 _ => (intOf v4 + 1).toNat)
  case atStart => exact ⟨7, _, rfl, by omega, by omega, rfl, ⟨Bk.made w 5 _, by simp, fun t h1 h2 => by omega⟩, (Below.refl _ w).alloc (Nat.le_refl _) _⟩
  case round =>
    obtain ⟨z, cs, rfl, hz0', hz7, rfl, HC, hb⟩ := hrel
    by_cases hlt : 0 ≤ z
    · obtain ⟨q, rfl⟩ := Int.eq_ofNat_of_zero_le hlt
      have hq7 : q ≤ 7 := by omega
      have hcl := HC.out.1.cell q
      have hfr := HC.out.1.free q
      have hsz := HC.out.2.1
      rw [Array.getElem?_eq_getElem (show q < cs.size by omega)] at hcl
      obtain ⟨u, hu⟩ : ∃ u, cs[q]'(by omega) = u := ⟨_, rfl⟩
      rw [hu] at hcl
      have HC2 : Sh (∀ W, Bk W w.heap.size 5 cs → Bk (W.setCell ⟨w.heap.size, q, none⟩ (.int .u8 48)) w.heap.size 5 (cs.setIfInBounds q (.int .u8 48))) := ⟨fun W h => h.put q _⟩
      have HC3 : Sh (∀ t : Nat, (q : Int) - 1 < (t : Int) → t < 8 → (cs.setIfInBounds q (.int .u8 48))[t]? = some (.int .u8 48)) := ⟨fun t h1 h2 => by
        rw [Array.getElem?_setIfInBounds]
        by_cases e : q = t
        · rw [if_pos e, if_pos (by omega)]
        · rw [if_neg e]; exact HC.out.2.2 t (by omega) h2⟩
      have HS8 := sh hsz
      clear hsz hu
      go_wp2
      go_roundw
      case rel => exact ⟨(q : Int) - 1, cs.setIfInBounds q (.int .u8 48), by go_num, by omega, by omega, by go_num, ⟨HC2.out _ HC.out.1, by rw [Array.size_setIfInBounds]; exact HS8.out, HC3.out⟩, hb.setCell (p := ⟨w.heap.size, q, none⟩) (Nat.le_refl _) _⟩
      case measure => simp [intOf]
    · have hz1' : z = -1 := by omega
      subst hz1'
      have hcv : (convert 40 9 (.slice (some ⟨w.heap.size, 0, none⟩) 8 8)).run Try.prog wr = .ok (.string ⟨#[48, 48, 48, 48, 48, 48, 48, 48]⟩) wr := conv_atT (g := w.heap.size) (l := [48, 48, 48, 48, 48, 48, 48, 48]) (W := wr) 8 (fun t b hb => by
        have ht : t < 8 := (List.getElem?_eq_some_iff.1 hb).1
        rw [HC.out.1.cell, HC.out.2.2 t (by omega) ht]
        have : ∀ t : Fin 8, [(48 : UInt8), 48, 48, 48, 48, 48, 48, 48][t.val]? = some 48 := by decide
        rw [this ⟨t, ht⟩] at hb
        cases hb; rfl)
      go_wp2
      go_ret
      exact ⟨rfl, hb⟩
def plainB (b : UInt8) : UInt8 := if b.toNat < 32 ∨ 126 < b.toNat then 46 else b
theorem plain_ok (b : UInt8) (w : World) : Calls Try.prog 50 #[.int .u8 (b.toNat : Int)] w fun e w' => e = .returned (.int .u8 ((plainB b).toNat : Int)) ∧ w = w' := by
  have hb := b.toNat_lt
  by_cases c1 : b.toNat < 32
  · have e : (plainB b) = 46 := by unfold plainB; rw [if_pos (.inl c1)]
    rw [e]
    have d1 : (b.toNat : Int) < 32 := by omega
    go_enter Try.func50, Try.ntmps50
    go_wp2
    go_ret
    exact ⟨rfl, rfl⟩
  · by_cases c2 : 126 < b.toNat
    · have e : (plainB b) = 46 := by unfold plainB; rw [if_pos (.inr c2)]
      rw [e]
      have d1 : ¬ (b.toNat : Int) < 32 := by omega
      have d2 : (126 : Int) < (b.toNat : Int) := by omega
      go_enter Try.func50, Try.ntmps50
      go_wp2
      go_ret
      exact ⟨rfl, rfl⟩
    · have e : (plainB b) = b := by unfold plainB; rw [if_neg (by omega)]
      rw [e]
      have d1 : ¬ (b.toNat : Int) < 32 := by omega
      have d2 : ¬ (126 : Int) < (b.toNat : Int) := by omega
      go_enter Try.func50, Try.ntmps50
      go_wp2
      go_ret
      exact ⟨rfl, rfl⟩
def lineL (l : List UInt8) : List UInt8 := [48, 48, 48, 48, 48, 48, 48, 48] ++ l.flatMap (fun b => 32 :: hex2 b) ++ [32, 32] ++ l.map plainB ++ [10]
set_option maxHeartbeats 2000000 in
set_option maxRecDepth 100000 in
theorem line0 (g o m c : Nat) (l : List UInt8) (hm : l.length = m) (hm16 : m ≤ 16) (hmc : m ≤ c) (w : World) (hg : g < w.heap.size) (hcl : ∀ j b, l[j]? = some b → w.cell? ⟨g, o + j, none⟩ = some (.int .u8 (b.toNat : Int))) :
    Calls Try.prog 35 #[.int .i64 0, .slice (some ⟨g, o, none⟩) m c] w fun e w' => e = .returned (.string (str (lineL l))) ∧ Below w.heap.size w w' := by
  go_enter Try.func35, Try.ntmps35
  go_wp2_with (go_at_call 49; refine (place0 _).mono ?_; rintro e' w1 ⟨rfl, hb1⟩)
  go_loopw [5, 15] (fun v5 v15 wr => ∃ (k : Nat) (S : ByteArray), k ≤ m ∧ S.size ≤ 8 + 3 * k ∧ v5 = .string S ∧ v15 = .int .i64 (k : Int) ∧ Sh (S = str ([48, 48, 48, 48, 48, 48, 48, 48] ++ (l.take k).flatMap (fun b => 32 :: hex2 b))) ∧ Below w.heap.size w wr) (fun _ v15 _ => m - (intOf v15).toNat)
  case atStart => exact ⟨0, _, by omega, by decide, rfl, rfl, ⟨rfl⟩, hb1⟩
  case round =>
    obtain ⟨k, S, hk, hS, rfl, rfl, HS, hb⟩ := hrel
    by_cases hlt : k < m
    · obtain ⟨b, hbk⟩ : ∃ b, l[k]? = some b := ⟨_, List.getElem?_eq_getElem (by omega)⟩
      have hc1 := (hb.cell (p := ⟨g, o + k, none⟩) hg).trans (hcl k b hbk)
      have h255 := b.toNat_lt
      have hcv := conv_one (P := Try.prog) Try.underlying40 Try.underlying5 Try.underlying9 (b.toNat : Int) (by omega) (by omega)
      have eb : str [UInt8.ofNat (b.toNat : Int).toNat] = str [b] := by rw [Int.toNat_natCast, UInt8.ofNat_toNat]
      rw [eb] at hcv
      have HH := sh (fun W => hex_ok (str [b]) (by rw [size_str]; simp) W)
      rw [lst_str] at HH
      obtain ⟨X, hX⟩ : ∃ X, str (hexL [b]) = X := ⟨_, rfl⟩
      have hXs : X.size = 2 := by rw [← hX, size_str, hexL_len]; rfl
      obtain ⟨Y, hY⟩ : ∃ Y, str [b] = Y := ⟨_, rfl⟩
      have HS2 : Sh (S ++ ((⟨#[32]⟩ : ByteArray) ++ X) = str ([48, 48, 48, 48, 48, 48, 48, 48] ++ (l.take (k + 1)).flatMap (fun b => 32 :: hex2 b))) := ⟨by
        rw [take_snoc hbk, HS.out, ← hX, show (⟨#[32]⟩ : ByteArray) = str [32] from rfl, str_append, str_append, List.flatMap_append]
        simp [hexL]⟩
      have hss : (S ++ ((⟨#[32]⟩ : ByteArray) ++ X)).size = S.size + 3 := by rw [ByteArray.size_append, ByteArray.size_append, hXs]; rfl
      rw [hX, hY] at HH
      rw [hY] at hcv
      clear hX hY eb hbk HS
      go_wp2_with (go_at_call 6; refine (HH.out _).mono ?_; rintro e' w2 ⟨rfl, hb2⟩)
      go_roundw
      case rel => exact ⟨k + 1, _, by omega, by rw [hss]; omega, rfl, by go_num, HS2, (hb.alloc hb.size _).trans (hb2.mono (by have := hb.size; simp; omega))⟩
      case measure => simp [intOf]; omega
    · have hkm : k = m := by omega
      subst hkm
      have HSm : Sh (S = str ([48, 48, 48, 48, 48, 48, 48, 48] ++ l.flatMap (fun b => 32 :: hex2 b))) := ⟨by rw [HS.out, List.take_of_length_le (by omega)]⟩
      have hSs : S.size ≤ 100 := by omega
      clear HS hS
      go_wp2_with fail
      go_loopw [5, 31] (fun v5 v31 wr2 => ∃ (j : Nat) (R : ByteArray), j ≤ k ∧ R.size ≤ S.size + 2 + j ∧ v5 = .string R ∧ v31 = .int .i64 (j : Int) ∧ Sh (R = str ([48, 48, 48, 48, 48, 48, 48, 48] ++ l.flatMap (fun b => 32 :: hex2 b) ++ [32, 32] ++ (l.take j).map plainB)) ∧ Below w.heap.size w wr2) (fun _ v31 _ => k - (intOf v31).toNat)
      case atStart => exact ⟨0, _, by omega, by rw [ByteArray.size_append]; exact Nat.le_refl _, rfl, rfl, ⟨by rw [HSm.out, show (⟨#[32, 32]⟩ : ByteArray) = str [32, 32] from rfl, str_append]; simp⟩, hb⟩
      case round =>
        obtain ⟨j, R, hj, hR, rfl, rfl, HR, hbr⟩ := hrel
        by_cases hjt : j < k
        · obtain ⟨b, hbk⟩ : ∃ b, l[j]? = some b := ⟨_, List.getElem?_eq_getElem (by omega)⟩
          have hc1 := (hbr.cell (p := ⟨g, o + j, none⟩) hg).trans (hcl j b hbk)
          have h255 := b.toNat_lt
          have p255 := (plainB b).toNat_lt
          have HP := sh (fun W => plain_ok b W)
          have hcv := conv_one (P := Try.prog) Try.underlying40 Try.underlying5 Try.underlying9 ((plainB b).toNat : Int) (by omega) (by omega)
          have eb : str [UInt8.ofNat ((plainB b).toNat : Int).toNat] = str [plainB b] := by rw [Int.toNat_natCast, UInt8.ofNat_toNat]
          rw [eb] at hcv
          obtain ⟨Y, hY⟩ : ∃ Y, str [plainB b] = Y := ⟨_, rfl⟩
          have hYs : Y.size = 1 := by rw [← hY, size_str]; rfl
          have HR2 : Sh (R ++ Y = str ([48, 48, 48, 48, 48, 48, 48, 48] ++ l.flatMap (fun b => 32 :: hex2 b) ++ [32, 32] ++ (l.take (j + 1)).map plainB)) := ⟨by
            rw [take_snoc hbk, HR.out, ← hY, str_append, List.map_append]
            simp⟩
          rw [hY] at hcv
          clear hY eb hbk HR
          go_wp2_with (go_at_call 50; refine (HP.out _).mono ?_; rintro e' w2 ⟨rfl, rfl⟩)
          go_roundw
          case rel => exact ⟨j + 1, _, by omega, by rw [ByteArray.size_append, hYs]; omega, rfl, by go_num, HR2, hbr.alloc hbr.size _⟩
          case measure => simp [intOf]; omega
        · have HE : Sh (R ++ (⟨#[10]⟩ : ByteArray) = str (lineL l)) := ⟨by rw [HR.out, List.take_of_length_le (by omega), show (⟨#[10]⟩ : ByteArray) = str [10] from rfl, str_append]; rfl⟩
          go_wp2
          go_ret
          exact ⟨ret_str HE.out, hbr⟩
end Go.Proofs.Ytlmddmkobhkndaa
