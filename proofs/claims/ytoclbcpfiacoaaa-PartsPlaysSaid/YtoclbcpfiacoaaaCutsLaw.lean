/- PartsCuts: the walk of the statement, given that the document's example is alive. -/
import Derived.Test.YtoclbcpfiacoaaaRCut
import Derived.Deep.QuietTactic
import Derived.BigQuiet
import Derived.StillTailTactics
import Derived.Deep.RegionWith
namespace Go.Proofs.Ytoclbcpfiacoaaa
set_option linter.unusedVariables false
set_option linter.unusedSimpArgs false
open Go.RowKit

set_option maxHeartbeats 1000000 in
theorem plain_part (a b c : Int) (t : ByteArray) (w : World) : Calls Try.prog 12 #[.agg #[.int .i64 a, .int .i64 b, .int .i64 c, .string t]] w fun e w' => e = .returned (.agg #[.int .i64 a, .int .i64 b, .int .i64 c, .string t]) ∧ Below w.heap.size w w' := by
  go_enter Try.func12, Try.ntmps12
  go_wp2
  refine bodyPost_ret (v := .agg #[.int .i64 a, .int .i64 b, .int .i64 c, .string t]) ?_ rfl ⟨rfl, ((Below.refl _ w).alloc (Nat.le_refl _) _).alloc (by simp) _⟩
  simp [results, Try.results12, go_sem]
theorem pcs_at {id of : Int} {f : Nat → List UInt8} : ∀ {n i : Nat}, i < n → (pcs id of n f)[i * 4]? = some (.int .i64 id) ∧ (pcs id of n f)[i * 4 + 1]? = some (.int .i64 (i : Int)) ∧ (pcs id of n f)[i * 4 + 2]? = some (.int .i64 of) ∧ (pcs id of n f)[i * 4 + 3]? = some (.string (str (f i)))
  | 0, i, h => by omega
  | n + 1, i, h => by
    rw [pcs_snoc]
    by_cases c : i < n
    · have hl := pcs_len id of n f
      have := pcs_at (id := id) (of := of) (f := f) c
      rw [List.getElem?_append_left (by omega), List.getElem?_append_left (by omega), List.getElem?_append_left (by omega), List.getElem?_append_left (by omega)]
      exact this
    · have e : i = n := by omega
      subst e
      have hl := pcs_len id of i f
      rw [List.getElem?_append_right (by omega), List.getElem?_append_right (by omega), List.getElem?_append_right (by omega), List.getElem?_append_right (by omega), hl]
      rw [show i * 4 - i * 4 = 0 by omega, show i * 4 + 1 - i * 4 = 1 by omega, show i * 4 + 2 - i * 4 = 2 by omega, show i * 4 + 3 - i * 4 = 3 by omega]
      exact ⟨rfl, rfl, rfl, rfl⟩
theorem own_cells4 {W : World} {B : Nat} {e : TypeId} {g n cap : Nat} {id of : Int} {f : Nat → List UInt8} (h : W.ownsRow B e 4 (.slice (some ⟨g, 0, none⟩) n cap) n (pcs id of n f)) {i : Nat} (hi : i < n) :
    W.cell? ⟨g, i * 4, none⟩ = some (.int .i64 id) ∧ W.cell? ⟨g, i * 4 + 1, none⟩ = some (.int .i64 (i : Int)) ∧ W.cell? ⟨g, i * 4 + 2, none⟩ = some (.int .i64 of) ∧ W.cell? ⟨g, i * 4 + 3, none⟩ = some (.string (str (f i))) := by
  obtain ⟨h0, h1, h2, h3⟩ := pcs_at (id := id) (of := of) (f := f) hi
  have ea : ∀ j, (⟨g, 0, none⟩ : Addr).add j = ⟨g, j, none⟩ := fun j => by unfold Addr.add; split <;> simp_all
  refine ⟨?_, ?_, ?_, ?_⟩
  · rw [← ea]; exact h.cells (g := g) rfl _ _ h0
  · rw [← ea]; exact h.cells (g := g) rfl _ _ h1
  · rw [← ea]; exact h.cells (g := g) rfl _ _ h2
  · rw [← ea]; exact h.cells (g := g) rfl _ _ h3
theorem slice_form {W : World} {B : Nat} {e : TypeId} {sz n : Nat} {v : Value} {xs : List Value} (h : W.ownsRow B e sz v n xs) (hn : 1 ≤ n) : ∃ g cp, v = .slice (some ⟨g, 0, none⟩) n cp ∧ g < W.heap.size := by
  rcases h.2 with ⟨_, h0⟩ | ⟨g, cp, cur, rfl, _, hg, _⟩
  · omega
  · exact ⟨g, cp, rfl, (Array.getElem?_eq_some_iff.1 hg).1⟩
theorem pieces_empty {z : Nat} (hz : 1 ≤ z) : pieces z 0 = 1 := by
  unfold pieces
  have : (0 + z - 1) / z = 0 := Nat.div_eq_of_lt (by omega)
  omega
/-- parts.Cut, all at once, at a number and a size that may be -/
theorem cut_all (id : Int) (z : Nat) (s : ByteArray) (hs : s.size ≤ 1000000) (hid : 0 ≤ id ∧ id ≤ 2147483647) (hz : 1 ≤ z) (hz2 : z ≤ 65536) (w : World) : Calls Try.prog 10 #[.int .i64 id, .string s, .int .i64 (z : Int)] w fun e w' =>
    (1024 < pieces z s.size ∧ e = .returned (.tuple #[.slice none 0 0, .int .i64 4]) ∧ Below w.heap.size w w') ∨
    (pieces z s.size ≤ 1024 ∧ ∃ v, e = .returned (.tuple #[v, .int .i64 0]) ∧ w'.ownsRow w.heap.size 33 4 v (pieces z s.size) (pcs id (pieces z s.size : Nat) (pieces z s.size) (piece z (lst s))) ∧ Below w.heap.size w w') := by
  by_cases h0 : s.size = 0
  · have hl : lst s = [] := List.eq_nil_of_length_eq_zero (by rw [← size_lst]; exact h0)
    have es : s = ⟨#[]⟩ := by rw [← str_lst s, hl]; rfl
    have hp : pieces z s.size = 1 := by rw [h0]; exact pieces_empty hz
    rw [hp, hl, es]
    refine (cut_empty id z hid hz hz2 w).mono fun e w' ⟨v, h1, h2, h3⟩ => .inr ⟨by omega, v, h1, h2, h3⟩
  · have hp : pieces z s.size = (s.size + z - 1) / z := by
      have : 1 ≤ (s.size + z - 1) / z := (Nat.one_le_div_iff (by omega)).2 (by omega)
      unfold pieces; omega
    by_cases hm : 1024 < (s.size + z - 1) / z
    · exact (cut_many id z s hs hid hz hz2 hm w).mono fun e w' ⟨h1, h2⟩ => .inl ⟨by omega, h1, h2⟩
    · rw [hp]
      exact (cut_ok id z s (by omega) hs hid hz hz2 (by omega) w).mono fun e w' ⟨v, h1, h2, h3⟩ => .inr ⟨by omega, v, h1, h2, h3⟩
set_option maxRecDepth 100000 in
set_option maxHeartbeats 4000000 in
theorem cuts_walk (HA : Sh (∀ W, Calls Try.prog 9 #[] W fun e w' => e = .returned (.bool true) ∧ Below W.heap.size W w')) (id sz : Int) (s : ByteArray) (hsz0 : -9223372036854775808 ≤ sz ∧ sz ≤ 9223372036854775807) (w : World) :
    Calls Try.prog 3 #[.int .i64 id, .string s, .int .i64 sz] w fun e w' => e = .returned (.bool true) ∧ Below w.heap.size w w' := by
  by_cases c : (3000 : Int) < (s.size : Int)
  · go_enter Try.func3, Try.ntmps3
    go_wp2_with (go_at_call 9; refine (HA.out _).mono ?_; rintro e' w2 ⟨rfl, hb⟩)
    go_ret
    exact ⟨rfl, hb⟩
  · by_cases hgood : 0 ≤ id ∧ id ≤ 2147483647 ∧ 1 ≤ sz ∧ sz ≤ 65536
    · obtain ⟨z, rfl⟩ := Int.eq_ofNat_of_zero_le (show 0 ≤ sz by omega)
      have HC := sh (fun W => cut_all id z s (by omega) ⟨hgood.1, hgood.2.1⟩ (by omega) (by omega) W)
      have HR := sh (fun W => rcut_ok id z s (by omega) ⟨hgood.1, hgood.2.1⟩ (by omega) (by omega) W)
      have hp1 : 1 ≤ pieces z s.size := by unfold pieces; omega
      by_cases hm : 1024 < pieces z s.size
      · have HC2 : Sh (∀ W, Calls Try.prog 10 #[.int .i64 id, .string s, .int .i64 (z : Int)] W fun e w' => e = .returned (.tuple #[.slice none 0 0, .int .i64 4]) ∧ Below W.heap.size W w') := ⟨fun W => (HC.out W).mono fun e w' h => h.elim (fun h => h.2) (fun h => absurd h.1 (by omega))⟩
        have HR2 : Sh (∀ W, Calls Try.prog 11 #[.int .i64 id, .string s, .int .i64 (z : Int)] W fun e w' => e = .returned (.tuple #[.slice none 0 0, .int .i64 4]) ∧ Below W.heap.size W w') := ⟨fun W => (HR.out W).mono fun e w' h => h.elim (fun h => h.2) (fun h => absurd h.1 (by omega))⟩
        clear HC HR hm hp1 hgood
        go_enter Try.func3, Try.ntmps3
        go_wp2_with (first
          | (go_at_call 9; refine (HA.out _).mono ?_; rintro e' w2 ⟨rfl, hb⟩)
          | (go_at_call 10; refine (HC2.out _).mono ?_; rintro e' w3 ⟨rfl, hb3⟩)
          | (go_at_call 11; refine (HR2.out _).mono ?_; rintro e' w4 ⟨rfl, hb4⟩))
        go_loopw [11] (fun v11 wr => v11 = .int .i64 0 ∧ Below w.heap.size w wr) (fun _ _ => 0)
        case atStart =>
          have t3 := hb.trans (hb3.mono hb.size)
          exact ⟨rfl, t3.trans (hb4.mono t3.size)⟩
        case round =>
          obtain ⟨rfl, hbr⟩ := hrel
          go_wp2
          go_ret
          exact ⟨rfl, hbr⟩
      · have HC2 : Sh (∀ W, Calls Try.prog 10 #[.int .i64 id, .string s, .int .i64 (z : Int)] W fun e w' => ∃ v, e = .returned (.tuple #[v, .int .i64 0]) ∧ w'.ownsRow W.heap.size 33 4 v (pieces z s.size) (pcs id (pieces z s.size : Nat) (pieces z s.size) (piece z (lst s))) ∧ Below W.heap.size W w') := ⟨fun W => (HC.out W).mono fun e w' h => h.elim (fun h => absurd h.1 (by omega)) (fun h => h.2)⟩
        have HR2 : Sh (∀ W, Calls Try.prog 11 #[.int .i64 id, .string s, .int .i64 (z : Int)] W fun e w' => ∃ v, e = .returned (.tuple #[v, .int .i64 0]) ∧ w'.ownsRow W.heap.size 31 4 v (pieces z s.size) (pcs id (pieces z s.size : Nat) (pieces z s.size) (piece z (lst s))) ∧ Below W.heap.size W w') := ⟨fun W => (HR.out W).mono fun e w' h => h.elim (fun h => absurd h.1 (by omega)) (fun h => h.2)⟩
        clear HC HR hgood
        generalize pieces z s.size = n at *
        generalize piece z (lst s) = F at *
        go_enter Try.func3, Try.ntmps3
        go_wp2_with (first
          | (go_at_call 9; refine (HA.out _).mono ?_; rintro e' w2 ⟨rfl, hb⟩)
          | (go_at_call 10; refine (HC2.out _).mono ?_; rintro e' w3 ⟨v3, rfl, ho3, hb3⟩; obtain ⟨g, cp, rfl, hg3⟩ := slice_form ho3 hp1)
          | (go_at_call 11; refine (HR2.out _).mono ?_; rintro e' w4 ⟨v4, rfl, ho4, hb4⟩; obtain ⟨g', cp', rfl, hg4⟩ := slice_form ho4 hp1))
        have t3 := hb.trans (hb3.mono hb.size)
        have t4 := t3.trans (hb4.mono t3.size)
        go_loopw [11] (fun v11 wr => ∃ i : Nat, i ≤ n ∧ v11 = .int .i64 (i : Int) ∧ Below w4.heap.size w4 wr) (fun v11 _ => n - (intOf v11).toNat)
        case atStart => exact ⟨0, by omega, rfl, Below.refl _ _⟩
        case round =>
          obtain ⟨i, hi, rfl, hbr⟩ := hrel
          by_cases hin : i < n
          · obtain ⟨a0, a1, a2, a3⟩ := own_cells4 ho3 hin
            obtain ⟨b0, b1, b2, b3⟩ := own_cells4 ho4 hin
            have kk : ∀ o, wr.cell? ⟨g, o, none⟩ = w3.cell? ⟨g, o, none⟩ := fun o => (hbr.cell (p := ⟨g, o, none⟩) (by have := hb4.size; simp; omega)).trans (hb4.cell (p := ⟨g, o, none⟩) hg3)
            have kk' : ∀ o, wr.cell? ⟨g', o, none⟩ = w4.cell? ⟨g', o, none⟩ := fun o => hbr.cell (p := ⟨g', o, none⟩) hg4
            rw [← kk] at a0 a1 a2 a3
            rw [← kk'] at b0 b1 b2 b3
            have HPl := sh (fun W => plain_part id (i : Int) (n : Int) (str (F i)) W)
            generalize str (F i) = T at *
            have hgw : g < wr.heap.size := by have := hb4.size; have := hbr.size; omega
            have hgw' : g' < wr.heap.size := by have := hbr.size; omega
            have hsz4 := hb4.size
            clear kk kk' ho3 ho4
            go_wp2_with fail
            go_region_with (go_at_call 12; refine (HPl.out _).mono ?_; rintro e' w5 ⟨rfl, hb5⟩; obtain ⟨hbc, hbf⟩ := bcell hb5; have e0 := (hbc g' (i * 4) hgw').trans b0; have e1 := (hbc g' (i * 4 + 1) hgw').trans b1; have e2 := (hbc g' (i * 4 + 2) hgw').trans b2; have e3 := (hbc g' (i * 4 + 3) hgw').trans b3)
            all_goals go_wp2_with fail
            all_goals go_roundw
            all_goals first
              | (case rel => exact ⟨i + 1, by omega, by go_num, hbr.trans (hb5.mono hbr.size)⟩)
              | (case rel => exact ⟨i + 1, by omega, by go_num, hbr.drew.trans (hb5.mono hbr.size)⟩)
              | (case measure => simp [intOf]; omega)
          · go_wp2
            go_ret
            exact ⟨rfl, t4.trans (hbr.mono t4.size)⟩
    · have HC2 := sh (fun W => cut_bad id sz s hgood W)
      have HR2 := sh (fun W => rcut_bad id sz s hgood W)
      clear hgood
      go_enter Try.func3, Try.ntmps3
      go_wp2_with (first
        | (go_at_call 9; refine (HA.out _).mono ?_; rintro e' w2 ⟨rfl, hb⟩)
        | (go_at_call 10; refine (HC2.out _).mono ?_; rintro e' w3 ⟨rfl, hb3⟩)
        | (go_at_call 11; refine (HR2.out _).mono ?_; rintro e' w4 ⟨rfl, rfl⟩))
      go_loopw [11] (fun v11 wr => v11 = .int .i64 0 ∧ Below w.heap.size w wr) (fun _ _ => 0)
      case atStart => exact ⟨rfl, hb.trans (hb3.mono hb.size)⟩
      case round =>
        obtain ⟨rfl, hbr⟩ := hrel
        go_wp2
        go_ret
        exact ⟨rfl, hbr⟩
end Go.Proofs.Ytoclbcpfiacoaaa
