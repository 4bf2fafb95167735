/- PartsOrder: the statement's walk, whatever comes in. -/
import Derived.Test.YtoclbcpfiacoaaaOrd3
namespace Go.Proofs.Ytoclbcpfiacoaaa
set_option linter.unusedVariables false
set_option linter.unusedSimpArgs false
open Go.RowKit

set_option maxRecDepth 100000 in
set_option maxHeartbeats 1000000 in
theorem order_err {n : Int} (hn : n ≠ 0) (id : Int) (s : ByteArray) (sz : Int) (a : Option Addr) (len cap : Nat) (w : World) (hlen : len ≤ 9223372036854775807) (c1 : ¬ (2000 : Int) < (s.size : Int)) (c2 : ¬ (300 : Int) < (len : Int))
    (HC : Sh (∀ W, Calls Try.prog 10 #[.int .i64 id, .string s, .int .i64 sz] W fun e w' => e = .returned (.tuple #[.slice none 0 0, .int .i64 n]) ∧ Below W.heap.size W w')) :
    Calls Try.prog 6 #[.int .i64 id, .string s, .int .i64 sz, .slice a len cap] w fun e w' => e = .returned (.bool true) ∧ Below w.heap.size w w' := by
  have HA := sh alive30
  have hb0 : (n != 0) = true := by rw [bne_iff_ne]; exact hn
  clear hn
  go_enter Try.func6, Try.ntmps6
  go_wp2_with (first
    | (go_at_call 9; refine (HA.out _).mono ?_; clear HA; rintro e' w2 ⟨rfl, hb⟩)
    | (go_at_call 10; refine (HC.out _).mono ?_; clear HC; rintro e' w4 ⟨rfl, hb4⟩))
  go_ret
  exact ⟨rfl, hb.trans (hb4.mono hb.size)⟩
set_option maxRecDepth 100000 in
set_option maxHeartbeats 1000000 in
theorem order_walk (id : Int) (s : ByteArray) (sz : Int) (a : Option Addr) (len cap : Nat) (zs : List Int) (w : World) {p q : Prop} (_ : p) (_ : q) (wz : (Lit.int .i64 sz).wf = true) (w3 : IsRow .u8 w a len cap zs) :
    Calls Try.prog 6 #[.int .i64 id, .string s, .int .i64 sz, .slice a len cap] w fun e w' => e = .returned (.bool true) ∧ Below w.heap.size w w' := by
  have hlen := w3.len_le
  by_cases c1 : (2000 : Int) < (s.size : Int)
  · have HA := sh alive30
    go_enter Try.func6, Try.ntmps6
    go_wp2_with (go_at_call 9; refine (HA.out _).mono ?_; clear HA; rintro e' w2 ⟨rfl, hb⟩)
    go_ret
    exact ⟨rfl, hb⟩
  · by_cases c2 : (300 : Int) < (len : Int)
    · have HA := sh alive30
      go_enter Try.func6, Try.ntmps6
      go_wp2_with (go_at_call 9; refine (HA.out _).mono ?_; clear HA; rintro e' w2 ⟨rfl, hb⟩)
      go_ret
      exact ⟨rfl, hb⟩
    · by_cases hgood : 0 ≤ id ∧ id ≤ 2147483647 ∧ 1 ≤ sz ∧ sz ≤ 65536
      · obtain ⟨z, rfl⟩ := Int.eq_ofNat_of_zero_le (show 0 ≤ sz by omega)
        by_cases hm : 1024 < pieces z s.size
        · exact order_err (n := 4) (by omega) id s z a len cap w hlen c1 c2 ⟨fun W => (cut_all id z s (by omega) ⟨hgood.1, hgood.2.1⟩ (by omega) (by omega) W).mono fun e w' h => h.elim (fun h => h.2) (fun h => absurd h.1 (by omega))⟩
        · exact order_ok id s z a len cap zs w w3 c1 c2 ⟨hgood.1, hgood.2.1⟩ (by omega) (by omega) (by omega)
      · exact order_err (n := 1) (by omega) id s sz a len cap w hlen c1 c2 ⟨fun W => cut_bad id sz s hgood W⟩
end Go.Proofs.Ytoclbcpfiacoaaa
