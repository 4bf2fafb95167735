/- PartsPlays: the statement's walk where the limits are none. -/
import Derived.Test.YtoclbcpfiacoaaaR6
import Derived.Test.YtoclbcpfiacoaaaJn8
import Derived.Test.YtoclbcpfiacoaaaAlive30
namespace Go.Proofs.Ytoclbcpfiacoaaa
set_option linter.unusedVariables false
set_option linter.unusedSimpArgs false
open Go.RowKit

/-- a thing that is done: its kind, its part -/
abbrev AC := Int × PT
def actC (z : AC) : List Value := .int .u8 z.1 :: ptV z.2
/-- a row of things that are done, that came in -/
def IsActs (W : World) (a : Option Addr) (len : Nat) (Z : List AC) : Prop :=
  Z.length = len ∧ (len = 0 ∨ ∃ x, a = some x ∧ x.block < W.heap.size ∧ ∀ i z, Z[i]? = some z → ∀ j, j < 5 → W.cell? (x.add (i * 5 + j)) = (actC z)[j]?)
theorem IsActs.at_ {W : World} {a : Option Addr} {len : Nat} {Z : List AC} (h : IsActs W a len Z) {i : Nat} {z : AC} (hi : Z[i]? = some z) :
    ∃ x, a = some x ∧ (x.add (i * 5)).block < W.heap.size ∧ W.cell? (x.add (i * 5)) = some (.int .u8 z.1) ∧ W.cell? ⟨(x.add (i * 5)).block, (x.add (i * 5)).off + 1, none⟩ = some (.int .i64 z.2.1) ∧ W.cell? ⟨(x.add (i * 5)).block, (x.add (i * 5)).off + 2, none⟩ = some (.int .i64 z.2.2.1) ∧
      W.cell? ⟨(x.add (i * 5)).block, (x.add (i * 5)).off + 3, none⟩ = some (.int .i64 z.2.2.2.1) ∧ W.cell? ⟨(x.add (i * 5)).block, (x.add (i * 5)).off + 4, none⟩ = some (.string z.2.2.2.2) := by
  have hil := (List.getElem?_eq_some_iff.1 hi).1
  rcases h.2 with h0 | ⟨x, rfl, hb, hc⟩
  · have := h.1; omega
  · have e : ∀ j, j < 5 → W.cell? ((x.add (i * 5)).add j) = (actC z)[j]? := fun j hj => by rw [Deep.add_add, hc i z hi _ hj]
    exact ⟨x, rfl, by rw [block_add]; exact hb, e 0 (by omega), e 1 (by omega), e 2 (by omega), e 3 (by omega), e 4 (by omega)⟩
theorem IsActs.below {W W' : World} {B : Nat} {a : Option Addr} {len : Nat} {Z : List AC} (h : IsActs W a len Z) (hb : Below B W W') (hB : W.heap.size ≤ B) : IsActs W' a len Z := by
  refine ⟨h.1, h.2.imp id fun ⟨x, h1, h2, h3⟩ => ⟨x, h1, Nat.lt_of_lt_of_le h2 (by have := hb.size; omega), fun i z hi j hj => ?_⟩⟩
  rw [← h3 i z hi j hj]
  exact World.cell?_of_block (hb.block _ (by rw [block_add]; omega))
set_option maxRecDepth 100000 in
set_option maxHeartbeats 1000000 in
theorem plays_long (most opn : Int) (a : Option Addr) (len cap : Nat) (w : World) (hlen : len ≤ 9223372036854775807) (c1 : (60 : Int) < (len : Int)) :
    Calls Try.prog 4 #[.int .i64 most, .int .i64 opn, .slice a len cap] w fun e w' => e = .returned (.bool true) ∧ Below w.heap.size w w' := by
  have HA := sh alive30
  go_enter Try.func4, Try.ntmps4
  go_wp2_with (go_at_call 9; refine (HA.out _).mono ?_; clear HA; rintro e' w2 ⟨rfl, hb⟩)
  go_ret
  exact ⟨rfl, hb⟩
set_option maxRecDepth 100000 in
set_option maxHeartbeats 1000000 in
theorem plays_nil (most opn : Int) (a : Option Addr) (len cap : Nat) (w : World) (hlen : len ≤ 9223372036854775807) (c1 : ¬ (60 : Int) < (len : Int)) (hbad : ¬ (0 ≤ most ∧ most ≤ 1073741824 ∧ 1 ≤ opn ∧ opn ≤ 32)) :
    Calls Try.prog 4 #[.int .i64 most, .int .i64 opn, .slice a len cap] w fun e w' => e = .returned (.bool true) ∧ Below w.heap.size w w' := by
  have HA := sh alive30
  have HN := sh (fun W => new_bad most opn hbad W)
  have HD := sh (fun W => add_nil (.agg #[.int .i64 0, .int .i64 0, .int .i64 1, .string ⟨#[]⟩]) W ⟨0, 0, 1, ⟨#[]⟩, rfl⟩)
  have HO := sh open_nil
  have HU := sh used_nil
  have HR := sh (drop_nil 0)
  by_cases h1 : most < 0
  · clear hbad
    go_enter Try.func4, Try.ntmps4
    go_wp2_with (first
      | (go_at_call 9; refine (HA.out _).mono ?_; clear HA; rintro e' w2 ⟨rfl, hb⟩)
      | (go_at_call 13; refine (HN.out _).mono ?_; clear HN; rintro e' w3 ⟨rfl, rfl⟩)
      | (go_at_call 14; refine (HD.out _).mono ?_; clear HD; rintro e' w4 ⟨rfl, hb4⟩)
      | (go_at_call 15; refine (HO.out _).mono ?_; clear HO; rintro e' w5 ⟨rfl, rfl⟩)
      | (go_at_call 16; refine (HU.out _).mono ?_; clear HU; rintro e' w6 ⟨rfl, rfl⟩)
      | (go_at_call 17; refine (HR.out _).mono ?_; clear HR; rintro e' w7 ⟨rfl, rfl⟩))
    go_ret
    exact ⟨rfl, hb.trans (hb4.mono hb.size)⟩
  · by_cases h2 : 1073741824 < most
    · clear hbad
      go_enter Try.func4, Try.ntmps4
      go_wp2_with (first
        | (go_at_call 9; refine (HA.out _).mono ?_; clear HA; rintro e' w2 ⟨rfl, hb⟩)
        | (go_at_call 13; refine (HN.out _).mono ?_; clear HN; rintro e' w3 ⟨rfl, rfl⟩)
        | (go_at_call 14; refine (HD.out _).mono ?_; clear HD; rintro e' w4 ⟨rfl, hb4⟩)
        | (go_at_call 15; refine (HO.out _).mono ?_; clear HO; rintro e' w5 ⟨rfl, rfl⟩)
        | (go_at_call 16; refine (HU.out _).mono ?_; clear HU; rintro e' w6 ⟨rfl, rfl⟩)
        | (go_at_call 17; refine (HR.out _).mono ?_; clear HR; rintro e' w7 ⟨rfl, rfl⟩))
      go_ret
      exact ⟨rfl, hb.trans (hb4.mono hb.size)⟩
    · by_cases h3 : opn < 1
      · clear hbad
        go_enter Try.func4, Try.ntmps4
        go_wp2_with (first
          | (go_at_call 9; refine (HA.out _).mono ?_; clear HA; rintro e' w2 ⟨rfl, hb⟩)
          | (go_at_call 13; refine (HN.out _).mono ?_; clear HN; rintro e' w3 ⟨rfl, rfl⟩)
          | (go_at_call 14; refine (HD.out _).mono ?_; clear HD; rintro e' w4 ⟨rfl, hb4⟩)
          | (go_at_call 15; refine (HO.out _).mono ?_; clear HO; rintro e' w5 ⟨rfl, rfl⟩)
          | (go_at_call 16; refine (HU.out _).mono ?_; clear HU; rintro e' w6 ⟨rfl, rfl⟩)
          | (go_at_call 17; refine (HR.out _).mono ?_; clear HR; rintro e' w7 ⟨rfl, rfl⟩))
        go_ret
        exact ⟨rfl, hb.trans (hb4.mono hb.size)⟩
      · have h4 : 32 < opn := by omega
        clear hbad
        go_enter Try.func4, Try.ntmps4
        go_wp2_with (first
          | (go_at_call 9; refine (HA.out _).mono ?_; clear HA; rintro e' w2 ⟨rfl, hb⟩)
          | (go_at_call 13; refine (HN.out _).mono ?_; clear HN; rintro e' w3 ⟨rfl, rfl⟩)
          | (go_at_call 14; refine (HD.out _).mono ?_; clear HD; rintro e' w4 ⟨rfl, hb4⟩)
          | (go_at_call 15; refine (HO.out _).mono ?_; clear HO; rintro e' w5 ⟨rfl, rfl⟩)
          | (go_at_call 16; refine (HU.out _).mono ?_; clear HU; rintro e' w6 ⟨rfl, rfl⟩)
          | (go_at_call 17; refine (HR.out _).mono ?_; clear HR; rintro e' w7 ⟨rfl, rfl⟩))
        go_ret
        exact ⟨rfl, hb.trans (hb4.mono hb.size)⟩
end Go.Proofs.Ytoclbcpfiacoaaa
