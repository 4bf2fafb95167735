/- ScorePlays: the statement's walk where the acts are too many, or the limits are none. -/
import Derived.Test.YtckdahojhdbpjaaDoorB3
import Derived.Deep.Slices
namespace Go.Proofs.YtckdahojhdbpjaaDoor
set_option linter.unusedVariables false
set_option linter.unusedSimpArgs false
open Go.RowKit

/-- a thing that is done: its kind, its peer, its time, its error -/
abbrev AC := Int × ByteArray × Int × Int
def actC (z : AC) : List Value := [.int .u8 z.1, .string z.2.1, .int .i64 z.2.2.1, .int .i64 z.2.2.2]
/-- a row of things that are done, that came in -/
def IsActs (W : World) (a : Option Addr) (len : Nat) (Z : List AC) : Prop :=
  Z.length = len ∧ (len = 0 ∨ ∃ x, a = some x ∧ x.block < W.heap.size ∧ ∀ (i : Nat) (z : AC), Z[i]? = some z → ∀ j, j < 4 → W.cell? (x.add (i * 4 + j)) = (actC z)[j]?)
theorem add_block (x : Addr) (a : Nat) : (x.add a).block = x.block := by unfold Addr.add; split <;> rfl
theorem IsActs.at_ {W : World} {a : Option Addr} {len : Nat} {Z : List AC} (h : IsActs W a len Z) {i : Nat} {z : AC} (hi : Z[i]? = some z) :
    ∃ x, a = some x ∧ (x.add (i * 4)).block < W.heap.size ∧ W.cell? (x.add (i * 4)) = some (.int .u8 z.1) ∧ W.cell? ⟨(x.add (i * 4)).block, (x.add (i * 4)).off + 1, none⟩ = some (.string z.2.1) ∧ W.cell? ⟨(x.add (i * 4)).block, (x.add (i * 4)).off + 2, none⟩ = some (.int .i64 z.2.2.1) ∧
      W.cell? ⟨(x.add (i * 4)).block, (x.add (i * 4)).off + 3, none⟩ = some (.int .i64 z.2.2.2) := by
  have hil := (List.getElem?_eq_some_iff.1 hi).1
  rcases h.2 with h0 | ⟨x, rfl, hb, hc⟩
  · have := h.1; omega
  · have e : ∀ j, j < 4 → W.cell? ((x.add (i * 4)).add j) = (actC z)[j]? := fun j hj => by rw [Deep.add_add, hc i z hi _ hj]
    exact ⟨x, rfl, by rw [add_block]; exact hb, e 0 (by omega), e 1 (by omega), e 2 (by omega), e 3 (by omega)⟩
theorem IsActs.below {W W' : World} {B : Nat} {a : Option Addr} {len : Nat} {Z : List AC} (h : IsActs W a len Z) (hb : Below B W W') (hB : W.heap.size ≤ B) : IsActs W' a len Z := by
  refine ⟨h.1, h.2.imp id fun ⟨x, h1, h2, h3⟩ => ⟨x, h1, Nat.lt_of_lt_of_le h2 (by have := hb.size; omega), fun i z hi j hj => ?_⟩⟩
  rw [← h3 i z hi j hj]
  exact World.cell?_of_block (hb.block _ (by rw [add_block]; omega))
set_option maxRecDepth 100000 in
set_option maxHeartbeats 1000000 in
theorem plays_long (lim hal ban : Int) (a : Option Addr) (len cap : Nat) (w : World) (hT : Tab w) (h0 : 0 < w.heap.size) (hlen : len ≤ 9223372036854775807) (c1 : (80 : Int) < (len : Int)) :
    Calls Tryd.prog 5 #[.int .i64 lim, .int .i64 hal, .int .i64 ban, .slice a len cap] w fun e w' => e = .returned (.bool true) ∧ Below w.heap.size w w' := by
  have HA := sh (alive_any w hT h0)
  go_enter Tryd.func5, Tryd.ntmps5
  go_wp2_with (go_at_call 6; refine HA.out.mono ?_; clear HA; rintro e' w2 ⟨rfl, hb⟩)
  go_ret
  exact ⟨rfl, hb⟩
set_option maxRecDepth 100000 in
set_option maxHeartbeats 2000000 in
theorem plays_nil (lim hal ban : Int) (a : Option Addr) (len cap : Nat) (w : World) (hT : Tab w) (h0 : 0 < w.heap.size) (hlen : len ≤ 9223372036854775807) (c1 : ¬ (80 : Int) < (len : Int)) (hbad : rightB lim hal ban = false) :
    Calls Tryd.prog 5 #[.int .i64 lim, .int .i64 hal, .int .i64 ban, .slice a len cap] w fun e w' => e = .returned (.bool true) ∧ Below w.heap.size w w' := by
  have HA := sh (alive_any w hT h0)
  have HN := sh (fun W => new_wrong lim hal ban W hbad)
  have HR : Sh (∀ W, Calls Tryd.prog 7 #[.int .i64 lim, .int .i64 hal, .int .i64 ban] W fun e w' => e = .returned (.bool false) ∧ W = w') := ⟨fun W => by have := right_any lim hal ban W; rw [hbad] at this; exact this⟩
  have HT := sh (fun (W : World) (hb : Below w.heap.size w W) => hT.below hb h0)
  have H9 := sh fault_nil
  have H10 := sh score_nil
  have H12 := sh banned_nil
  have H13 := sh until_nil
  have H14 := sh sweep_nil
  have H15 := sh peers_nil
  clear hbad hT
  go_enter Tryd.func5, Tryd.ntmps5
  go_wp2_with (first
    | (go_at_call 6; refine HA.out.mono ?_; clear HA; rintro e' w2 ⟨rfl, hb⟩; have hT2 := HT.out w2 hb)
    | (go_at_call 8; refine (HN.out _).mono ?_; clear HN; rintro e' w3 ⟨rfl, rfl⟩)
    | (go_at_call 7; refine (HR.out _).mono ?_; clear HR; rintro e' w3 ⟨rfl, rfl⟩)
    | (go_at_call 9; refine (H9.out _ _ _ _ hT2).mono ?_; clear H9; rintro e' w3 ⟨rfl, rfl⟩)
    | (go_at_call 10; refine (H10.out _ _ _).mono ?_; clear H10; rintro e' w3 ⟨rfl, rfl⟩)
    | (go_at_call 12; refine (H12.out _ _ _).mono ?_; clear H12; rintro e' w3 ⟨rfl, rfl⟩)
    | (go_at_call 13; refine (H13.out _ _).mono ?_; clear H13; rintro e' w3 ⟨rfl, rfl⟩)
    | (go_at_call 14; refine (H14.out _ _).mono ?_; clear H14; rintro e' w3 ⟨rfl, rfl⟩)
    | (go_at_call 15; refine (H15.out _).mono ?_; clear H15; rintro e' w3 ⟨rfl, rfl⟩))
  go_ret
  exact ⟨rfl, hb⟩
end Go.Proofs.YtckdahojhdbpjaaDoor
