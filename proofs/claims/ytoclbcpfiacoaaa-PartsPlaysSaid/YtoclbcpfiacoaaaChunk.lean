/- slices.Chunk over the bytes of a string made a slice: its contract, for every loop body that keeps the blocks between n1 and n2. -/
import Derived.RangeFuncNested
import Derived.RangeFuncBound
import Derived.RangeFuncCalls
import Derived.RangeFuncLeaves
import Derived.RangeFuncBox
import Derived.Shelf.Abstract
import Derived.Shelf.RegionOpen
import Derived.WalkKit
import Derived.OwnWalkIn
import Derived.TacticsInMore
import Derived.LoopNIn
import Derived.LoopIn
import Derived.Test.YtoclbcpfiacoaaaProg
import Derived.Test.YtoclbcpfiacoaaaStr
namespace Go.Proofs.Ytoclbcpfiacoaaa
set_option linter.unusedVariables false
set_option linter.unusedSimpArgs false
open Go.RowKit Go.Shelf
attribute [local go_sem] Oper.semAt_some

/-- the blocks from n1 on, below n2, lie as they lay -/
def KpC (n1 n2 : Nat) (W W' : World) : Prop := W.heap.size ≤ W'.heap.size ∧ ∀ k, n1 ≤ k → k < n2 → W'.heap[k]? = W.heap[k]?
theorem kpC_refl (n1 n2 : Nat) (W : World) : KpC n1 n2 W W := ⟨Nat.le_refl _, fun _ _ _ => rfl⟩
theorem kpC_t {n1 n2 : Nat} {A B C : World} (h : KpC n1 n2 A B) (k : KpC n1 n2 B C) : KpC n1 n2 A C := ⟨Nat.le_trans h.1 k.1, fun j a b => (k.2 j a b).trans (h.2 j a b)⟩
theorem kpC_b {n1 n2 : Nat} {w : World} (hn : n2 ≤ w.heap.size) (W : World) (l : Nat) (o o' : Obj) (hl : w.heap.size ≤ l) (h : W.heap[l]? = some o) (_ : o.isCells = false) (_ : o.isWalk = false) : KpC n1 n2 W (W.putObj l o') := by
  have hg := grownBy_putObj' W l o'
  have hlt := (Array.getElem?_eq_some_iff.1 h).1
  exact ⟨hg.size, fun k _ hk => hg.block k (by omega) (fun e => by cases e; omega)⟩
theorem KpC.cell {n1 n2 : Nat} {W W' : World} (h : KpC n1 n2 W W') {g : Nat} (h1 : n1 ≤ g) (h2 : g < n2) (o : Nat) : W'.cell? ⟨g, o, none⟩ = W.cell? ⟨g, o, none⟩ := by
  unfold World.cell?
  rw [h.2 g h1 h2]
theorem KpC.of_below {n1 n2 B : Nat} {W W' : World} (h : Below B W W') (hB : n2 ≤ B) : KpC n1 n2 W W' := ⟨h.size, fun k _ hk => h.block k (by omega)⟩

/-- the places at which a piece begins -/
def Starts (sz k : Nat) (ys : List Nat) : Prop := ys = (List.range k).map (· * sz)
theorem starts_succ {sz k : Nat} {ys : List Nat} (h : Starts sz k ys) : Starts sz (k + 1) (ys ++ [k * sz]) := by
  unfold Starts at *
  rw [List.range_succ, List.map_append, ← h]; rfl
set_option maxRecDepth 100000 in
set_option maxHeartbeats 2000000 in
theorem chunk1_in (F : Fence) (n : Nat) (h7 : F.fn 48) (hro : F.round = none) (hn : 1 ≤ n) (l Bs Bn n1 n2 b L cap sz : Nat) (hsz : 1 ≤ sz) (hsz2 : sz ≤ 1000000) (hL : L ≤ 1000000) (hcap : L ≤ cap) (hs1 : n1 ≤ Bs) (hs2 : Bs < n2) (hm1 : n1 ≤ Bn) (hm2 : Bn < n2) (Nr : Nat) (hNr : ∀ k, k * sz < L → k < Nr)
    (J Jx : List {i : Nat // i < L} → World → Prop) (B0 : Nat) (hJ : AbidesFrom B0 J)
    (hY : ∀ pre x W, J pre W → pre.length < Nr → YieldAt F (n - 1) Try.prog l #[.slice (some ⟨b, x.1, none⟩) (min sz (L - x.1)) (min sz (L - x.1))] W fun e W' =>
      (e = .returned (.bool true) ∧ J (pre ++ [x]) W' ∧ KpC n1 n2 W W') ∨ (e = .returned (.bool false) ∧ Jx (pre ++ [x]) W'))
    (W : World) (hBs : W.cell? ⟨Bs, 0, none⟩ = some (.slice (some ⟨b, 0, none⟩) L cap)) (hBn : W.cell? ⟨Bn, 0, none⟩ = some (.int .i64 (sz : Int))) (h0 : J [] W) :
    CallsIn F n Try.prog 48 #[.func (.yield l) #[] #[], .pointer (some ⟨Bs, 0, none⟩), .pointer (some ⟨Bn, 0, none⟩)] W fun e W' => (∃ v, e = .returned v) ∧
      ((∃ ys, (∃ k, Starts sz k (ys.map (·.1)) ∧ L ≤ k * sz) ∧ J ys W') ∨ (∃ pre, (∃ k, Starts sz k (pre.map (·.1))) ∧ Jx pre W')) := by
  refine callsIn_of_wp Try.func48 rfl h7 ?_ hro
  simp only [Try.ntmps48, List.size_toArray, List.length_cons, List.length_nil, Nat.reduceAdd, Nat.reduceSub, Array.replicate_succ, Array.replicate_zero, List.push_toArray, List.append_toArray, List.nil_append, List.cons_append]
  gi_wp2
  gi_loopw [4] (fun i wr => ∃ (q k : Nat) (pre : List {i : Nat // i < L}), i = .int .i64 (q : Int) ∧ Sh (q = k * sz ∧ Starts sz k (pre.map (·.1)) ∧ J pre wr) ∧ q < L + sz ∧ KpC n1 n2 W wr)
    (fun i _ => L + sz - (intOf i).toNat)
  case atStart => exact ⟨0, 0, [], rfl, ⟨by simp, rfl, h0⟩, by omega, kpC_refl _ _ _⟩
  case round =>
    obtain ⟨q, k, pre, rfl, HJ, hq, hkp⟩ := hrel
    have hcs := (hkp.cell hs1 hs2 0).trans hBs
    have hcn := (hkp.cell hm1 hm2 0).trans hBn
    by_cases hlt : q < L
    · have hlen : pre.length < Nr := by
        have h1 := congrArg List.length HJ.out.2.1
        simp at h1
        rw [h1]
        exact hNr k (by rw [← HJ.out.1]; exact hlt)
      have hJd : J pre wr.drew := hJ pre wr wr.drew none HJ.out.2.2 (only_drewN wr 1 none) (fun r e => by cases e)
      have HS : Sh (Starts sz (k + 1) (pre.map (·.1) ++ [q])) := ⟨by have h := starts_succ HJ.out.2.1; rw [← HJ.out.1] at h; exact h⟩
      have HQ := sh HJ.out.1
      obtain ⟨fn, tmps, assign, body, hy, hR⟩ := hY pre ⟨q, hlt⟩ wr.drew hJd hlen
      dsimp only at hy
      have HR := sh hR
      clear hR h0 hY hJ hJd HJ hNr
      gi_wp2
      gi_region
      all_goals gi_wp2
      all_goals first
        | rw [show ((q : Int) + (sz : Int)).toNat - q = min sz (L - q) by omega, hy]
        | rw [show ((q : Int) + ((L - q : Nat) : Int)).toNat - q = min sz (L - q) by omega, hy]
      all_goals
        gi_wp2
        refine HR.out.mono ?_
        rintro e W3 (⟨rfl, hJ3, hk3⟩ | ⟨rfl, hJx3⟩)
      all_goals first
        | (have hcn3 := ((kpC_t hkp (kpC_t (show KpC n1 n2 wr wr.drew from ⟨Nat.le_refl _, fun _ _ _ => rfl⟩) hk3)).cell hm1 hm2 0).trans hBn
           gi_wp2
           go_roundw
           case rel => exact ⟨q + sz, k + 1, pre ++ [⟨q, hlt⟩], by go_num, ⟨by rw [HQ.out, Nat.succ_mul], by rw [List.map_append]; exact HS.out, hJ3⟩, by omega, kpC_t hkp (kpC_t (show KpC n1 n2 wr wr.drew from ⟨Nat.le_refl _, fun _ _ _ => rfl⟩) hk3)⟩
           case measure => simp [intOf]; omega)
        | (gi_wp2
           refine bodyPost_ret (results_none rfl _ _ _) rfl ?_
           exact ⟨⟨_, rfl⟩, .inr ⟨pre ++ [⟨q, hlt⟩], ⟨k + 1, by rw [List.map_append]; exact HS.out⟩, hJx3⟩⟩)
    · have HJ2 := sh (show (∃ k, Starts sz k (pre.map (·.1)) ∧ L ≤ k * sz) ∧ J pre wr from ⟨⟨k, HJ.out.2.1, by rw [← HJ.out.1]; omega⟩, HJ.out.2.2⟩)
      clear HJ hY hJ h0 hNr
      gi_wp2
      go_end0
      exact ⟨⟨_, rfl⟩, .inl ⟨pre, HJ2.out.1, HJ2.out.2⟩⟩
end Go.Proofs.Ytoclbcpfiacoaaa
