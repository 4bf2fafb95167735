/- The reference's board (layer 29): its peers in a row; Clip, At, Find: contracts. -/
import Derived.Test.YtckdahojhdbpjaaDoorAlive
import Derived.OwnWalk
import Derived.Deep.RegionWith
import Derived.Deep.AppendLies
import Derived.IntWalk
import Derived.Deep.RegionHeld3
namespace Go.Proofs.YtckdahojhdbpjaaDoor
set_option linter.unusedVariables false
set_option linter.unusedSimpArgs false
open Go.RowKit

abbrev PQ := ByteArray × Acc
def prV (p : PQ) : List Value := [.string p.1, .int .i64 p.2.pts, .int .i64 p.2.at_, .int .i64 p.2.til]
def prsC (L : LA) : List Value := L.flatMap prV
theorem prsC_snoc (L : LA) (p : PQ) : prsC (L ++ [p]) = prsC L ++ prV p := by simp [prsC]
theorem prsC_len (L : LA) : (prsC L).length = L.length * 4 := by
  induction L with
  | nil => rfl
  | cons p L ih => simp only [prsC, List.flatMap_cons, List.length_append] at *; rw [ih]; simp [prV]; omega
theorem prsC_at : ∀ {L : LA} {i : Nat} {p : PQ}, L[i]? = some p → (prsC L)[i * 4]? = some (.string p.1) ∧ (prsC L)[i * 4 + 1]? = some (.int .i64 p.2.pts) ∧ (prsC L)[i * 4 + 2]? = some (.int .i64 p.2.at_) ∧ (prsC L)[i * 4 + 3]? = some (.int .i64 p.2.til)
  | q :: L, 0, p, h => by
    simp only [List.getElem?_cons_zero, Option.some.injEq] at h
    subst h
    exact ⟨rfl, rfl, rfl, rfl⟩
  | q :: L, i + 1, p, h => by
    rw [List.getElem?_cons_succ] at h
    have ih := prsC_at h
    have e : ∀ o, (prsC (q :: L))[(i + 1) * 4 + o]? = (prsC L)[i * 4 + o]? := fun o => by
      show (prV q ++ prsC L)[(i + 1) * 4 + o]? = _
      rw [List.getElem?_append_right (by simp [prV]; omega)]
      congr 1
      simp [prV]; omega
    have e0 := e 0
    simp only [Nat.add_zero] at e0
    rw [e0, e, e, e]
    exact ih
/-- a slice of peers that lies in memory -/
def RowP (W : World) (a : Option Addr) (L : LA) : Prop := L = [] ∨ ∃ g cur, a = some ⟨g, 0, none⟩ ∧ Bk W g 53 cur ∧ L.length * 4 ≤ cur.size ∧ ∀ o, o < L.length * 4 → cur[o]? = (prsC L)[o]?
section
variable {W W' : World} {a : Option Addr} {L : LA}
theorem RowP.below (h : RowP W a L) (hb : Below W.heap.size W W') : RowP W' a L := by
  rcases h with h | ⟨g, cur, h1, h2, h3⟩
  · exact .inl h
  · exact .inr ⟨g, cur, h1, h2.below hb h2.lt, h3⟩
theorem RowP.set {p : Addr} {t : TypeId} {cs : Array Value} (h : RowP W a L) (hb : Bk W p.block t cs) (ht : t ≠ 53) (v : Value) : RowP (W.setCell p v) a L := by
  rcases h with h | ⟨g, cur, h1, h2, h3⟩
  · exact .inl h
  · exact .inr ⟨g, cur, h1, h2.far (h2.ne hb ht.symm) v, h3⟩
theorem RowP.at_ (h : RowP W a L) {i : Nat} {p : PQ} (hi : L[i]? = some p) : ∃ g, a = some ⟨g, 0, none⟩ ∧ g < W.heap.size ∧ W.cell? ⟨g, i * 4, none⟩ = some (.string p.1) ∧ W.cell? ⟨g, i * 4 + 1, none⟩ = some (.int .i64 p.2.pts) ∧ W.cell? ⟨g, i * 4 + 2, none⟩ = some (.int .i64 p.2.at_) ∧ W.cell? ⟨g, i * 4 + 3, none⟩ = some (.int .i64 p.2.til) := by
  have hil := (List.getElem?_eq_some_iff.1 hi).1
  rcases h with h | ⟨g, cur, h1, h2, h3, h4⟩
  · subst h; cases hi
  · obtain ⟨c0, c1, c2, c3⟩ := prsC_at hi
    exact ⟨g, h1, h2.lt, (h2.cell _).trans ((h4 _ (by omega)).trans c0), (h2.cell _).trans ((h4 _ (by omega)).trans c1), (h2.cell _).trans ((h4 _ (by omega)).trans c2), (h2.cell _).trans ((h4 _ (by omega)).trans c3)⟩
end
/-- a slice that the call made -/
theorem rowP_of {W : World} {B : Nat} {v : Value} {L : LA} (h : W.ownsRow B 53 4 v L.length (prsC L)) : ∃ a cp, v = .slice a L.length cp ∧ L.length ≤ cp ∧ RowP W a L := by
  rcases h.2 with ⟨rfl, h0⟩ | ⟨g, cap, cur, rfl, hB, hb, hc, _, hs, ht⟩
  · have : L = [] := List.eq_nil_of_length_eq_zero h0
    subst this
    exact ⟨none, 0, rfl, Nat.le_refl _, .inl rfl⟩
  · refine ⟨_, _, rfl, hc, .inr ⟨g, cur, rfl, hb, by rw [hs]; exact Nat.mul_le_mul_right _ hc, fun o ho => ?_⟩⟩
    rw [← ht, List.getElem?_take, if_pos ho, Array.getElem?_toList]
theorem takeP_snoc {L : LA} {k : Nat} {p : PQ} (h : L[k]? = some p) : L.take (k + 1) = L.take k ++ [p] := by
  obtain ⟨hk, rfl⟩ := List.getElem?_eq_some_iff.1 h
  exact (List.take_append_getElem hk).symm
set_option maxHeartbeats 400000 in
theorem rclip (n : Int) (w : World) : Calls Tryd.prog 29 #[.int .i64 n] w fun e w' => e = .returned (.int .i64 (clipZ n)) ∧ w = w' := by
  go_enter Tryd.func29, Tryd.ntmps29
  go_wp2
  all_goals (go_ret; refine ⟨ret_int ?_, rfl⟩; unfold clipZ; (repeat' split) <;> omega)
/-- the peers' names -/
theorem acc_none_iff {nm : ByteArray} : ∀ {L : LA}, accL L nm = none → ∀ p ∈ L, p.1 ≠ nm
  | [], _, _, hp => by cases hp
  | q :: L, h, p, hp => by
    simp only [accL] at h
    by_cases e : q.1 = nm
    · simp [e] at h
    · simp only [e, if_false] at h
      rcases List.mem_cons.1 hp with rfl | hp
      · exact e
      · exact acc_none_iff h p hp
theorem nm_ne {a b : ByteArray} (h : a ≠ b) : (a.toList == b.toList) = false := by
  rw [beq_eq_false_iff_ne, ByteArray.toList_eq, ByteArray.toList_eq]
  exact fun e => h (by cases a; cases b; simp only [ByteArray.mk.injEq]; exact Array.toList_inj.1 e)
theorem nm_eq {a b : ByteArray} (h : a = b) : (a.toList == b.toList) = true := by rw [h]; exact beq_self_eq_true _
theorem acc_some_at {nm : ByteArray} {a : Acc} : ∀ {L : LA}, accL L nm = some a → ∃ k : Nat, L[k]? = some (nm, a) ∧ ∀ (i : Nat) (p : PQ), i < k → L[i]? = some p → p.1 ≠ nm
  | q :: L, h => by
    simp only [accL] at h
    by_cases e : q.1 = nm
    · simp only [e, if_true, Option.some.injEq] at h
      obtain ⟨q1, q2⟩ := q
      simp only at e h
      subst e; subst h
      exact ⟨0, rfl, fun i p hi => absurd hi (Nat.not_lt_zero _)⟩
    · simp only [e, if_false] at h
      obtain ⟨k, h1, h2⟩ := acc_some_at h
      refine ⟨k + 1, by rw [List.getElem?_cons_succ]; exact h1, fun i p hi hp => ?_⟩
      cases i with
      | zero => simp only [List.getElem?_cons_zero, Option.some.injEq] at hp; subst hp; exact e
      | succ i => exact h2 i p (by omega) (by simpa using hp)
set_option maxRecDepth 100000 in
set_option maxHeartbeats 1000000 in
/-- Find: k is the place; or the length, and there is none -/
theorem rfind (lim hal ban : Int) (a : Option Addr) (L : LA) (cp k : Nat) (nm : ByteArray) (w : World) (hL : RowP w a L) (hn : L.length ≤ 1000) (hk : k ≤ L.length) (hbef : ∀ (i : Nat) (p : PQ), i < k → L[i]? = some p → p.1 ≠ nm) (hat : ∀ p : PQ, L[k]? = some p → p.1 = nm) :
    Calls Tryd.prog 22 #[.agg #[.int .i64 lim, .int .i64 hal, .int .i64 ban, .slice a L.length cp], .string nm] w fun e w' => e = .returned (.int .i64 (if k < L.length then (k : Int) else -1)) ∧ Below w.heap.size w w' := by
  have hJ := Bk.made w 43 #[.int .i64 lim, .int .i64 hal, .int .i64 ban, .slice a L.length cp]
  have hb0 : Below w.heap.size w (w.alloc (.cells #[.int .i64 lim, .int .i64 hal, .int .i64 ban, .slice a L.length cp] 43)) := (Below.refl _ w).alloc (Nat.le_refl _) _
  have hL0 := hL.below hb0
  have j3 := hJ.cell 3
  have HB := sh hbef
  have HA := sh hat
  clear hL hJ hbef hat
  go_enter Tryd.func22, Tryd.ntmps22
  go_wp2_with fail
  generalize w.alloc (.cells #[.int .i64 lim, .int .i64 hal, .int .i64 ban, .slice a L.length cp] 43) = W at *
  go_loop [5] (fun v5 => ∃ i : Nat, i ≤ k ∧ v5 = .int .i64 (i : Int)) (fun v5 => L.length - (RowKit.intOf v5).toNat)
  case atStart => exact ⟨0, by omega, rfl⟩
  case round =>
    obtain ⟨i, hi, rfl⟩ := hrel
    by_cases hlt : i < L.length
    · obtain ⟨p, hp⟩ : ∃ p, L[i]? = some p := ⟨_, List.getElem?_eq_getElem hlt⟩
      obtain ⟨g, rfl, hg, a0, a1, a2, a3⟩ := hL0.at_ hp
      by_cases e : i = k
      · subst e
        have en := HA.out p hp
        have et := nm_eq en
        clear hp en HA HB
        go_wp2
        go_ret
        exact ⟨ret_int (by simp), hb0⟩
      · have en := HB.out i p (by omega) hp
        have et := nm_ne en
        clear hp en
        go_wp2
        go_round
        case rel => exact ⟨i + 1, by omega, by go_num⟩
        case measure => simp [RowKit.intOf]; omega
    · have HR := sh (show ((if k < L.length then (k : Int) else -1)) = -1 from if_neg (by omega))
      go_wp2
      go_ret
      exact ⟨ret_int (by first | rfl | (rw [HR.out])), hb0⟩
theorem rfind_some (lim hal ban : Int) (a : Option Addr) (L : LA) (cp : Nat) (nm : ByteArray) (w : World) (hL : RowP w a L) (hn : L.length ≤ 1000) {k : Nat} {p : PQ} (hk : L[k]? = some p) (hnm : p.1 = nm) (hbef : ∀ (i : Nat) (p : PQ), i < k → L[i]? = some p → p.1 ≠ nm) :
    Calls Tryd.prog 22 #[.agg #[.int .i64 lim, .int .i64 hal, .int .i64 ban, .slice a L.length cp], .string nm] w fun e w' => e = .returned (.int .i64 (k : Int)) ∧ Below w.heap.size w w' := by
  have hlt := (List.getElem?_eq_some_iff.1 hk).1
  have := rfind lim hal ban a L cp k nm w hL hn (by omega) hbef (fun q hq => by rw [hk] at hq; cases hq; exact hnm)
  rw [if_pos hlt] at this
  exact this
theorem rfind_none (lim hal ban : Int) (a : Option Addr) (L : LA) (cp : Nat) (nm : ByteArray) (w : World) (hL : RowP w a L) (hn : L.length ≤ 1000) (h : accL L nm = none) :
    Calls Tryd.prog 22 #[.agg #[.int .i64 lim, .int .i64 hal, .int .i64 ban, .slice a L.length cp], .string nm] w fun e w' => e = .returned (.int .i64 (-1)) ∧ Below w.heap.size w w' := by
  have := rfind lim hal ban a L cp L.length nm w hL hn (Nat.le_refl _) (fun i p _ hp => acc_none_iff h p (List.mem_of_getElem? hp)) (fun q hq => by rw [List.getElem?_eq_none (Nat.le_refl _)] at hq; cases hq)
  rw [if_neg (Nat.lt_irrefl _)] at this
  exact this
end Go.Proofs.YtckdahojhdbpjaaDoor
