/- The statements' own example (alive), and the reference's points: contracts over the loaded program. -/
import Derived.Test.YtckdahojhdbpjaaDoorBoard
namespace Go.Proofs.YtckdahojhdbpjaaDoor
set_option linter.unusedVariables false
set_option linter.unusedSimpArgs false
open Go.RowKit

def nmA : ByteArray := ⟨#[97]⟩
def nmB : ByteArray := ⟨#[98]⟩
theorem nmA_size : nmA.size ≤ maxLen := by unfold maxLen; decide
theorem nmB_size : nmB.size ≤ maxLen := by unfold maxLen; decide
/-- a board whose one peer is "a", or none -/
def one : Option Acc → LA
  | none => []
  | some a => [(nmA, a)]
theorem acc_one (o : Option Acc) : accL (one o) nmA = o := by cases o <;> simp [one, accL]
theorem acc_oneB (o : Option Acc) : accL (one o) nmB = none := by
  cases o with
  | none => rfl
  | some a => simp only [one, accL]; rw [if_neg (by decide)]
def scoreO (hal : Int) (o : Option Acc) (now : Int) : Int := match o with | some a => atZ hal a.pts a.at_ now | none => 0
def faultO (lim hal ban : Int) (o : Option Acc) (now e : Int) : Option Acc × Int :=
  if ptsZ e = 0 then (o, scoreO hal o now)
  else (some (faultA lim hal ban now (ptsZ e) (o.getD ⟨0, clipZ now, 0⟩)), (faultA lim hal ban now (ptsZ e) (o.getD ⟨0, clipZ now, 0⟩)).pts)
theorem score_one (hal : Int) (o : Option Acc) (now : Int) : scoreL hal (one o) nmA now = scoreO hal o now := by unfold scoreL scoreO; rw [acc_one]; cases o <;> rfl
theorem fault_one (lim hal ban : Int) (o : Option Acc) (now e : Int) : faultL lim hal ban (one o) nmA now e = (one (faultO lim hal ban o now e).1, (faultO lim hal ban o now e).2) := by
  unfold faultL faultO
  rw [score_one, acc_one]
  by_cases h : ptsZ e = 0
  · simp [h]
  · rw [if_neg h, if_neg h]
    cases o with
    | none => simp [one]
    | some a => simp [one, updL]
def untilO (o : Option Acc) : Int := match o with | some a => a.til | none => 0
theorem until_one (o : Option Acc) : untilL (one o) nmA = untilO o := by unfold untilL untilO; rw [acc_one]; cases o <;> rfl
theorem until_oneB (o : Option Acc) : untilL (one o) nmB = 0 := by unfold untilL; rw [acc_oneB]

theorem brd_new (lim hal ban : Int) (w : World) (B : Nat) (hB : B ≤ w.heap.size) :
    Brd ((w.alloc (.map #[] 0)).alloc (.cells #[.int .i64 lim, .int .i64 hal, .int .i64 ban, .map (some w.heap.size)] 59)) B (w.heap.size + 1) w.heap.size 0 lim hal ban [] := by
  refine ⟨[], rfl, by omega, hB, ?_, ⟨_, (World.ownsMap_made w Tryd.prog 9 ptrElem).alloc _, fun nm => ⟨rfl, rfl⟩⟩, by simp, List.Pairwise.nil⟩
  have := Bk.made (w.alloc (.map #[] 0)) 59 #[.int .i64 lim, .int .i64 hal, .int .i64 ban, .map (some w.heap.size)]
  simpa using this

theorem ptsZ_rest {e : Int} (h3 : e ≠ 3) (h12 : e ≠ 12) (h4 : e ≠ 4) (h5 : e ≠ 5) (h6 : e ≠ 6) (h9 : e ≠ 9) (h10 : e ≠ 10) (h11 : e ≠ 11) : ptsZ e = 0 := by
  unfold ptsZ
  split
  · rfl
  · split
    · rfl
    · have : e = 0 ∨ e = 1 ∨ e = 2 ∨ e = 7 ∨ e = 8 := by omega
      rcases this with rfl | rfl | rfl | rfl | rfl <;> rfl
set_option maxHeartbeats 400000 in
theorem refpoints_any (e : Int) (w : World) : Calls Tryd.prog 11 #[.int .i64 e] w fun e' w' => e' = .returned (.int .i64 (ptsZ e)) ∧ w = w' := by
  go_enter Tryd.func11, Tryd.ntmps11
  go_wp2
  all_goals
    go_ret
    refine ⟨ret_int ?_, rfl⟩
    simp only [beq_iff_eq, beq_eq_false_iff_ne] at *
    first
    | (subst_vars; rfl)
    | exact (ptsZ_rest (by assumption) (by assumption) (by assumption) (by assumption) (by assumption) (by assumption) (by assumption) (by assumption)).symm

/-- what a step of the statements needs of the world: the table, the board -/
structure St (w0 w : World) (B g m n : Nat) (lim hal ban : Int) (L : LA) : Prop where
  bd : Brd w B g m n lim hal ban L
  tab : Tab w
  bel : Below B w0 w
theorem St.drewN {w0 w : World} {B g m n : Nat} {lim hal ban : Int} {L : LA} (h : St w0 w B g m n lim hal ban L) (k : Nat) : St w0 (w.drewN k) B g m n lim hal ban L :=
  ⟨h.bd.drewN k, h.tab, below_drewN h.bel k⟩
theorem St.fault {w0 w : World} {B g m n : Nat} {lim hal ban : Int} {L : LA} (h : St w0 w B g m n lim hal ban L) (hl : 1 ≤ lim) (hlM : lim ≤ 1000000) (h1 : 1 ≤ hal) (hb1 : 1 ≤ ban) (hb2 : ban ≤ 1099511627776)
    (hB0 : 0 < B) (nm : ByteArray) (hnm : nm.size ≤ maxLen) (hn : n < maxLen) (now e : Int) :
    Calls Tryd.prog 9 #[.pointer (some ⟨g, 0, none⟩), .string nm, .int .i64 now, .int .i64 e] w fun e' w' => e' = .returned (.int .i64 (faultL lim hal ban L nm now e).2) ∧ St w0 w' B g m (n + 1) lim hal ban (faultL lim hal ban L nm now e).1 :=
  (fault_brd h.bd hl hlM h1 hb1 hb2 h.tab hB0 nm hnm hn now e).mono fun e' w' ⟨h1, h2, h3⟩ => ⟨h1, h2, h.tab.below h3 hB0, h.bel.trans h3⟩
theorem St.score {w0 w : World} {B g m n : Nat} {lim hal ban : Int} {L : LA} (h : St w0 w B g m n lim hal ban L) (h1 : 1 ≤ hal) (nm : ByteArray) (hnm : nm.size ≤ maxLen) (now : Int) :
    Calls Tryd.prog 10 #[.pointer (some ⟨g, 0, none⟩), .string nm, .int .i64 now] w fun e' w' => e' = .returned (.int .i64 (scoreL hal L nm now)) ∧ St w0 w' B g m n lim hal ban L :=
  (score_brd h.bd h1 nm hnm now).mono fun e' w' ⟨h1, k, h2⟩ => ⟨h1, by subst h2; exact h.drewN k⟩
theorem St.new {w0 w : World} {B : Nat} (hT : Tab w) (hb : Below B w0 w) (hB : B ≤ w.heap.size) (hB0 : 0 < B) (lim hal ban : Int) (h : rightB lim hal ban = true) :
    Calls Tryd.prog 8 #[.int .i64 lim, .int .i64 hal, .int .i64 ban] w fun e' w' => e' = .returned (.tuple #[.pointer (some ⟨w.heap.size + 1, 0, none⟩), .int .i64 0]) ∧ St w0 w' B (w.heap.size + 1) w.heap.size 0 lim hal ban [] :=
  (new_right lim hal ban w h).mono fun e' w' ⟨h1, h2⟩ => ⟨h1, by
    subst h2
    have hb' := (hb.alloc hB (.map #[] 0)).alloc (by simp; omega) (.cells #[.int .i64 lim, .int .i64 hal, .int .i64 ban, .map (some w.heap.size)] 59)
    exact ⟨brd_new lim hal ban w B hB, hT.below (((Below.refl B w).alloc hB _).alloc (by simp; omega) _) hB0, hb'⟩⟩
theorem St.fault_to {w0 w : World} {B g m n : Nat} {lim hal ban : Int} {L L' : LA} {x : Int} (h : St w0 w B g m n lim hal ban L) (hl : 1 ≤ lim) (hlM : lim ≤ 1000000) (h1 : 1 ≤ hal) (hb1 : 1 ≤ ban) (hb2 : ban ≤ 1099511627776)
    (hB0 : 0 < B) (nm : ByteArray) (hnm : nm.size ≤ maxLen) (hn : n < maxLen) (now e : Int) (hr : faultL lim hal ban L nm now e = (L', x)) :
    Calls Tryd.prog 9 #[.pointer (some ⟨g, 0, none⟩), .string nm, .int .i64 now, .int .i64 e] w fun e' w' => e' = .returned (.int .i64 x) ∧ St w0 w' B g m (n + 1) lim hal ban L' := by
  have := h.fault hl hlM h1 hb1 hb2 hB0 nm hnm hn now e
  rw [hr] at this
  exact this
theorem St.score_to {w0 w : World} {B g m n : Nat} {lim hal ban : Int} {L : LA} {x : Int} (h : St w0 w B g m n lim hal ban L) (h1 : 1 ≤ hal) (nm : ByteArray) (hnm : nm.size ≤ maxLen) (now : Int) (hr : scoreL hal L nm now = x) :
    Calls Tryd.prog 10 #[.pointer (some ⟨g, 0, none⟩), .string nm, .int .i64 now] w fun e' w' => e' = .returned (.int .i64 x) ∧ St w0 w' B g m n lim hal ban L := by
  have := h.score h1 nm hnm now
  rw [hr] at this
  exact this
theorem St.banned_to {w0 w : World} {B g m n : Nat} {lim hal ban : Int} {L : LA} {x : Bool} (h : St w0 w B g m n lim hal ban L) (nm : ByteArray) (hnm : nm.size ≤ maxLen) (now : Int) (hr : decide (clipZ now < untilL L nm) = x) :
    Calls Tryd.prog 12 #[.pointer (some ⟨g, 0, none⟩), .string nm, .int .i64 now] w fun e' w' => e' = .returned (.bool x) ∧ w = w' := by
  have := banned_brd h.bd nm hnm now
  rw [hr] at this
  exact this
theorem St.until_to {w0 w : World} {B g m n : Nat} {lim hal ban : Int} {L : LA} {x : Int} (h : St w0 w B g m n lim hal ban L) (nm : ByteArray) (hnm : nm.size ≤ maxLen) (hr : untilL L nm = x) :
    Calls Tryd.prog 13 #[.pointer (some ⟨g, 0, none⟩), .string nm] w fun e' w' => e' = .returned (.int .i64 x) ∧ w = w' := by
  have := until_brd h.bd nm hnm
  rw [hr] at this
  exact this
set_option maxHeartbeats 400000 in
theorem alive_any (w : World) (hT : Tab w) (h0 : 0 < w.heap.size) : Calls Tryd.prog 6 #[] w fun e' w' => e' = .returned (.bool true) ∧ Below w.heap.size w w' := by
  go_enter Tryd.func6, Tryd.ntmps6
  go_wp2_with (go_at_call 8; refine (St.new (w0 := w) (B := w.heap.size) hT (Below.refl _ _) (Nat.le_refl _) h0 100 10 60 (by decide)).mono ?_; rintro e' w1 ⟨rfl, h1⟩)
  generalize w.heap.size + 1 = g at *
  generalize hm : w.heap.size = m at *
  go_wp2_with fail
  refine (h1.fault_to (by omega) (by omega) (by omega) (by omega) (by omega) h0 nmA nmA_size (by unfold maxLen; omega) 0 3 (fault_one 100 10 60 none 0 3)).mono ?_
  rintro e' w2 ⟨rfl, h2⟩
  go_wp2_with fail
  refine (h2.score_to (by omega) nmA nmA_size 10 (score_one 10 (some ⟨20, 0, 0⟩) 10)).mono ?_
  rintro e' w3 ⟨rfl, h3⟩
  go_wp2_with fail
  refine (h3.fault_to (by omega) (by omega) (by omega) (by omega) (by omega) h0 nmA nmA_size (by unfold maxLen; omega) 10 9 (fault_one 100 10 60 (some ⟨20, 0, 0⟩) 10 9)).mono ?_
  rintro e' w4 ⟨rfl, h4⟩
  go_wp2_with fail
  refine (h4.banned_to nmA nmA_size 69 (x := true) (by rw [until_one]; decide)).mono ?_
  rintro e' w5 ⟨rfl, rfl⟩
  go_wp2_with fail
  refine (h4.banned_to nmA nmA_size 70 (x := false) (by rw [until_one]; decide)).mono ?_
  rintro e' w5 ⟨rfl, rfl⟩
  go_wp2_with fail
  go_ret
  exact ⟨rfl, by rw [hm]; exact h4.bel⟩
end Go.Proofs.YtckdahojhdbpjaaDoor
