/- What each small function of package score computes: contracts over the loaded program, by walks. -/
import Derived.Test.YtckdahojhdbpjaaDoorProg
import Derived.Test.YtckdahojhdbpjaaDoorMem
import Derived.WalkKit
import Derived.WalkSpells
import Derived.WalkLawsBesides
import Derived.Deep.QuietTactic
import Derived.BigQuiet
import Derived.StillTailTactics
namespace Go.Proofs.YtckdahojhdbpjaaDoor
set_option linter.unusedVariables false
set_option linter.unusedSimpArgs false
open Go.RowKit

def clipZ (n : Int) : Int := if n < 0 then 0 else if 2305843009213693952 < n then 2305843009213693952 else n
theorem clipZ_bd (n : Int) : 0 ≤ clipZ n ∧ clipZ n ≤ 2305843009213693952 := by unfold clipZ; split <;> (try split) <;> omega
def maxZ (a b : Int) : Int := if a < b then b else a
theorem maxZ_bd (a b : Int) : a ≤ maxZ a b ∧ b ≤ maxZ a b := by unfold maxZ; split <;> omega
def hv : Nat → Int → Int
  | 0, n => n
  | k + 1, n => hv k (n / 2)
def atZ (halve pts at_ now : Int) : Int := hv ((maxZ (clipZ now) at_ - at_) / halve).toNat pts
theorem hv_step {v k : Int} {X : Int} (h : Hid (hv k.toNat v = X)) (c : 0 < k) : Hid (hv (k - 1).toNat (v / 2) = X) := by
  have e : k.toNat = (k - 1).toNat + 1 := by omega
  have := h.out
  rw [e] at this
  exact this
theorem hv_zero (n : Nat) (v : Int) (h : v = 0) : hv n v = v := by
  subst h
  induction n with
  | zero => rfl
  | succ n ih => exact ih
theorem hv_done (k v : Int) (h : k ≤ 0) : v = hv k.toNat v := by
  have e : k.toNat = 0 := by omega
  rw [e]; rfl
theorem hv_bd (n : Nat) : ∀ v : Int, 0 ≤ v → 0 ≤ hv n v ∧ hv n v ≤ v := by
  induction n with
  | zero => intro v h; exact ⟨h, Int.le_refl _⟩
  | succ n ih => intro v h; have := ih (v / 2) (by omega); show 0 ≤ hv n (v / 2) ∧ hv n (v / 2) ≤ v; omega
theorem atZ_bd (halve pts at_ now : Int) (h : 0 ≤ pts) : 0 ≤ atZ halve pts at_ now ∧ atZ halve pts at_ now ≤ pts := hv_bd _ _ h

set_option maxHeartbeats 400000 in
theorem clip_q (n : Int) (w : World) : Calls Tryd.prog 24 #[.int .i64 n] w fun e w' => e = .returned (.int .i64 (clipZ n)) ∧ w' = w := by
  go_enter Tryd.func24, Tryd.ntmps24
  go_wp2
  all_goals (go_ret; refine ⟨ret_int ?_, rfl⟩; unfold clipZ; (repeat' split) <;> omega)

theorem clip_any (n : Int) (w : World) : Calls Tryd.prog 24 #[.int .i64 n] w fun e w' => e = .returned (.int .i64 (clipZ n)) ∧ w = w' := (clip_q n w).mono fun _ _ ⟨h1, h2⟩ => ⟨h1, h2.symm⟩

set_option maxHeartbeats 400000 in
theorem at_any (halve pts at_ now : Int) (gb gp : Nat) (w : World) (h1 : 1 ≤ halve) (hp : 0 ≤ pts) (hpM : pts ≤ 4611686018427387904) (ha : 0 ≤ at_) (haM : at_ ≤ 2305843009213693952) (hb1 : w.cell? ⟨gb, 1, none⟩ = some (.int .i64 halve))
    (hp0 : w.cell? ⟨gp, 0, none⟩ = some (.int .i64 pts)) (hp1 : w.cell? ⟨gp, 1, none⟩ = some (.int .i64 at_)) :
    Calls Tryd.prog 25 #[.pointer (some ⟨gb, 0, none⟩), .pointer (some ⟨gp, 0, none⟩), .int .i64 now] w fun e w' => e = .returned (.int .i64 (atZ halve pts at_ now)) ∧ ∃ n, w' = w.drewN n := by
  have hc := clipZ_bd now
  go_enter Tryd.func25, Tryd.ntmps25
  go_wp2
  go_quiet ((go_at_call 24; exact Calls.quiet_of_same (clip_q _ _)))
  all_goals go_wp2
  case h.refine_2.inl h =>
    have HZ : Hid (atZ halve pts at_ now = hv (0 : Int).toNat pts) := by
      have : maxZ (clipZ now) at_ - at_ = 0 := by unfold maxZ; rw [if_pos h]; omega
      show hv _ _ = hv _ _; rw [this]; simp
    go_loop [7, 8] (fun n t => ∃ (v k : Int), 0 ≤ v ∧ v ≤ 4611686018427387904 ∧ 0 ≤ k ∧ k ≤ 2305843009213693952 ∧ Hid (hv k.toNat v = hv (0:Int).toNat pts) ∧ n = .int .i64 v ∧ t = .int .i64 k) (fun _ t => (intOf t).toNat)
    case atStart => exact ⟨pts, 0, hp, hpM, by omega, by omega, rfl, rfl, rfl⟩
    case round =>
      obtain ⟨v, k, hv0, hvM, hk0, hkM, HV, rfl, rfl⟩ := hrel
      by_cases c : 0 < k
      · by_cases d : 0 < v
        · go_wp2
          go_round
          case rel => exact ⟨v / 2, k - 1, by omega, by omega, by omega, by omega, hv_step HV c, rfl, rfl⟩
          case measure => simp [intOf]; omega
        · go_wp2
          go_ret
          exact ⟨ret_int (by rw [HZ.out, ← HV.out]; exact (hv_zero _ _ (by omega)).symm), _, rfl⟩
      · go_wp2
        go_ret
        exact ⟨ret_int (by rw [HZ.out, ← HV.out]; exact hv_done _ _ (by omega)), _, rfl⟩
  case h.refine_2.inr h =>
    have HZ : Hid (atZ halve pts at_ now = hv ((clipZ now - at_) / halve).toNat pts) := by
      have : maxZ (clipZ now) at_ = clipZ now := by unfold maxZ; rw [if_neg (by omega)]
      show hv _ _ = hv _ _; rw [this]
    have hT0 : 0 ≤ (clipZ now - at_) / halve := Int.ediv_nonneg (by omega) (by omega)
    have hTM : (clipZ now - at_) / halve ≤ 2305843009213693952 := Int.le_trans (Int.ediv_le_self _ (by omega)) (by omega)
    go_loop [7, 8] (fun n t => ∃ (v k : Int), 0 ≤ v ∧ v ≤ 4611686018427387904 ∧ 0 ≤ k ∧ k ≤ 2305843009213693952 ∧ Hid (hv k.toNat v = hv ((clipZ now - at_) / halve).toNat pts) ∧ n = .int .i64 v ∧ t = .int .i64 k) (fun _ t => (intOf t).toNat)
    case atStart => exact ⟨pts, (clipZ now - at_) / halve, hp, hpM, hT0, hTM, rfl, rfl, rfl⟩
    case round =>
      obtain ⟨v, k, hv0, hvM, hk0, hkM, HV, rfl, rfl⟩ := hrel
      by_cases c : 0 < k
      · by_cases d : 0 < v
        · go_wp2
          go_round
          case rel => exact ⟨v / 2, k - 1, by omega, by omega, by omega, by omega, hv_step HV c, rfl, rfl⟩
          case measure => simp [intOf]; omega
        · go_wp2
          go_ret
          exact ⟨ret_int (by rw [HZ.out, ← HV.out]; exact (hv_zero _ _ (by omega)).symm), _, rfl⟩
      · go_wp2
        go_ret
        exact ⟨ret_int (by rw [HZ.out, ← HV.out]; exact hv_done _ _ (by omega)), _, rfl⟩

def tabZ : List Int := [0, 0, 0, 20, 50, 50, 50, 0, 0, 100, 10, 1, 20]
def ptsZ (e : Int) : Int := if e < 0 then 0 else if 13 ≤ e then 0 else tabZ.getD e.toNat 0
theorem ptsZ_bd (e : Int) : 0 ≤ ptsZ e ∧ ptsZ e ≤ 100 := by
  unfold ptsZ; split
  · omega
  · split
    · omega
    · have : ∀ j < 13, 0 ≤ tabZ.getD j 0 ∧ tabZ.getD j 0 ≤ 100 := by decide
      exact this e.toNat (by omega)
/-- the table is laid -/
def Tab (w : World) : Prop := ∀ i : Nat, i < 13 → w.cell? ⟨0, i, none⟩ = some (.int .i64 (tabZ.getD i 0))
theorem Tab.below {B : Nat} {w w' : World} (h : Tab w) (hb : Below B w w') (hB : 0 < B) : Tab w' := fun i hi => (hb.cell (p := ⟨0, i, none⟩) hB).trans (h i hi)
theorem Tab.only {r : Nat} {w w' : World} (h : Tab w) (hb : w.grownBy w' (some r)) (hr : 0 < r) : Tab w' := fun i hi =>
  hb.cell (h i hi) (by intro e; have : (0 : Nat) = r := Option.some.inj e; omega)
set_option maxHeartbeats 400000 in
theorem points_any (e : Int) (w : World) (hT : Tab w) : Calls Tryd.prog 21 #[.int .i64 e] w fun e' w' => e' = .returned (.int .i64 (ptsZ e)) ∧ w = w' := by
  by_cases h0 : e < 0
  · go_enter Tryd.func21, Tryd.ntmps21
    go_wp2
    go_ret
    exact ⟨ret_int (by unfold ptsZ; rw [if_pos h0]), rfl⟩
  · by_cases h1 : 13 ≤ e
    · go_enter Tryd.func21, Tryd.ntmps21
      go_wp2
      go_ret
      exact ⟨ret_int (by unfold ptsZ; rw [if_neg (by omega), if_pos h1]), rfl⟩
    · have hc := hT e.toNat (by omega)
      have HP : Hid (ptsZ e = tabZ.getD e.toNat 0) := by show ptsZ e = _; unfold ptsZ; rw [if_neg h0, if_neg h1]
      generalize hx : tabZ.getD e.toNat 0 = x at hc HP
      clear hx hT
      go_enter Tryd.func21, Tryd.ntmps21
      go_wp2
      go_ret
      exact ⟨ret_int HP.out.symm, rfl⟩

theorem still_tail {P : Program} {id : Nat} {Q : Exit → Act → World → Prop} {a : Act} {w : World} {l : List Oper} (n : Nat) (hm : P.follows .mixedOrders = true) (hB : Region.lexTailB .any l.toArray n = true)
    (h : wpStill P l.toArray w.drew (fun a' => wpList P l.toArray Q (l.drop n) a' w.drew) (l.take n) a) : (Code.region id l.toArray true).wp P Q a w := wp_region_still_tail n hm hB h

/-- what a fault makes of a peer: points, at, until -/
structure Acc where
  pts : Int
  at_ : Int
  til : Int
def faultA (lim hal ban now more : Int) (p : Acc) : Acc :=
  if atZ hal p.pts p.at_ now + more < lim then ⟨atZ hal p.pts p.at_ now + more, maxZ p.at_ (clipZ now), p.til⟩
  else ⟨0, maxZ p.at_ (clipZ now), maxZ p.til (maxZ p.at_ (clipZ now) + ban)⟩
def Acc.ok (p : Acc) : Prop := 0 ≤ p.pts ∧ p.pts ≤ 1000000 ∧ 0 ≤ p.at_ ∧ p.at_ ≤ 2305843009213693952 ∧ 0 ≤ p.til ∧ p.til ≤ 2305844108725321728
theorem faultA_ok {lim hal ban now more : Int} {p : Acc} (h : p.ok) (hl : 1 ≤ lim) (hlM : lim ≤ 1000000) (hb : 1 ≤ ban) (hbM : ban ≤ 1099511627776) (hm : 0 ≤ more) : (faultA lim hal ban now more p).ok := by
  have h1 := clipZ_bd now
  have h2 := atZ_bd hal p.pts p.at_ now h.1
  unfold Acc.ok at h
  unfold faultA
  split <;> (refine ⟨?_, ?_, ?_, ?_, ?_, ?_⟩ <;> simp only [maxZ] <;> (repeat' split) <;> omega)
def Acc.cells (p : Acc) : Array Value := #[.int .i64 p.pts, .int .i64 p.at_, .int .i64 p.til]

def FaultPost (gp : Nat) (w : World) (p : Acc) (e' : Ending) (w' : World) : Prop := e' = .returned (.int .i64 p.pts) ∧ Bk w' gp 64 p.cells ∧ w.grownBy w' (some gp)
/-- w' is w but that block gp now is this account -/
structure FP (gp : Nat) (w : World) (p : Acc) (w' : World) : Prop where
  bk : Bk w' gp 64 p.cells
  only : w.grownBy w' (some gp)
theorem FP.start {gp : Nat} {w : World} {p : Acc} (h : Bk w gp 64 p.cells) : FP gp w p w := ⟨h, only_refl _ _⟩
section
variable {gp : Nat} {w w' : World} {p : Acc}
theorem FP.drew (h : FP gp w p w') : FP gp w p w'.drew := ⟨h.bk.drew, only_drew h.only⟩
theorem FP.drewN (h : FP gp w p w') (n : Nat) : FP gp w p (w'.drewN n) := ⟨h.bk.drewN n, only_drewN' h.only n⟩
theorem FP.set0 (h : FP gp w p w') (x : Int) : FP gp w ⟨x, p.at_, p.til⟩ (w'.setCell ⟨gp, 0, none⟩ (.int .i64 x)) := ⟨h.bk.put 0 _, only_set h.only (p := ⟨gp, 0, none⟩) rfl _⟩
theorem FP.set1 (h : FP gp w p w') (x : Int) : FP gp w ⟨p.pts, x, p.til⟩ (w'.setCell ⟨gp, 1, none⟩ (.int .i64 x)) := ⟨h.bk.put 1 _, only_set h.only (p := ⟨gp, 1, none⟩) rfl _⟩
theorem FP.set2 (h : FP gp w p w') (x : Int) : FP gp w ⟨p.pts, p.at_, x⟩ (w'.setCell ⟨gp, 2, none⟩ (.int .i64 x)) := ⟨h.bk.put 2 _, only_set h.only (p := ⟨gp, 2, none⟩) rfl _⟩
theorem FP.as {q : Acc} (h : FP gp w p w') (e : p = q) : FP gp w q w' := e ▸ h
theorem FP.post {q : Acc} {x : Int} (h : FP gp w p w') (e : p = q) (ex : x = q.pts) : FaultPost gp w q (.returned (.int .i64 x)) w' := by
  subst e; subst ex; exact ⟨rfl, h.bk, h.only⟩
end
set_option maxHeartbeats 1000000 in
set_option maxRecDepth 100000 in
theorem fault_old (lim hal ban now e pts at_ til : Int) (gb gp m : Nat) (nm : ByteArray) (w : World) (hl : 1 ≤ lim) (hlM : lim ≤ 1000000) (h1 : 1 ≤ hal) (hb1 : 1 ≤ ban) (hb2 : ban ≤ 1099511627776)
    (hok : (Acc.mk pts at_ til).ok) (hT : Tab w) (hmore : 0 < ptsZ e)
    (HB : Bk w gb 59 #[.int .i64 lim, .int .i64 hal, .int .i64 ban, .map (some m)]) (HP : Bk w gp 64 (Acc.mk pts at_ til).cells)
    (hlook : (Instr.lookup 57 (.map (some m)) (.string nm) true).run Tryd.prog w = .ok (.tuple #[.pointer (some ⟨gp, 0, none⟩), .bool true]) w) :
    Calls Tryd.prog 9 #[.pointer (some ⟨gb, 0, none⟩), .string nm, .int .i64 now, .int .i64 e] w (FaultPost gp w (faultA lim hal ban now (ptsZ e) ⟨pts, at_, til⟩)) := by
  have hq := ptsZ_bd e
  have hcl := clipZ_bd now
  obtain ⟨hp, hpM, ha, haM, ht, htM⟩ := hok
  simp only at hp hpM ha haM ht htM
  have hAA := atZ_bd hal pts at_ now hp
  have hq0 : (ptsZ e == 0) = false := by simp; omega
  have hne : gb ≠ gp := HB.ne HP (by decide)
  have c0 : w.cell? ⟨gb, 0, none⟩ = some (.int .i64 lim) := HB.cell 0
  have c1 : w.cell? ⟨gb, 1, none⟩ = some (.int .i64 hal) := HB.cell 1
  have c2 : w.cell? ⟨gb, 2, none⟩ = some (.int .i64 ban) := HB.cell 2
  have c3 : w.cell? ⟨gb, 3, none⟩ = some (.map (some m)) := HB.cell 3
  have p0 : w.cell? ⟨gp, 0, none⟩ = some (.int .i64 pts) := HP.cell 0
  have p1 : w.cell? ⟨gp, 1, none⟩ = some (.int .i64 at_) := HP.cell 1
  have p2 : w.cell? ⟨gp, 2, none⟩ = some (.int .i64 til) := HP.cell 2
  have f0 := HP.free 0
  have f1 := HP.free 1
  have f2 := HP.free 2
  have HBH := hide HB
  have HPH := hide HP
  clear HB HP
  by_cases hA : at_ < clipZ now
  all_goals by_cases hL : atZ hal pts at_ now + ptsZ e < lim
  all_goals
    go_enter Tryd.func9, Tryd.ntmps9
    go_wp2_with (first | (go_at_call 21; refine (points_any _ _ hT).mono ?_; rintro e' w' ⟨rfl, rfl⟩) | (go_at_call 25; refine (at_any hal pts at_ now gb gp _ h1 hp (by omega) ha haM c1 p0 p1).mono ?_; rintro e' w' ⟨rfl, n1, rfl⟩))
    refine still_tail 10 (by kernel_rfl) (by kernel_rfl) ?_
    simp only [List.take_succ_cons, List.take_zero, List.drop_succ_cons, List.drop_zero]
    iterate 6 still_step
    still_call (clip_q _ _)
    iterate 3 still_step
    refine wpStill_nil ?_
    go_wp2_with fail
    go_quiet (fail)
    go_wp2_with fail
    all_goals first
    | (go_ret
       exact ((((FP.start HPH.out).drewN _).set0 _).set1 _ |>.drewN _).post (by unfold faultA; rw [if_pos (by assumption)]; simp only [maxZ]; (repeat' split) <;> first | rfl | (exfalso; omega)) (by unfold faultA; rw [if_pos (by assumption)]))
    | (refine still_tail 17 (by kernel_rfl) (by kernel_rfl) ?_
       simp only [List.take_succ_cons, List.take_zero, List.drop_succ_cons, List.drop_zero]
       iterate 17 still_step
       refine wpStill_nil ?_
       go_wp2_with fail
       all_goals
         go_ret
         exact (((((FP.start HPH.out).drewN _).set0 _).set1 _ |>.drewN _).set0 _ |>.set2 _).drew.post (by unfold faultA; dsimp only; rw [if_neg (by omega)]; simp only [maxZ]; (repeat' split) <;> first | rfl | (exfalso; omega)) (by unfold faultA; dsimp only; rw [if_neg (by omega)]))
end Go.Proofs.YtckdahojhdbpjaaDoor
