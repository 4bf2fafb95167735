/- The reference's board (layer 29): Banned, Sweep: contracts. -/
import Derived.Test.YtckdahojhdbpjaaDoorP3
namespace Go.Proofs.YtckdahojhdbpjaaDoor
set_option linter.unusedVariables false
set_option linter.unusedSimpArgs false
open Go.RowKit

theorem rscore (lim hal ban : Int) (a : Option Addr) (L : LA) (cp : Nat) (nm : ByteArray) (now : Int) (w : World) (h1 : 1 ≤ hal) (ok : ∀ p ∈ L, p.2.ok) (hL : RowP w a L) (hn : L.length ≤ 1000) :
    Calls Tryd.prog 16 #[.agg #[.int .i64 lim, .int .i64 hal, .int .i64 ban, .slice a L.length cp], .string nm, .int .i64 now] w fun e w' => e = .returned (.int .i64 (scoreL hal L nm now)) ∧ Below w.heap.size w w' := by
  unfold scoreL
  cases h : accL L nm with
  | none => exact rscore_none lim hal ban a L cp nm now w hL hn h
  | some p =>
    obtain ⟨k, hk, hb⟩ := acc_some_at h
    exact rscore_some lim hal ban a L cp k nm (nm, p) now w h1 (ok _ (List.mem_of_getElem? hk)) hL hn hk rfl hb
set_option maxRecDepth 100000 in
set_option maxHeartbeats 1000000 in
theorem rbanned_none (lim hal ban : Int) (a : Option Addr) (L : LA) (cp : Nat) (nm : ByteArray) (now : Int) (w : World) (hL : RowP w a L) (hn : L.length ≤ 1000) (h : accL L nm = none) :
    Calls Tryd.prog 17 #[.agg #[.int .i64 lim, .int .i64 hal, .int .i64 ban, .slice a L.length cp], .string nm, .int .i64 now] w fun e w' => e = .returned (.bool false) ∧ Below w.heap.size w w' := by
  have hJ := Bk.made w 43 #[.int .i64 lim, .int .i64 hal, .int .i64 ban, .slice a L.length cp]
  have hb0 : Below w.heap.size w (w.alloc (.cells #[.int .i64 lim, .int .i64 hal, .int .i64 ban, .slice a L.length cp] 43)) := (Below.refl _ w).alloc (Nat.le_refl _) _
  have HF := sh (rfind_none lim hal ban a L cp nm _ (hL.below hb0) hn h)
  have HB := sh hb0
  clear hL hJ hb0 h
  go_enter Tryd.func17, Tryd.ntmps17
  go_wp2_with (go_at_call 22; refine HF.out.mono ?_; rintro e' w2 ⟨rfl, hb⟩; have HB2 := sh (HB.out.trans (hb.mono (by simp))); clear HB HF hb)
  go_quiet (fail)
  all_goals
    have HE := sh (below_drewN HB2.out nq)
    go_wp2_with fail
    go_ret
    exact ⟨rfl, HE.out⟩
set_option maxRecDepth 100000 in
set_option maxHeartbeats 2000000 in
theorem rbanned_some (lim hal ban : Int) (a : Option Addr) (L : LA) (cp k : Nat) (nm : ByteArray) (p : PQ) (now : Int) (w : World) (hL : RowP w a L) (hn : L.length ≤ 1000) (hk : L[k]? = some p) (hnm : p.1 = nm) (hbef : ∀ (i : Nat) (p : PQ), i < k → L[i]? = some p → p.1 ≠ nm) :
    Calls Tryd.prog 17 #[.agg #[.int .i64 lim, .int .i64 hal, .int .i64 ban, .slice a L.length cp], .string nm, .int .i64 now] w fun e w' => e = .returned (.bool (decide (clipZ now < p.2.til))) ∧ Below w.heap.size w w' := by
  have hkl := (List.getElem?_eq_some_iff.1 hk).1
  have hJ := Bk.made w 43 #[.int .i64 lim, .int .i64 hal, .int .i64 ban, .slice a L.length cp]
  have hb0 : Below w.heap.size w (w.alloc (.cells #[.int .i64 lim, .int .i64 hal, .int .i64 ban, .slice a L.length cp] 43)) := (Below.refl _ w).alloc (Nat.le_refl _) _
  have hL0 := hL.below hb0
  have HF := sh (rfind_some lim hal ban a L cp nm _ hL0 hn hk hnm hbef)
  obtain ⟨g, rfl, hR⟩ := rdp_of (w := w) hJ hL0 hk hb0
  have HR := sh hR
  clear hL hJ hb0 hk hnm hbef hL0 hR
  go_enter Tryd.func17, Tryd.ntmps17
  go_wp2_with (go_at_call 22; refine HF.out.mono ?_; rintro e' w2 ⟨rfl, hb⟩; have HR2 := sh (HR.out.below hb); clear HR HF hb)
  have r3 := HR2.out.box.cell 3
  have q3 := HR2.out.c3
  have hk0 : decide ((0 : Int) ≤ (k : Int)) = true := by simp
  go_quiet ((go_at_call 29; exact Calls.quiet_of_same ((rclip _ _).mono fun _ _ ⟨h1, h2⟩ => ⟨h1, h2.symm⟩)))
  all_goals
    have HE := sh (HR2.out.drewN nq).bel
    go_wp2_with fail
    go_ret
    exact ⟨rfl, HE.out⟩
theorem rbanned (lim hal ban : Int) (a : Option Addr) (L : LA) (cp : Nat) (nm : ByteArray) (now : Int) (w : World) (hL : RowP w a L) (hn : L.length ≤ 1000) :
    Calls Tryd.prog 17 #[.agg #[.int .i64 lim, .int .i64 hal, .int .i64 ban, .slice a L.length cp], .string nm, .int .i64 now] w fun e w' => e = .returned (.bool (decide (clipZ now < untilL L nm))) ∧ Below w.heap.size w w' := by
  unfold untilL
  cases h : accL L nm with
  | none =>
    have : decide (clipZ now < 0) = false := by have := clipZ_bd now; exact decide_eq_false (by omega)
    simp only [this]
    exact rbanned_none lim hal ban a L cp nm now w hL hn h
  | some p =>
    obtain ⟨k, hk, hb⟩ := acc_some_at h
    exact rbanned_some lim hal ban a L cp k nm (nm, p) now w hL hn hk rfl hb
end Go.Proofs.YtckdahojhdbpjaaDoor
