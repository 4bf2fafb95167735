/- The reference's board (layer 29): Score, Banned: contracts. -/
import Derived.Test.YtckdahojhdbpjaaDoorP2
namespace Go.Proofs.YtckdahojhdbpjaaDoor
set_option linter.unusedVariables false
set_option linter.unusedSimpArgs false
open Go.RowKit

/-- what a call of the reference reads: its board's box, one peer's cells -/
structure RdP (w : World) (N g i : Nat) (lim hal ban : Int) (a : Option Addr) (n cp : Nat) (p : PQ) (W : World) : Prop where
  box : Bk W N 43 #[.int .i64 lim, .int .i64 hal, .int .i64 ban, .slice a n cp]
  gl : g < W.heap.size
  c0 : W.cell? ⟨g, i * 4, none⟩ = some (.string p.1)
  c1 : W.cell? ⟨g, i * 4 + 1, none⟩ = some (.int .i64 p.2.pts)
  c2 : W.cell? ⟨g, i * 4 + 2, none⟩ = some (.int .i64 p.2.at_)
  c3 : W.cell? ⟨g, i * 4 + 3, none⟩ = some (.int .i64 p.2.til)
  bel : Below N w W
abbrev RdC (w : World) (N g i : Nat) (lim hal ban : Int) (a : Option Addr) (n cp : Nat) (p : PQ) (W : World) : Prop :=
  W.cell? ⟨N, 0, none⟩ = some (.int .i64 lim) ∧ W.cell? ⟨N, 1, none⟩ = some (.int .i64 hal) ∧ W.cell? ⟨N, 2, none⟩ = some (.int .i64 ban) ∧ W.cell? ⟨N, 3, none⟩ = some (.slice a n cp) ∧
  W.cell? ⟨g, i * 4, none⟩ = some (.string p.1) ∧ W.cell? ⟨g, i * 4 + 1, none⟩ = some (.int .i64 p.2.pts) ∧ W.cell? ⟨g, i * 4 + 2, none⟩ = some (.int .i64 p.2.at_) ∧ W.cell? ⟨g, i * 4 + 3, none⟩ = some (.int .i64 p.2.til) ∧ RdP w N g i lim hal ban a n cp p W
section
variable {w W W' : World} {N g i : Nat} {lim hal ban : Int} {a : Option Addr} {n cp : Nat} {p : PQ}
theorem RdP.below (h : RdP w N g i lim hal ban a n cp p W) (hb : Below W.heap.size W W') : RdP w N g i lim hal ban a n cp p W' := by
  have hN := h.box.lt
  exact ⟨h.box.below hb hN, Nat.lt_of_lt_of_le h.gl hb.size, (hb.cell (p := ⟨g, _, none⟩) h.gl).trans h.c0, (hb.cell (p := ⟨g, _, none⟩) h.gl).trans h.c1, (hb.cell (p := ⟨g, _, none⟩) h.gl).trans h.c2, (hb.cell (p := ⟨g, _, none⟩) h.gl).trans h.c3, h.bel.trans (hb.mono (by omega))⟩
theorem RdP.drewN (h : RdP w N g i lim hal ban a n cp p W) (k : Nat) : RdP w N g i lim hal ban a n cp p (W.drewN k) := h.below (below_drewN (Below.refl _ _) k)
theorem RdP.cells (h : RdP w N g i lim hal ban a n cp p W) : RdC w N g i lim hal ban a n cp p W := ⟨h.box.cell 0, h.box.cell 1, h.box.cell 2, h.box.cell 3, h.c0, h.c1, h.c2, h.c3, h⟩
theorem rdc_keep (h : RdC w N g i lim hal ban a n cp p W) (hb : Below W.heap.size W W') : RdC w N g i lim hal ban a n cp p W' := (h.2.2.2.2.2.2.2.2.below hb).cells
end
theorem rdp_of {w W : World} {N : Nat} {lim hal ban : Int} {a : Option Addr} {L : LA} {cp i : Nat} {p : PQ} (hJ : Bk W N 43 #[.int .i64 lim, .int .i64 hal, .int .i64 ban, .slice a L.length cp]) (hL : RowP W a L) (hp : L[i]? = some p) (hb : Below N w W) :
    ∃ g, a = some ⟨g, 0, none⟩ ∧ RdP w N g i lim hal ban a L.length cp p W := by
  obtain ⟨g, h1, h2, c0, c1, c2, c3⟩ := hL.at_ hp
  exact ⟨g, h1, hJ, h2, c0, c1, c2, c3, hb⟩
set_option maxRecDepth 100000 in
set_option maxHeartbeats 1000000 in
theorem rscore_none (lim hal ban : Int) (a : Option Addr) (L : LA) (cp : Nat) (nm : ByteArray) (now : Int) (w : World) (hL : RowP w a L) (hn : L.length ≤ 1000) (h : accL L nm = none) :
    Calls Tryd.prog 16 #[.agg #[.int .i64 lim, .int .i64 hal, .int .i64 ban, .slice a L.length cp], .string nm, .int .i64 now] w fun e w' => e = .returned (.int .i64 0) ∧ Below w.heap.size w w' := by
  have hJ := Bk.made w 43 #[.int .i64 lim, .int .i64 hal, .int .i64 ban, .slice a L.length cp]
  have hb0 : Below w.heap.size w (w.alloc (.cells #[.int .i64 lim, .int .i64 hal, .int .i64 ban, .slice a L.length cp] 43)) := (Below.refl _ w).alloc (Nat.le_refl _) _
  have HF := sh (rfind_none lim hal ban a L cp nm _ (hL.below hb0) hn h)
  have HB := sh hb0
  clear hL hJ hb0 h
  go_enter Tryd.func16, Tryd.ntmps16
  go_wp2_with (go_at_call 22; refine HF.out.mono ?_; rintro e' w2 ⟨rfl, hb⟩)
  go_ret
  exact ⟨rfl, HB.out.trans (hb.mono (by simp))⟩
set_option maxRecDepth 100000 in
set_option maxHeartbeats 2000000 in
theorem rscore_some (lim hal ban : Int) (a : Option Addr) (L : LA) (cp k : Nat) (nm : ByteArray) (p : PQ) (now : Int) (w : World) (h1 : 1 ≤ hal) (ok : p.2.ok) (hL : RowP w a L) (hn : L.length ≤ 1000) (hk : L[k]? = some p) (hnm : p.1 = nm) (hbef : ∀ (i : Nat) (p : PQ), i < k → L[i]? = some p → p.1 ≠ nm) :
    Calls Tryd.prog 16 #[.agg #[.int .i64 lim, .int .i64 hal, .int .i64 ban, .slice a L.length cp], .string nm, .int .i64 now] w fun e w' => e = .returned (.int .i64 (atZ hal p.2.pts p.2.at_ now)) ∧ Below w.heap.size w w' := by
  have hkl := (List.getElem?_eq_some_iff.1 hk).1
  have hJ := Bk.made w 43 #[.int .i64 lim, .int .i64 hal, .int .i64 ban, .slice a L.length cp]
  have hb0 : Below w.heap.size w (w.alloc (.cells #[.int .i64 lim, .int .i64 hal, .int .i64 ban, .slice a L.length cp] 43)) := (Below.refl _ w).alloc (Nat.le_refl _) _
  have hL0 := hL.below hb0
  have HF := sh (rfind_some lim hal ban a L cp nm _ hL0 hn hk hnm hbef)
  obtain ⟨g, rfl, hR⟩ := rdp_of (w := w) hJ hL0 hk hb0
  have HR := sh hR
  have HA := sh (fun W => rat lim hal ban (some ⟨g, 0, none⟩) L.length cp p.1 p.2 now W h1 ok)
  clear hL hJ hb0 hk hnm hbef hL0 hR ok
  obtain ⟨nm', pp⟩ := p
  obtain ⟨pts, at_, til⟩ := pp
  simp only at HA HR ⊢
  go_enter Tryd.func16, Tryd.ntmps16
  go_wp2_with (go_at_call 22; refine HF.out.mono ?_; rintro e' w2 ⟨rfl, hb⟩; have HR2 := sh ((HR.out.below hb).drewN 1).cells; clear HR HF hb)
  go_region_held3 (fun W => RdC w w.heap.size g k lim hal ban (some ⟨g, 0, none⟩) L.length cp (nm', ⟨pts, at_, til⟩) W)
    (first | assumption | exact HR2.out | exact rdc_keep (by assumption) (by assumption))
    (first | (go_at_call 28; refine (HA.out _).mono ?_; rintro e' w3 ⟨rfl, hb3⟩))
  all_goals
    rename_i hH
    have HE := sh hH.2.2.2.2.2.2.2.2.bel
    clear hH
    go_wp2_with fail
    go_ret
    exact ⟨rfl, HE.out⟩
end Go.Proofs.YtckdahojhdbpjaaDoor
