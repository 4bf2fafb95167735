/- The reference's board (layer 29): Sweep: contract. -/
import Derived.Test.YtckdahojhdbpjaaDoorP4
import Derived.Test.YtckdahojhdbpjaaDoorStr
namespace Go.Proofs.YtckdahojhdbpjaaDoor
set_option linter.unusedVariables false
set_option linter.unusedSimpArgs false
open Go.RowKit

theorem info53 : (Tryd.prog.info? 53).map (fun i => (i.zero, i.size, i.bytes)) = some (some (.agg #[.string ⟨#[]⟩, .int .i64 0, .int .i64 0, .int .i64 0]), 4, 40) := by kernel_rfl
theorem own_below {W W' : World} {B n k : Nat} {t : TypeId} {v : Value} {cs : List Value} (h : W.ownsRow B t k v n cs) (hb : Below W.heap.size W W') : W'.ownsRow B t k v n cs := by
  refine ⟨h.1, ?_⟩
  rcases h.2 with h0 | ⟨g, cap, cur, e, hB, hg, hr⟩
  · exact .inl h0
  · exact .inr ⟨g, cap, cur, e, hB, (hb.block g (Array.getElem?_eq_some_iff.1 hg).1).trans hg, hr⟩
theorem cells_new (w : World) (xs : Array Value) (e : TypeId) : ∀ j u, xs.toList[j]? = some u → (w.alloc (.cells xs e)).cell? ((⟨w.heap.size, 0, none⟩ : Addr).add j) = some u := by
  intro j u h
  have : (⟨w.heap.size, 0, none⟩ : Addr).add j = ⟨w.heap.size, j, none⟩ := by unfold Addr.add; split <;> simp_all
  rw [this, (Bk.made w e xs).cell j, ← Array.getElem?_toList]
  exact h
/-- what a round of the reference's Sweep reads: the board's box, the peer's box, the row that it makes -/
structure RwS (W0 : World) (N M B0 : Nat) (lim hal ban : Int) (a : Option Addr) (n cp : Nat) (nm : ByteArray) (pts at_ til : Int) (v : Value) (c : Nat) (row : List Value) (W : World) : Prop where
  box : Bk W N 43 #[.int .i64 lim, .int .i64 hal, .int .i64 ban, .slice a n cp]
  pbox : Bk W M 53 #[.string nm, .int .i64 pts, .int .i64 at_, .int .i64 til]
  own : W.ownsRow B0 53 4 v c row
  bel : Below B0 W0 W
  mB : B0 ≤ M
abbrev RwC (W0 : World) (N M B0 : Nat) (lim hal ban : Int) (a : Option Addr) (n cp : Nat) (nm : ByteArray) (pts at_ til : Int) (v : Value) (c : Nat) (row : List Value) (W : World) : Prop :=
  W.cell? ⟨N, 0, none⟩ = some (.int .i64 lim) ∧ W.cell? ⟨N, 1, none⟩ = some (.int .i64 hal) ∧ W.cell? ⟨N, 2, none⟩ = some (.int .i64 ban) ∧ W.cell? ⟨N, 3, none⟩ = some (.slice a n cp) ∧
  W.cell? ⟨M, 0, none⟩ = some (.string nm) ∧ W.cell? ⟨M, 1, none⟩ = some (.int .i64 pts) ∧ W.cell? ⟨M, 2, none⟩ = some (.int .i64 at_) ∧ W.cell? ⟨M, 3, none⟩ = some (.int .i64 til) ∧ RwS W0 N M B0 lim hal ban a n cp nm pts at_ til v c row W
section
variable {W0 W W' : World} {N M B0 : Nat} {lim hal ban : Int} {a : Option Addr} {n cp : Nat} {nm : ByteArray} {pts at_ til : Int} {v : Value} {c : Nat} {row : List Value}
theorem RwS.below (h : RwS W0 N M B0 lim hal ban a n cp nm pts at_ til v c row W) (hb : Below W.heap.size W W') : RwS W0 N M B0 lim hal ban a n cp nm pts at_ til v c row W' :=
  ⟨h.box.below hb h.box.lt, h.pbox.below hb h.pbox.lt, own_below h.own hb, h.bel.trans (hb.mono (by have := h.mB; have := h.pbox.lt; omega)), h.mB⟩
theorem RwS.cells (h : RwS W0 N M B0 lim hal ban a n cp nm pts at_ til v c row W) : RwC W0 N M B0 lim hal ban a n cp nm pts at_ til v c row W := ⟨h.box.cell 0, h.box.cell 1, h.box.cell 2, h.box.cell 3, h.pbox.cell 0, h.pbox.cell 1, h.pbox.cell 2, h.pbox.cell 3, h⟩
theorem rwc_keep (h : RwC W0 N M B0 lim hal ban a n cp nm pts at_ til v c row W) (hb : Below W.heap.size W W') : RwC W0 N M B0 lim hal ban a n cp nm pts at_ til v c row W' := (h.2.2.2.2.2.2.2.2.below hb).cells
end
theorem own_len {W : World} {B n sz : Nat} {e : TypeId} {v : Value} {xs : List Value} (h : W.ownsRow B e sz v n xs) : ∃ a cp, v = .slice a n cp := by
  rcases h.2 with ⟨rfl, h0⟩ | ⟨g, cap, cur, rfl, _⟩
  · subst h0; exact ⟨_, _, rfl⟩
  · exact ⟨_, _, rfl⟩
def stays (hal now : Int) (p : PQ) : Bool := decide (0 < atZ hal p.2.pts p.2.at_ now) || decide (clipZ now < p.2.til)
def sweepL (hal : Int) (L : LA) (now : Int) : LA := L.filter (stays hal now)
theorem sweepL_len (hal : Int) (L : LA) (now : Int) : (sweepL hal L now).length ≤ L.length := List.length_filter_le _ _
theorem sweepL_snoc (hal : Int) (L : LA) (p : PQ) (now : Int) : sweepL hal (L ++ [p]) now = sweepL hal L now ++ (if stays hal now p = true then [p] else []) := by
  unfold sweepL
  rw [List.filter_append]
  by_cases h : stays hal now p = true <;> simp [h]
def BV (lim hal ban : Int) (a : Option Addr) (n cp : Nat) : Value := .agg #[.int .i64 lim, .int .i64 hal, .int .i64 ban, .slice a n cp]
def SweepPost (w : World) (lim hal ban : Int) (L' : LA) (x : Int) (e : Ending) (w' : World) : Prop :=
  ∃ a cp, e = .returned (.tuple #[BV lim hal ban a L'.length cp, .int .i64 x]) ∧ L'.length ≤ cp ∧ RowP w' a L' ∧ Below w.heap.size w w'
set_option maxRecDepth 100000 in
set_option maxHeartbeats 4000000 in
theorem rsweep (lim hal ban : Int) (a : Option Addr) (L : LA) (cp : Nat) (now : Int) (w : World) (h1 : 1 ≤ hal) (ok : ∀ p ∈ L, p.2.ok) (hL : RowP w a L) (hn : L.length ≤ 1000) :
    Calls Tryd.prog 18 #[.agg #[.int .i64 lim, .int .i64 hal, .int .i64 ban, .slice a L.length cp], .int .i64 now] w (SweepPost w lim hal ban (sweepL hal L now) ((L.length : Int) - ((sweepL hal L now).length : Int))) := by
  obtain ⟨i53, hb0, hb1', hb2, hb3⟩ := info_parts info53
  have hJ := (Bk.made w 43 #[.int .i64 lim, .int .i64 hal, .int .i64 ban, .slice a L.length cp]).alloc (.cells #[.int .i64 0, .int .i64 0, .int .i64 0, .slice none 0 0] 43)
  have hR := Bk.made (w.alloc (.cells #[.int .i64 lim, .int .i64 hal, .int .i64 ban, .slice a L.length cp] 43)) 43 #[.int .i64 0, .int .i64 0, .int .i64 0, .slice none 0 0]
  rw [World.size_alloc] at hR
  have hbw : Below w.heap.size w ((w.alloc (.cells #[.int .i64 lim, .int .i64 hal, .int .i64 ban, .slice a L.length cp] 43)).alloc (.cells #[.int .i64 0, .int .i64 0, .int .i64 0, .slice none 0 0] 43)) := ((Below.refl _ w).alloc (Nat.le_refl _) _).alloc (by simp) _
  have hLs := hL.below hbw
  have SJ := sh hJ
  have SR := sh hR
  have SW := sh hbw
  have SL := sh hLs
  have OK := sh ok
  clear hL hJ hR hbw hLs ok
  go_enter Tryd.func18, Tryd.ntmps18
  go_wp2_with fail
  have hsz0 : ((w.alloc (.cells #[.int .i64 lim, .int .i64 hal, .int .i64 ban, .slice a L.length cp] 43)).alloc (.cells #[.int .i64 0, .int .i64 0, .int .i64 0, .slice none 0 0] 43)).heap.size = w.heap.size + 1 + 1 := by simp
  generalize ((w.alloc (.cells #[.int .i64 lim, .int .i64 hal, .int .i64 ban, .slice a L.length cp] 43)).alloc (.cells #[.int .i64 0, .int .i64 0, .int .i64 0, .slice none 0 0] 43)) = W0 at *
  go_loopw [6, 7] (fun v6 v7 wr => ∃ k : Nat, k ≤ L.length ∧ v7 = .int .i64 (k : Int) ∧ wr.ownsRow (w.heap.size + 1 + 1) 53 4 v6 (sweepL hal (L.take k) now).length (prsC (sweepL hal (L.take k) now)) ∧ Below (w.heap.size + 1 + 1) W0 wr) (fun _ v7 _ => L.length - (RowKit.intOf v7).toNat)
  case atStart => exact ⟨0, by omega, rfl, own_row_nil _ _ _ _, Below.refl _ _⟩
  case round =>
    obtain ⟨k, hk, rfl, ho, hbr⟩ := hrel
    have hbz := hbr.size
    obtain ⟨ax, cx, rfl⟩ := own_len ho
    by_cases hlt : k < L.length
    · obtain ⟨p, hp⟩ : ∃ p, L[k]? = some p := ⟨_, List.getElem?_eq_getElem hlt⟩
      have hLr := SL.out.below (hbr.mono (by omega))
      obtain ⟨g, rfl, hg, a0, a1, a2, a3⟩ := hLr.at_ hp
      have hsn := sweepL_snoc hal (L.take k) p now
      rw [← takeP_snoc hp] at hsn
      have hdl := sweepL_len hal (L.take k) now
      have htl : (L.take k).length ≤ 1000 := by rw [List.length_take]; omega
      have HA := sh (fun W => rat lim hal ban (some ⟨g, 0, none⟩) L.length cp p.1 p.2 now W h1 (OK.out p (List.mem_of_getElem? hp)))
      have j0 := (SJ.out.below hbr (by omega)).cell 0
      have j1 := (SJ.out.below hbr (by omega)).cell 1
      have j2 := (SJ.out.below hbr (by omega)).cell 2
      have j3 := (SJ.out.below hbr (by omega)).cell 3
      have SC := sh ((RwS.mk (W0 := W0) (N := w.heap.size) (M := wr.heap.size) (B0 := w.heap.size + 1 + 1) ((SJ.out.below hbr (by omega)).alloc (.cells #[.string p.1, .int .i64 p.2.pts, .int .i64 p.2.at_, .int .i64 p.2.til] 53))
        (Bk.made wr 53 #[.string p.1, .int .i64 p.2.pts, .int .i64 p.2.at_, .int .i64 p.2.til])
        (ho.alloc (.cells #[.string p.1, .int .i64 p.2.pts, .int .i64 p.2.at_, .int .i64 p.2.til] 53))
        (hbr.alloc (show w.heap.size + 1 + 1 ≤ wr.heap.size by omega) (.cells #[.string p.1, .int .i64 p.2.pts, .int .i64 p.2.at_, .int .i64 p.2.til] 53)) (by omega))).cells
      have HW := sh (show (wr.alloc (.cells #[.string p.1, .int .i64 p.2.pts, .int .i64 p.2.at_, .int .i64 p.2.til] 53)).heap.size = wr.heap.size + 1 by simp)
      by_cases e1 : 0 < atZ hal p.2.pts p.2.at_ now
      · have hst : stays hal now p = true := by unfold stays; simp [e1]
        rw [if_pos hst] at hsn
        have HS := sh (show prsC (sweepL hal (L.take k) now) ++ [.string p.1, .int .i64 p.2.pts, .int .i64 p.2.at_, .int .i64 p.2.til] = prsC (sweepL hal (L.take (k + 1)) now) by rw [hsn, prsC_snoc]; rfl)
        have HN := sh (show (sweepL hal (L.take k) now).length + 1 = (sweepL hal (L.take (k + 1)) now).length by rw [hsn]; simp)
        have hd1 := decide_eq_true e1
        obtain ⟨nm, pts, at_, til⟩ := p
        simp only at a0 a1 a2 a3 HA SC HW HS hd1
        clear hp hLr ho hsn hst e1 hbr
        go_wp2_with fail
        generalize (wr.alloc (.cells #[.string nm, .int .i64 pts, .int .i64 at_, .int .i64 til] 53)) = W1 at *
        obtain ⟨c0, c1, c2, c3, c4, c5, c6, c7, SC1⟩ := SC.out
        have SC2 := sh SC1
        clear SC SC1 a0 a1 a2 a3
        have HC := sh ((SC2.out.below (below_drewN (Below.refl _ _) 1)).cells)
        refine wp_region_held_drew (S := fun W => RwC W0 w.heap.size wr.heap.size (w.heap.size + 1 + 1) lim hal ban (some ⟨g, 0, none⟩) L.length cp nm pts at_ til (.slice ax (sweepL hal (L.take k) now).length cx) (sweepL hal (L.take k) now).length (prsC (sweepL hal (L.take k) now)) W) (by kernel_rfl) ?_ (fun hHeld => ?_)
        · exact HC.out
        refine wpAnyH_take (i := 0) (v := ?_) rfl (by kernel_rfl) (by kernel_rfl) (by kernel_rfl) (fun _ _ _ h => h) (Or.inl ⟨by rfl, ?_⟩) (by assumption) ?_
        case refine_2 => (intro wS hSw; (try dsimp only at hSw); go_simp <;> with_reducible rfl)
        try simp only [Act.put, List.setIfInBounds_toArray, List.set_cons_zero, List.set_cons_succ, List.getElem_toArray, List.getElem_cons_zero, List.getElem_cons_succ]
        refine wpAnyH_take (i := 1) (v := ?_) rfl (by kernel_rfl) (by kernel_rfl) (by kernel_rfl) (fun _ _ _ h => h) (Or.inl ⟨by rfl, ?_⟩) (by assumption) ?_
        case refine_2 => (intro wS hSw; (try dsimp only at hSw); go_simp <;> with_reducible rfl)
        try simp only [Act.put, List.setIfInBounds_toArray, List.set_cons_zero, List.set_cons_succ, List.getElem_toArray, List.getElem_cons_zero, List.getElem_cons_succ]
        refine wpAnyH_take (i := 2) (v := ?_) rfl (by kernel_rfl) (by kernel_rfl) (by kernel_rfl) (fun _ _ _ h => h) (Or.inl ⟨by rfl, ?_⟩) (by assumption) ?_
        case refine_2 => (intro wS hSw; (try dsimp only at hSw); go_simp <;> with_reducible rfl)
        try simp only [Act.put, List.setIfInBounds_toArray, List.set_cons_zero, List.set_cons_succ, List.getElem_toArray, List.getElem_cons_zero, List.getElem_cons_succ]
        refine wpAnyH_ready (rs := [3]) (by kernel_rfl) (by simp) ?_
        refine AllReadyH.cons rfl (fun K hK => ?_) AllReadyH.nil
        go_simp
        refine (HA.out _).mono ?_
        rintro e' w3 ⟨rfl, hbA⟩
        go_wp2_with fail
        refine hK.out _ _ (rwc_keep hHeld hbA) (fun hHeld2 => ?_)
        clear hK K
        try simp only [Act.put, List.setIfInBounds_toArray, List.set_cons_zero, List.set_cons_succ, List.getElem_toArray, List.getElem_cons_zero, List.getElem_cons_succ]
        refine wpAnyH_take (i := 4) (v := ?_) rfl (by kernel_rfl) (by kernel_rfl) (by kernel_rfl) (fun _ _ _ h => h) (Or.inl ⟨by rfl, ?_⟩) (by assumption) ?_
        case refine_2 => (intro wS hSw; (try dsimp only at hSw); go_simp <;> with_reducible rfl)
        try simp only [Act.put, List.setIfInBounds_toArray, List.set_cons_zero, List.set_cons_succ, List.getElem_toArray, List.getElem_cons_zero, List.getElem_cons_succ]
        refine wpAnyH_take (i := 5) (v := ?_) rfl (by kernel_rfl) (by kernel_rfl) (by kernel_rfl) (fun _ _ _ h => h) (Or.inl ⟨by rfl, ?_⟩) (by assumption) ?_
        case refine_2 => (intro wS hSw; (try dsimp only at hSw); go_simp <;> with_reducible rfl)
        try simp only [Act.put, List.setIfInBounds_toArray, List.set_cons_zero, List.set_cons_succ, List.getElem_toArray, List.getElem_cons_zero, List.getElem_cons_succ]
        refine wpAnyH_take (i := 6) (v := undef) rfl (by kernel_rfl) (by kernel_rfl) (by kernel_rfl) (fun _ _ _ h => h) (Or.inr ⟨by rfl, rfl⟩) (by assumption) ?_
        try simp only [Act.put, List.setIfInBounds_toArray, List.set_cons_zero, List.set_cons_succ, List.getElem_toArray, List.getElem_cons_zero, List.getElem_cons_succ]
        refine wpAnyH_take (i := 7) (v := undef) rfl (by kernel_rfl) (by kernel_rfl) (by kernel_rfl) (fun _ _ _ h => h) (Or.inr ⟨by rfl, rfl⟩) (by assumption) ?_
        try simp only [Act.put, List.setIfInBounds_toArray, List.set_cons_zero, List.set_cons_succ, List.getElem_toArray, List.getElem_cons_zero, List.getElem_cons_succ]
        refine wpAnyH_take (i := 8) (v := undef) rfl (by kernel_rfl) (by kernel_rfl) (by kernel_rfl) (fun _ _ _ h => h) (Or.inr ⟨by rfl, rfl⟩) (by assumption) ?_
        try simp only [Act.put, List.setIfInBounds_toArray, List.set_cons_zero, List.set_cons_succ, List.getElem_toArray, List.getElem_cons_zero, List.getElem_cons_succ]
        refine wpAnyH_take (i := 9) (v := undef) rfl (by kernel_rfl) (by kernel_rfl) (by kernel_rfl) (fun _ _ _ h => h) (Or.inr ⟨by rfl, rfl⟩) (by assumption) ?_
        try simp only [Act.put, List.setIfInBounds_toArray, List.set_cons_zero, List.set_cons_succ, List.getElem_toArray, List.getElem_cons_zero, List.getElem_cons_succ]
        refine wpAnyH_take (i := 10) (v := undef) rfl (by kernel_rfl) (by kernel_rfl) (by kernel_rfl) (fun _ _ _ h => h) (Or.inr ⟨by rfl, rfl⟩) (by assumption) ?_
        try simp only [Act.put, List.setIfInBounds_toArray, List.set_cons_zero, List.set_cons_succ, List.getElem_toArray, List.getElem_cons_zero, List.getElem_cons_succ]
        refine wpAnyH_take (i := 11) (v := ?_) rfl (by kernel_rfl) (by kernel_rfl) (by kernel_rfl) (fun _ _ _ h => h) (Or.inl ⟨by rfl, ?_⟩) (by assumption) ?_
        case refine_2 => (intro wS hSw; (try dsimp only at hSw); go_simp <;> with_reducible rfl)
        try simp only [Act.put, List.setIfInBounds_toArray, List.set_cons_zero, List.set_cons_succ, List.getElem_toArray, List.getElem_cons_zero, List.getElem_cons_succ]
        refine wpAnyH_done (by kernel_rfl) ?_ _
        have hH := hHeld2
        all_goals
          obtain ⟨d0, d1, d2, d3, p0, p1, p2, p3, HE⟩ := hH
          have SE := sh HE
          have hown := HE.own
          have hbe := HE.bel
          have hMl := HE.pbox.lt
          clear HE SC2 HC HA
          have hBz := hbe.size
          go_wp2_with (at_builtin; refine wpList_append_own _ rfl _ _ 41 rfl (w.heap.size + 1 + 1) 53 i53 (.agg #[.string ⟨#[]⟩, .int .i64 0, .int .i64 0, .int .i64 0]) 4 40 Tryd.underlying41 hb0 hb1' hb2 hb3 rfl (by decide) _ _ _ rfl (hown.alloc _) ⟨_, 0, none⟩ 1 1 [.string nm, .int .i64 pts, .int .i64 at_, .int .i64 til] rfl rfl (cells_new _ _ _) (by simp [Value.oneCell']) (by unfold maxLen; omega) (by omega) (by simp; omega) ?_; intro v2 w2 hown2 hg2 _; have hb2' := below_append (hbe.alloc (by omega) _) (hown.alloc _) (by simp; omega) hg2; rw [HS.out, HN.out] at hown2)
          go_roundw
          case rel => exact ⟨k + 1, by omega, by go_num, hown2, hb2'⟩
          case measure => simp [RowKit.intOf]; omega
      · have e1' : decide (0 < atZ hal p.2.pts p.2.at_ now) = false := decide_eq_false e1
        by_cases e2 : clipZ now < p.2.til
        · have hst : stays hal now p = true := by unfold stays; simp [e2]
          rw [if_pos hst] at hsn
          have HS := sh (show prsC (sweepL hal (L.take k) now) ++ [.string p.1, .int .i64 p.2.pts, .int .i64 p.2.at_, .int .i64 p.2.til] = prsC (sweepL hal (L.take (k + 1)) now) by rw [hsn, prsC_snoc]; rfl)
          have HN := sh (show (sweepL hal (L.take k) now).length + 1 = (sweepL hal (L.take (k + 1)) now).length by rw [hsn]; simp)
          have e2' := decide_eq_true e2
          obtain ⟨nm, pts, at_, til⟩ := p
          simp only at a0 a1 a2 a3 HA SC HW HS e1' e2'
          clear hp hLr ho hsn hst e1 e2 hbr
          go_wp2_with fail
          generalize (wr.alloc (.cells #[.string nm, .int .i64 pts, .int .i64 at_, .int .i64 til] 53)) = W1 at *
          obtain ⟨c0, c1, c2, c3, c4, c5, c6, c7, SC1⟩ := SC.out
          have SC2 := sh SC1
          clear SC SC1 a0 a1 a2 a3
          have HC := sh ((SC2.out.below (below_drewN (Below.refl _ _) 1)).cells)
          go_region_held3 (fun W => RwC W0 w.heap.size wr.heap.size (w.heap.size + 1 + 1) lim hal ban (some ⟨g, 0, none⟩) L.length cp nm pts at_ til (.slice ax (sweepL hal (L.take k) now).length cx) (sweepL hal (L.take k) now).length (prsC (sweepL hal (L.take k) now)) W)
              (first | assumption | exact HC.out | exact rwc_keep (by assumption) (by assumption))
              (first
                | (go_at_call 28; refine (HA.out _).mono ?_; rintro e' w3 ⟨rfl, hbA⟩)
                | (go_at_call 29; refine (rclip _ _).mono ?_; rintro e' w3 ⟨rfl, rfl⟩))
          all_goals
            rename_i hH
            obtain ⟨d0, d1, d2, d3, p0, p1, p2, p3, HE⟩ := hH
            have SE := sh HE
            have hown := HE.own
            have hbe := HE.bel
            have hMl := HE.pbox.lt
            clear HE SC2 HC HA
            have hBz := hbe.size
            go_wp2_with (at_builtin; refine wpList_append_own _ rfl _ _ 41 rfl (w.heap.size + 1 + 1) 53 i53 (.agg #[.string ⟨#[]⟩, .int .i64 0, .int .i64 0, .int .i64 0]) 4 40 Tryd.underlying41 hb0 hb1' hb2 hb3 rfl (by decide) _ _ _ rfl (hown.alloc _) ⟨_, 0, none⟩ 1 1 [.string nm, .int .i64 pts, .int .i64 at_, .int .i64 til] rfl rfl (cells_new _ _ _) (by simp [Value.oneCell']) (by unfold maxLen; omega) (by omega) (by simp; omega) ?_; intro v2 w2 hown2 hg2 _; have hb2' := below_append (hbe.alloc (by omega) _) (hown.alloc _) (by simp; omega) hg2; rw [HS.out, HN.out] at hown2)
            go_roundw
            case rel => exact ⟨k + 1, by omega, by go_num, hown2, hb2'⟩
            case measure => simp [RowKit.intOf]; omega
        · have hst : ¬ stays hal now p = true := by unfold stays; simp [e1, e2]
          rw [if_neg hst, List.append_nil] at hsn
          have HS := sh hsn
          have e2' := decide_eq_false e2
          obtain ⟨nm, pts, at_, til⟩ := p
          simp only at a0 a1 a2 a3 HA SC HW HS e1' e2'
          clear hp hLr ho hsn hst e1 e2 hbr
          go_wp2_with fail
          generalize (wr.alloc (.cells #[.string nm, .int .i64 pts, .int .i64 at_, .int .i64 til] 53)) = W1 at *
          obtain ⟨c0, c1, c2, c3, c4, c5, c6, c7, SC1⟩ := SC.out
          have SC2 := sh SC1
          clear SC SC1 a0 a1 a2 a3
          have HC := sh ((SC2.out.below (below_drewN (Below.refl _ _) 1)).cells)
          go_region_held3 (fun W => RwC W0 w.heap.size wr.heap.size (w.heap.size + 1 + 1) lim hal ban (some ⟨g, 0, none⟩) L.length cp nm pts at_ til (.slice ax (sweepL hal (L.take k) now).length cx) (sweepL hal (L.take k) now).length (prsC (sweepL hal (L.take k) now)) W)
              (first | assumption | exact HC.out | exact rwc_keep (by assumption) (by assumption))
              (first
                | (go_at_call 28; refine (HA.out _).mono ?_; rintro e' w3 ⟨rfl, hbA⟩)
                | (go_at_call 29; refine (rclip _ _).mono ?_; rintro e' w3 ⟨rfl, rfl⟩))
          all_goals
            rename_i hH
            obtain ⟨d0, d1, d2, d3, p0, p1, p2, p3, HE⟩ := hH
            have hown := HE.own
            have hbe := HE.bel
            clear HE SC2 HC HA
            have hBz := hbe.size
            go_wp2_with fail
            go_roundw
            case rel => exact ⟨k + 1, by omega, by go_num, by rw [HS.out]; exact hown, hbe⟩
            case measure => simp [RowKit.intOf]; omega
    · have hkk : k = L.length := by omega
      subst hkk
      rw [List.take_of_length_le (Nat.le_refl _)] at ho
      obtain ⟨a', cp', hv, hcp, hRow⟩ := rowP_of ho
      cases hv
      have j0 := (SJ.out.below hbr (by omega)).cell 0
      have j1 := (SJ.out.below hbr (by omega)).cell 1
      have j2 := (SJ.out.below hbr (by omega)).cell 2
      have j3 := (SJ.out.below hbr (by omega)).cell 3
      have f3 := (SJ.out.below hbr (by omega)).free 3
      have SRr := sh (SR.out.below hbr (by omega))
      have SJr := sh (SJ.out.below hbr (by omega))
      have SRow := sh hRow
      have SHc := sh hcp
      have hsl := sweepL_len hal L now
      have r0 := SRr.out.cell 0
      have r1 := SRr.out.cell 1
      have r2 := SRr.out.cell 2
      have r3 := SRr.out.cell 3
      have y0 := SRr.out.free 0
      have y1 := SRr.out.free 1
      have y2 := SRr.out.free 2
      have y3 := SRr.out.free 3
      have SB := sh (SW.out.trans (hbr.mono (by omega)))
      clear hRow ho hcp
      go_wp2_with fail
      have hne : w.heap.size + 1 ≠ w.heap.size := by omega
      have SR1 := SRr.out.far (p := ⟨w.heap.size, 3, none⟩) hne (.slice ax (sweepL hal L now).length cx)
      have SR2 := SR1.put 0 (.int .i64 lim)
      have SR3 := SR2.put 1 (.int .i64 hal)
      have SR4 := SR3.put 2 (.int .i64 ban)
      have SE := SR4.put 3 (.slice ax (sweepL hal L now).length cx)
      have hF := ((((SRow.out.set (p := ⟨w.heap.size, 3, none⟩) SJr.out (by decide) (.slice ax (sweepL hal L now).length cx)).set (p := ⟨w.heap.size + 1, 0, none⟩) SR1 (by decide) (.int .i64 lim)).set (p := ⟨w.heap.size + 1, 1, none⟩) SR2 (by decide) (.int .i64 hal)).set (p := ⟨w.heap.size + 1, 2, none⟩) SR3 (by decide) (.int .i64 ban)).set (p := ⟨w.heap.size + 1, 3, none⟩) SR4 (by decide) (.slice ax (sweepL hal L now).length cx)
      have SWE := ((((SB.out.setCell (p := ⟨w.heap.size, 3, none⟩) (Nat.le_refl _) (.slice ax (sweepL hal L now).length cx)).setCell (p := ⟨w.heap.size + 1, 0, none⟩) (by simp) (.int .i64 lim)).setCell (p := ⟨w.heap.size + 1, 1, none⟩) (by simp) (.int .i64 hal)).setCell (p := ⟨w.heap.size + 1, 2, none⟩) (by simp) (.int .i64 ban)).setCell (p := ⟨w.heap.size + 1, 3, none⟩) (by simp) (.slice ax (sweepL hal L now).length cx)
      have e0 := SE.cell 0
      have e1 := SE.cell 1
      have e2 := SE.cell 2
      have e3 := SE.cell 3
      clear r0 r1 r2 r3 j0 j1 j2 j3
      generalize (((((wr.setCell ⟨w.heap.size, 3, none⟩ (.slice ax (sweepL hal L now).length cx)).setCell ⟨w.heap.size + 1, 0, none⟩ (.int .i64 lim)).setCell ⟨w.heap.size + 1, 1, none⟩ (.int .i64 hal)).setCell ⟨w.heap.size + 1, 2, none⟩ (.int .i64 ban)).setCell ⟨w.heap.size + 1, 3, none⟩ (.slice ax (sweepL hal L now).length cx)) = W at *
      simp at e0 e1 e2 e3
      refine bodyPost_ret (v := .tuple #[BV lim hal ban ax (sweepL hal L now).length cx, .int .i64 ((L.length : Int) - ((sweepL hal L now).length : Int))]) ?_ ?_ ⟨ax, cx, rfl, SHc.out, hF, SWE⟩
      · simp [results, Tryd.results18, go_sem, e0, e1, e2, e3, BV]
      · rfl
end Go.Proofs.YtckdahojhdbpjaaDoor
