/- The reference's board (layer 29): Names. -/
import Derived.Test.YtckdahojhdbpjaaDoorQ1
namespace Go.Proofs.YtckdahojhdbpjaaDoor
set_option linter.unusedVariables false
set_option linter.unusedSimpArgs false
open Go.RowKit

theorem infoS9 : (Tryd.prog.info? 9).map (fun i => (i.zero, i.size, i.bytes)) = some (some (.string ⟨#[]⟩), 1, 16) := by kernel_rfl
def nmsL (L : LA) : List ByteArray := L.map Prod.fst
def namesL (L : LA) : List ByteArray := sortN (L.map fun p => p.1.data.toList)
theorem namesL_len (L : LA) : (namesL L).length = L.length := by unfold namesL; rw [sortN_len, List.length_map]
def NamesPost (w : World) (L : LA) (e : Ending) (w' : World) : Prop :=
  ∃ a cp, e = .returned (.slice a L.length cp) ∧ RowS w' a (namesL L) ∧ Below w.heap.size w w'
/-- the row while it is put in order -/
structure NmS (W0 : World) (B g : Nat) (xs : List ByteArray) (W : World) : Prop where
  row : ∃ cur, Bk W g 9 cur ∧ xs.length ≤ cur.size ∧ ∀ (i : Nat) (x : ByteArray), xs[i]? = some x → cur[i]? = some (.string x)
  gB : B ≤ g
  bel : Below B W0 W
theorem NmS.at_ {W0 W : World} {B g : Nat} {xs : List ByteArray} (h : NmS W0 B g xs W) {i : Nat} {x : ByteArray} (hi : xs[i]? = some x) : W.cell? ⟨g, i, none⟩ = some (.string x) := by
  obtain ⟨cur, h1, _, h3⟩ := h.row
  exact (h1.cell i).trans (h3 i x hi)
theorem NmS.free {W0 W : World} {B g : Nat} {xs : List ByteArray} (h : NmS W0 B g xs W) (i : Nat) : W.frozen? ⟨g, i, none⟩ = false := by
  obtain ⟨cur, h1, _⟩ := h.row
  exact h1.free i
theorem NmS.drewN {W0 W : World} {B g : Nat} {xs : List ByteArray} (h : NmS W0 B g xs W) (n : Nat) : NmS W0 B g xs (W.drewN n) := by
  obtain ⟨cur, h1, h2⟩ := h.row
  exact ⟨⟨cur, h1.drewN n, h2⟩, h.gB, below_drewN h.bel n⟩
theorem NmS.set {W0 W : World} {B g : Nat} {xs : List ByteArray} (h : NmS W0 B g xs W) (i : Nat) (x : ByteArray) : NmS W0 B g (xs.set i x) (W.setCell ⟨g, i, none⟩ (.string x)) := by
  obtain ⟨cur, h1, h2, h3⟩ := h.row
  refine ⟨⟨_, h1.put i _, by simpa using h2, fun j y hj => ?_⟩, h.gB, h.bel.setCell (p := ⟨g, i, none⟩) h.gB _⟩
  rw [Array.getElem?_setIfInBounds]
  rw [List.getElem?_set] at hj
  by_cases e : i = j
  · rw [if_pos e] at hj ⊢
    have hl : j < xs.length := by
      apply Classical.byContradiction
      intro hc
      rw [if_neg (by omega)] at hj; cases hj
    rw [if_pos (by omega)] at hj ⊢
    cases hj; rfl
  · rw [if_neg e] at hj ⊢
    exact h3 j y hj
theorem NmS.cast {W0 W : World} {B g : Nat} {xs ys : List ByteArray} (h : NmS W0 B g xs W) (e : xs = ys) : NmS W0 B g ys W := e ▸ h
set_option maxRecDepth 100000 in
set_option maxHeartbeats 4000000 in
theorem rnames (lim hal ban : Int) (a : Option Addr) (L : LA) (cp : Nat) (w : World) (hL : RowP w a L) (hn : L.length ≤ 1000) : Calls Tryd.prog 20 #[.agg #[.int .i64 lim, .int .i64 hal, .int .i64 ban, .slice a L.length cp]] w (NamesPost w L) := by
  obtain ⟨i9, hb0, hb1', hb2, hb3⟩ := info_parts infoS9
  have hJ := Bk.made w 43 #[.int .i64 lim, .int .i64 hal, .int .i64 ban, .slice a L.length cp]
  have hbw : Below w.heap.size w (w.alloc (.cells #[.int .i64 lim, .int .i64 hal, .int .i64 ban, .slice a L.length cp] 43)) := (Below.refl _ w).alloc (Nat.le_refl _) _
  have hLs := hL.below hbw
  have SJ := sh hJ
  have SW := sh hbw
  have SL := sh hLs
  clear hL hJ hbw hLs
  go_enter Tryd.func20, Tryd.ntmps20
  go_wp2_with fail
  have hsz0 : (w.alloc (.cells #[.int .i64 lim, .int .i64 hal, .int .i64 ban, .slice a L.length cp] 43)).heap.size = w.heap.size + 1 := by simp
  generalize (w.alloc (.cells #[.int .i64 lim, .int .i64 hal, .int .i64 ban, .slice a L.length cp] 43)) = W0 at *
  go_loopw [3, 4] (fun v3 v4 wr => ∃ k : Nat, k ≤ L.length ∧ v4 = .int .i64 (k : Int) ∧ wr.ownsRow (w.heap.size + 1) 9 1 v3 (nmsL (L.take k)).length ((nmsL (L.take k)).map Value.string) ∧ Below (w.heap.size + 1) W0 wr) (fun _ v4 _ => L.length - (RowKit.intOf v4).toNat)
  case atStart => exact ⟨0, by omega, rfl, own_row_nil _ _ _ _, Below.refl _ _⟩
  case round =>
    obtain ⟨k, hk, rfl, ho, hbr⟩ := hrel
    have hbz := hbr.size
    have j3 := (SJ.out.below hbr (by omega)).cell 3
    by_cases hlt : k < L.length
    · obtain ⟨p, hp⟩ : ∃ p, L[k]? = some p := ⟨_, List.getElem?_eq_getElem hlt⟩
      have hLr := SL.out.below (hbr.mono (by omega))
      obtain ⟨g, rfl, hg, a0, a1, a2, a3⟩ := hLr.at_ hp
      have hsn : nmsL (L.take (k + 1)) = nmsL (L.take k) ++ [p.1] := by rw [takeP_snoc hp]; simp [nmsL]
      have HC := sh (show (nmsL (L.take k)).map Value.string ++ [.string p.1] = (nmsL (L.take (k + 1))).map Value.string by rw [hsn]; simp)
      have HN := sh (show (nmsL (L.take k)).length + 1 = (nmsL (L.take (k + 1))).length by rw [hsn]; simp)
      have hnl : (nmsL (L.take k)).length ≤ 1000 := by unfold nmsL; rw [List.length_map, List.length_take]; omega
      clear hsn hp hLr
      go_wp2_with (at_builtin; refine wpList_append_own _ rfl _ _ 39 rfl (w.heap.size + 1) 9 i9 (.string ⟨#[]⟩) 1 16 Tryd.underlying39 hb0 hb1' hb2 hb3 rfl (by decide) _ _ _ rfl (ho.alloc _) ⟨wr.heap.size, 0, none⟩ 1 1 [.string p.1] rfl rfl (cell_one_new _ _ _) (by simp [Value.oneCell']) (by unfold maxLen; omega) (by omega) (by rw [World.size_alloc]; omega) ?_; intro v2 w2 hown2 hg2 _; have hb2' := below_append (hbr.alloc (by omega) _) (ho.alloc _) (by rw [World.size_alloc]; omega) hg2; rw [HC.out, HN.out] at hown2)
      go_roundw
      case rel => exact ⟨k + 1, by omega, by go_num, hown2, hb2'⟩
      case measure => simp [RowKit.intOf]; omega
    · have hkk : k = L.length := by omega
      subst hkk
      rw [List.take_of_length_le (Nat.le_refl _)] at ho
      obtain ⟨ax, cx, rfl, hrow, hparts⟩ := rowS_of ho
      have hlen : (nmsL L).length = L.length := by unfold nmsL; rw [List.length_map]
      have HEq := sh (show ∀ i xs, Srt (nmsL L) i xs → xs.length ≤ i → xs = namesL L from fun i xs h hi => by
        rw [h.eq hi]; unfold namesL nmsL; rw [List.map_map]; rfl)
      have SB := sh (SW.out.trans (hbr.mono (by omega)))
      by_cases hne : L = []
      · subst hne
        have HR := sh (show RowS wr ax (namesL []) from .inl (by unfold namesL sortN; simp))
        clear ho hrow hparts
        have hl0 : (nmsL []).length = 0 := rfl
        go_wp2_with fail
        go_loop [5] (fun v5 => v5 = .int .i64 1) (fun v5 => 0)
        case atStart => rfl
        case round =>
          obtain rfl := hrel
          go_wp2_with fail
          go_ret
          exact ⟨ax, cx, rfl, HR.out, SB.out⟩
      · obtain ⟨g, cur, rfl, hgB, hBk, hcs, hca⟩ := hparts (by intro e; apply hne; exact List.map_eq_nil_iff.1 e)
        have hpos : 0 < L.length := List.length_pos_iff.2 hne
        have SN := sh (NmS.mk (W0 := W0) (B := w.heap.size + 1) ⟨cur, hBk, hcs, hca⟩ hgB hbr)
        clear ho hrow hparts hBk hcs hca hne
        have HLen := sh hlen
        rw [hlen]
        clear hlen
        go_wp2_with fail
        go_loopw [5] (fun v5 wq => ∃ (i : Nat) (xs : List ByteArray), 1 ≤ i ∧ i ≤ L.length ∧ v5 = .int .i64 (i : Int) ∧ Sh (Srt (nmsL L) i xs) ∧ Sh (NmS W0 (w.heap.size + 1) g xs wq)) (fun v5 _ => L.length - (RowKit.intOf v5).toNat)
        case atStart => exact ⟨1, _, by omega, by omega, rfl, ⟨srt_start _⟩, SN⟩
        case round =>
          clear SN SB
          obtain ⟨i, xs, hi1, hi, rfl, HS, HM⟩ := hrel
          have hxl : xs.length = L.length := by rw [HS.out.len, HLen.out]
          by_cases hlt2 : i < L.length
          · have HI := sh (HS.out.ins (by omega))
            clear HS hxl
            go_wp2_with fail
            go_loopw [6] (fun v6 wt => ∃ (k : Nat) (ys : List ByteArray), k ≤ i ∧ v6 = .int .i64 (k : Int) ∧ Sh (Ins (nmsL L) i k ys) ∧ Sh (NmS W0 (w.heap.size + 1) g ys wt)) (fun v6 _ => (RowKit.intOf v6).toNat)
            case atStart => exact ⟨i, xs, Nat.le_refl _, rfl, HI, HM⟩
            case round =>
              clear HI HM
              obtain ⟨k, ys, hki, rfl, HI, HM⟩ := hrel
              by_cases hk0 : k = 0
              · subst hk0
                have HD := sh HI.out.done0
                have hd : decide ((0 : Int) < ((0 : Nat) : Int)) = false := by decide
                have hd2 : decide ((0 : Int) < 0) = false := by decide
                go_wp2_with fail
                go_quiet (fail)
                all_goals
                  have HM2 := sh (HM.out.drewN nq)
                  go_wp2_with fail
                  go_roundw
                  case rel => exact ⟨i + 1, ys, by omega, by omega, by go_num, HD, HM2⟩
                  case measure => simp [RowKit.intOf]; omega
              · obtain ⟨q, rfl⟩ : ∃ q, k = q + 1 := ⟨k - 1, by omega⟩
                obtain ⟨x, y, hx, hy, hql, hF, hT⟩ := HI.out.at_
                have hyl : ys.length = L.length := by rw [HI.out.len, HLen.out]
                have c1 : _ := HM.out.at_ hx
                have c0 : _ := HM.out.at_ hy
                have f1 := HM.out.free (q + 1)
                have f0 := HM.out.free q
                have HFs := sh hF
                have HTs := sh hT
                clear hF hT hx hy HI
                have hqn : (((q : Int) + 1) - 1) = (q : Int) := by omega
                have hd : decide ((0 : Int) < (q : Int) + 1) = true := by rw [decide_eq_true_iff]; omega
                cases hb : ltN x y with
                | false =>
                  have HD := sh (HFs.out hb)
                  have hb' : Op.bytesLess x.toList y.toList = false := hb
                  clear HFs HTs hb
                  go_wp2_with fail
                  go_quiet (fail)
                  all_goals
                    have HM2 := sh (HM.out.drewN nq)
                    go_wp2_with fail
                    go_roundw
                    case rel => exact ⟨i + 1, ys, by omega, by omega, by go_num, HD, HM2⟩
                    case measure => simp [RowKit.intOf]; omega
                | true =>
                  have HD := sh (HTs.out hb)
                  have hb' : Op.bytesLess x.toList y.toList = true := hb
                  clear HFs HTs hb
                  go_wp2_with fail
                  go_quiet (fail)
                  all_goals
                    have HM2 := sh (HM.out.drewN nq)
                    clear HM
                    go_wp2_with fail
                    go_region
                  all_goals
                    have hsc : (ys.set q x).set (q + 1) y = (ys.set (q + 1) y).set q x := List.set_comm _ _ (by omega)
                    have HMa := sh (((HM2.out.drewN 1).set (q + 1) y).set q x)
                    have HMb := sh ((((HM2.out.drewN 1).set q x).set (q + 1) y).cast hsc)
                    go_wp2_with fail
                    go_roundw
                    case rel => first | exact ⟨q, _, by omega, by go_num, HD, HMa⟩ | exact ⟨q, _, by omega, by go_num, HD, HMb⟩
                    case measure => simp [RowKit.intOf]
          · have HN := sh (HEq.out i xs HS.out (by omega))
            go_wp2_with fail
            go_ret
            exact ⟨_, cx, rfl, by rw [← HN.out]; exact .inr (let ⟨c, h⟩ := HM.out.row; ⟨g, c, rfl, h⟩), SW.out.trans (HM.out.bel.mono (by omega))⟩
end Go.Proofs.YtckdahojhdbpjaaDoor
