/- The reference's joiner (layer 30): Drop. -/
import Derived.Test.YtoclbcpfiacoaaaR1
namespace Go.Proofs.Ytoclbcpfiacoaaa
set_option linter.unusedVariables false
set_option linter.unusedSimpArgs false
open Go.RowKit

def dropL (L : List PT) (id : Int) : List PT := L.filter fun p => !decide (p.1 = id)
theorem dropL_len (L : List PT) (id : Int) : (dropL L id).length ≤ L.length := List.length_filter_le _ _
theorem dropL_snoc (L : List PT) (p : PT) (id : Int) : dropL (L ++ [p]) id = dropL L id ++ (if p.1 = id then [] else [p]) := by
  unfold dropL
  rw [List.filter_append]
  by_cases h : p.1 = id <;> simp [h]
def JV (most opn : Int) (a : Option Addr) (n cp : Nat) : Value := .agg #[.int .i64 most, .int .i64 opn, .slice a n cp]
def DropPost (w : World) (most opn : Int) (L' : List PT) (b : Bool) (e : Ending) (w' : World) : Prop :=
  ∃ a cp, e = .returned (.tuple #[JV most opn a L'.length cp, .bool b]) ∧ L'.length ≤ cp ∧ RowL w' a L' ∧ Below w.heap.size w w'
set_option maxRecDepth 100000 in
set_option maxHeartbeats 1000000 in
theorem rdrop (most opn : Int) (a : Option Addr) (L : List PT) (cp : Nat) (id : Int) (w : World) (hL : RowL w a L) (hn : L.length ≤ 1000) : Calls Try.prog 18 #[.agg #[.int .i64 most, .int .i64 opn, .slice a L.length cp], .int .i64 id] w (DropPost w most opn (dropL L id) (decide ((dropL L id).length < L.length))) := by
  obtain ⟨i31, hb0, hb1', hb2, hb3⟩ := info_parts info31
  have hJ := (Bk.made w 46 #[.int .i64 most, .int .i64 opn, .slice a L.length cp]).alloc (.cells #[.int .i64 0, .int .i64 0, .slice none 0 0] 46)
  have hR := Bk.made (w.alloc (.cells #[.int .i64 most, .int .i64 opn, .slice a L.length cp] 46)) 46 #[.int .i64 0, .int .i64 0, .slice none 0 0]
  rw [World.size_alloc] at hR
  have hbw : Below w.heap.size w ((w.alloc (.cells #[.int .i64 most, .int .i64 opn, .slice a L.length cp] 46)).alloc (.cells #[.int .i64 0, .int .i64 0, .slice none 0 0] 46)) := ((Below.refl _ w).alloc (Nat.le_refl _) _).alloc (by simp) _
  have hLs := hL.below hbw
  have SJ := sh hJ
  have SR := sh hR
  have SW := sh hbw
  have SL := sh hLs
  clear hL hJ hR hbw hLs
  go_enter Try.func18, Try.ntmps18
  go_wp2_with fail
  have hsz0 : ((w.alloc (.cells #[.int .i64 most, .int .i64 opn, .slice a L.length cp] 46)).alloc (.cells #[.int .i64 0, .int .i64 0, .slice none 0 0] 46)).heap.size = w.heap.size + 1 + 1 := by simp
  generalize ((w.alloc (.cells #[.int .i64 most, .int .i64 opn, .slice a L.length cp] 46)).alloc (.cells #[.int .i64 0, .int .i64 0, .slice none 0 0] 46)) = W0 at *
  go_loopw [6, 7] (fun v6 v7 wr => ∃ k : Nat, k ≤ L.length ∧ v7 = .int .i64 (k : Int) ∧ wr.ownsRow (w.heap.size + 1 + 1) 31 4 v6 (dropL (L.take k) id).length (ptsC (dropL (L.take k) id)) ∧ Below (w.heap.size + 1 + 1) W0 wr) (fun _ v7 _ => L.length - (RowKit.intOf v7).toNat)
  case atStart => exact ⟨0, by omega, rfl, own_row_nil _ _ _ _, Below.refl _ _⟩
  case round =>
    obtain ⟨k, hk, rfl, ho, hbr⟩ := hrel
    have j0 := (SJ.out.below hbr (by omega)).cell 0
    have j1 := (SJ.out.below hbr (by omega)).cell 1
    have j2 := (SJ.out.below hbr (by omega)).cell 2
    have f2 := (SJ.out.below hbr (by omega)).free 2
    have hbz := hbr.size
    by_cases hlt : k < L.length
    · obtain ⟨p, hp⟩ : ∃ p, L[k]? = some p := ⟨_, List.getElem?_eq_getElem hlt⟩
      have hLr := SL.out.below (hbr.mono (by omega))
      obtain ⟨g, rfl, hg, a0, a1, a2, a3⟩ := hLr.at_ hp
      have hsn := dropL_snoc (L.take k) p id
      rw [← take_snoc' hp] at hsn
      have hdl := dropL_len (L.take k) id
      have htl : (L.take k).length ≤ 1000 := by rw [List.length_take]; omega
      by_cases e : p.1 = id
      · have be : (p.1 != id) = false := by rw [bne_eq_false_iff_eq]; exact e
        rw [if_pos e, List.append_nil] at hsn
        have HS := sh hsn
        clear hsn hp e hLr
        go_wp2
        go_roundw
        case rel => exact ⟨k + 1, by omega, by go_num, by rw [HS.out]; exact ho, hbr⟩
        case measure => simp [RowKit.intOf]; omega
      · have be : (p.1 != id) = true := by rw [bne_iff_ne]; exact e
        rw [if_neg e] at hsn
        have HS := sh (show ptsC (dropL (L.take k) id) ++ [.int .i64 p.1, .int .i64 p.2.1, .int .i64 p.2.2.1, .string p.2.2.2] = ptsC (dropL (L.take (k + 1)) id) by rw [hsn, ptsC_snoc]; rfl)
        have HN := sh (show (dropL (L.take k) id).length + 1 = (dropL (L.take (k + 1)) id).length by rw [hsn]; simp)
        clear hsn hp e hLr
        go_wp2_with (at_builtin; refine wpList_append_own _ rfl _ _ 27 rfl (w.heap.size + 1 + 1) 31 i31 (.agg #[.int .i64 0, .int .i64 0, .int .i64 0, .string ⟨#[]⟩]) 4 40 Try.underlying27 hb0 hb1' hb2 hb3 rfl (by decide) _ _ _ rfl (ho.alloc _) ⟨wr.heap.size, 0, none⟩ 1 1 [.int .i64 p.1, .int .i64 p.2.1, .int .i64 p.2.2.1, .string p.2.2.2] rfl rfl (cells_new _ _ _) (by simp [Value.oneCell']) (by unfold maxLen; omega) (by omega) (by simp; omega) ?_; intro v2 w2 hown2 hg2 _; have hb2' := below_append (hbr.alloc (by omega) _) (ho.alloc _) (by simp; omega) hg2; rw [HS.out, HN.out] at hown2)
        go_roundw
        case rel => exact ⟨k + 1, by omega, by go_num, hown2, hb2'⟩
        case measure => simp [RowKit.intOf]; omega
    · have hkk : k = L.length := by omega
      subst hkk
      rw [List.take_of_length_le (Nat.le_refl _)] at ho
      obtain ⟨a', cp', rfl, hcp, hRow⟩ := rowL_of ho
      have SRr := sh (SR.out.below hbr (by omega))
      have SJr := sh (SJ.out.below hbr (by omega))
      have SRow := sh hRow
      have SHc := sh hcp
      have r0 := SRr.out.cell 0
      have r1 := SRr.out.cell 1
      have r2 := SRr.out.cell 2
      have y0 := SRr.out.free 0
      have y1 := SRr.out.free 1
      have y2 := SRr.out.free 2
      have SB := sh (SW.out.trans (hbr.mono (by omega)))
      clear hRow ho hcp
      go_wp2_with fail
      have hne : w.heap.size + 1 ≠ w.heap.size := by omega
      have SR1 := SRr.out.far (p := ⟨w.heap.size, 2, none⟩) hne (.slice a' (dropL L id).length cp')
      have SR2 := SR1.put 0 (.int .i64 most)
      have SR3 := SR2.put 1 (.int .i64 opn)
      have SE := SR3.put 2 (.slice a' (dropL L id).length cp')
      have hF := (((SRow.out.set (p := ⟨w.heap.size, 2, none⟩) SJr.out (by decide) (.slice a' (dropL L id).length cp')).set (p := ⟨w.heap.size + 1, 0, none⟩) SR1 (by decide) (.int .i64 most)).set (p := ⟨w.heap.size + 1, 1, none⟩) SR2 (by decide) (.int .i64 opn)).set (p := ⟨w.heap.size + 1, 2, none⟩) SR3 (by decide) (.slice a' (dropL L id).length cp')
      have SWE := (((SB.out.setCell (p := ⟨w.heap.size, 2, none⟩) (Nat.le_refl _) (.slice a' (dropL L id).length cp')).setCell (p := ⟨w.heap.size + 1, 0, none⟩) (by simp) (.int .i64 most)).setCell (p := ⟨w.heap.size + 1, 1, none⟩) (by simp) (.int .i64 opn)).setCell (p := ⟨w.heap.size + 1, 2, none⟩) (by simp) (.slice a' (dropL L id).length cp')
      have e0 := SE.cell 0
      have e1 := SE.cell 1
      have e2 := SE.cell 2
      clear r0 r1 r2 j0 j1 j2
      generalize ((((wr.setCell ⟨w.heap.size, 2, none⟩ (.slice a' (dropL L id).length cp')).setCell ⟨w.heap.size + 1, 0, none⟩ (.int .i64 most)).setCell ⟨w.heap.size + 1, 1, none⟩ (.int .i64 opn)).setCell ⟨w.heap.size + 1, 2, none⟩ (.slice a' (dropL L id).length cp')) = W at *
      simp at e0 e1 e2
      refine bodyPost_ret (v := .tuple #[JV most opn a' (dropL L id).length cp', .bool (decide ((dropL L id).length < L.length))]) ?_ ?_ ⟨a', cp', rfl, SHc.out, hF, SWE⟩
      · simp [results, Try.results18, go_sem, e0, e1, e2, JV]
      · rfl
end Go.Proofs.Ytoclbcpfiacoaaa
