/- (*Board).Fault where the peer is not on the board: it is put there; contract over the loaded program. -/
import Derived.Test.YtckdahojhdbpjaaDoorLeaf
import Derived.Maps.OwnSet
import Derived.StringKeys
namespace Go.Proofs.YtckdahojhdbpjaaDoor
set_option linter.unusedVariables false
set_option linter.unusedSimpArgs false
open Go.RowKit

def FaultNewPost (nm : ByteArray) (m n : Nat) (D : DataW Nat) (w : World) (p : Acc) (e' : Ending) (w' : World) : Prop :=
  ∃ w1, w.heap.size < w1.heap.size ∧ w1.ownsMap Tryd.prog 9 ptrElem m (n + 1) (D.put (.string nm.data.toList) (.held w.heap.size)) ∧ w.grownBy w1 (some m) ∧ e' = .returned (.int .i64 p.pts) ∧ FP w.heap.size w1 p w'
theorem FP.postN {gp : Nat} {w w1 w' : World} {p q : Acc} {nm : ByteArray} {m n : Nat} {D : DataW Nat} {x : Int} (h : FP gp w1 p w') (hgp : gp = w.heap.size) (hs : w.heap.size < w1.heap.size)
    (ho : w1.ownsMap Tryd.prog 9 ptrElem m (n + 1) (D.put (.string nm.data.toList) (.held w.heap.size))) (hg : w.grownBy w1 (some m)) (e : p = q) (ex : x = q.pts) : FaultNewPost nm m n D w q (.returned (.int .i64 x)) w' := by
  subst e; subst ex; subst hgp
  exact ⟨w1, hs, ho, hg, rfl, h⟩
set_option maxHeartbeats 2000000 in
set_option maxRecDepth 100000 in
theorem fault_new (lim hal ban now e : Int) (gb m n : Nat) (D : DataW Nat) (nm : ByteArray) (w : World) (hl : 1 ≤ lim) (hlM : lim ≤ 1000000) (h1 : 1 ≤ hal) (hb1 : 1 ≤ ban) (hb2 : ban ≤ 1099511627776)
    (hT : Tab w) (h0 : 0 < m) (hmore : 0 < ptsZ e) (hnm : nm.size ≤ maxLen) (hn : n < maxLen)
    (HB : Bk w gb 59 #[.int .i64 lim, .int .i64 hal, .int .i64 ban, .map (some m)]) (HM : w.ownsMap Tryd.prog 9 ptrElem m n D)
    (hlook : (Instr.lookup 57 (.map (some m)) (.string nm) true).run Tryd.prog w = .ok (.tuple #[.pointer none, .bool false]) w) :
    Calls Tryd.prog 9 #[.pointer (some ⟨gb, 0, none⟩), .string nm, .int .i64 now, .int .i64 e] w (FaultNewPost nm m n D w (faultA lim hal ban now (ptsZ e) ⟨0, clipZ now, 0⟩)) := by
  have hq := ptsZ_bd e
  have hcl := clipZ_bd now
  have hAA := atZ_bd hal 0 (clipZ now) now (Int.le_refl _)
  have hq0 : (ptsZ e == 0) = false := by simp; omega
  have hgl := HB.lt
  have c0 : w.cell? ⟨gb, 0, none⟩ = some (.int .i64 lim) := HB.cell 0
  have c1 : w.cell? ⟨gb, 1, none⟩ = some (.int .i64 hal) := HB.cell 1
  have c2 : w.cell? ⟨gb, 2, none⟩ = some (.int .i64 ban) := HB.cell 2
  have c3 : w.cell? ⟨gb, 3, none⟩ = some (.map (some m)) := HB.cell 3
  have hml := HM.lt
  have hgm : gb ≠ m := by
    obtain ⟨es, clock, hb, _⟩ := HM
    exact HB.ne_map hb
  have HBH := hide HB
  have hkey : keyOf Tryd.prog 9 (.string nm) = some (.string nm.data.toList) := WideMaps.keyOf_string_mk Tryd.underlying9 hnm
  clear HB
  go_enter Tryd.func9, Tryd.ntmps9
  go_wp2_with (first | (go_at_call 21; refine (points_any _ _ hT).mono ?_; rintro e' w' ⟨rfl, rfl⟩) | (go_at_call 24; refine (clip_any _ _).mono ?_; rintro e' w' ⟨rfl, rfl⟩) | (at_mapUpdate; refine wpList_mapUpdate_own _ rfl _ _ _ 57 rfl 9 60 (Maps.string_keyed Tryd.underlying9) Tryd.underlying57 ptrElem m n D rfl (HM.alloc _) hn _ _ (.string nm.data.toList) rfl rfl hkey _ [] (ptrElem_mk _) ?_; intro w1 hown1 hgrow1) | (go_at_call 25; fail))
  have HP1 : Bk w1 w.heap.size 64 (Acc.mk 0 (clipZ now) 0).cells := (Bk.made w 64 #[.int .i64 0, .int .i64 (clipZ now), .int .i64 0]).grown hgrow1 (by simp; omega)
  have HB1 : Bk w1 gb 59 #[.int .i64 lim, .int .i64 hal, .int .i64 ban, .map (some m)] := (HBH.out.alloc _).grown hgrow1 (by simp; omega)
  have c0 : w1.cell? ⟨gb, 0, none⟩ = some (.int .i64 lim) := HB1.cell 0
  have c1 : w1.cell? ⟨gb, 1, none⟩ = some (.int .i64 hal) := HB1.cell 1
  have c2 : w1.cell? ⟨gb, 2, none⟩ = some (.int .i64 ban) := HB1.cell 2
  have p0 : w1.cell? ⟨w.heap.size, 0, none⟩ = some (.int .i64 0) := HP1.cell 0
  have p1 : w1.cell? ⟨w.heap.size, 1, none⟩ = some (.int .i64 (clipZ now)) := HP1.cell 1
  have p2 : w1.cell? ⟨w.heap.size, 2, none⟩ = some (.int .i64 0) := HP1.cell 2
  have f0 := HP1.free 0
  have f1 := HP1.free 1
  have f2 := HP1.free 2
  have hsz := HP1.lt
  have hne : gb ≠ w.heap.size := by omega
  have HG1 : Hid (w.grownBy w1 (some m)) := (World.grownBy_alloc w _ _).trans hgrow1
  have HO1 := hide hown1
  have HPH := hide HP1
  clear HP1 HB1 hown1 hgrow1
  generalize hgp : w.heap.size = gp at *
  have HGP := hide hgp
  clear hgp
  by_cases hL : atZ hal 0 (clipZ now) now + ptsZ e < lim
  all_goals
    go_wp2_with (first | (go_at_call 25; refine (at_any hal 0 (clipZ now) now gb gp _ h1 (by omega) (by omega) (by omega) (by omega) c1 p0 p1).mono ?_; rintro e' w' ⟨rfl, n1, rfl⟩))
    refine still_tail 10 (by kernel_rfl) (by kernel_rfl) ?_
    simp only [List.take_succ_cons, List.take_zero, List.drop_succ_cons, List.drop_zero]
    iterate 6 still_step
    still_call (clip_q _ _)
    iterate 3 still_step
    refine wpStill_nil ?_
    go_wp2_with fail
    go_quiet (fail)
    go_wp2_with fail
    all_goals first
    | (go_ret
       exact ((((FP.start HPH.out).drewN _).set0 _).set1 _ |>.drewN _).postN HGP.out.symm (by rw [HGP.out]; exact hsz) (by rw [HGP.out]; exact HO1.out) HG1.out (by unfold faultA; dsimp only; rw [if_pos (by omega)]; simp only [maxZ]; (repeat' split) <;> first | rfl | (exfalso; omega)) (by unfold faultA; dsimp only; rw [if_pos (by omega)]))
    | (refine still_tail 17 (by kernel_rfl) (by kernel_rfl) ?_
       simp only [List.take_succ_cons, List.take_zero, List.drop_succ_cons, List.drop_zero]
       iterate 17 still_step
       refine wpStill_nil ?_
       go_wp2_with fail
       all_goals
         go_ret
         exact (((((FP.start HPH.out).drewN _).set0 _).set1 _ |>.drewN _).set0 _ |>.set2 _).drew.postN HGP.out.symm (by rw [HGP.out]; exact hsz) (by rw [HGP.out]; exact HO1.out) HG1.out (by unfold faultA; dsimp only; rw [if_neg (by omega)]; simp only [maxZ]; (repeat' split) <;> first | rfl | (exfalso; omega)) (by unfold faultA; dsimp only; rw [if_neg (by omega)]))
end Go.Proofs.YtckdahojhdbpjaaDoor
