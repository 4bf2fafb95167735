/- PartsBytes: the walk of the statement. -/
import Derived.Test.YtoclbcpfiacoaaaPb5
import Derived.Test.YtoclbcpfiacoaaaAlive30
namespace Go.Proofs.Ytoclbcpfiacoaaa
set_option linter.unusedVariables false
set_option linter.unusedSimpArgs false
open Go.RowKit

theorem lenbig (a b c : Int) (t s : ByteArray) (w : World) (h : (1000 : Int) < (t.size : Int)) : Calls Try.prog 8 #[partV a b c t, .string s] w fun e w' => e = .returned (.bool true) ∧ Below w.heap.size w w' := by
  have hp := Bk.made w 31 #[.int .i64 a, .int .i64 b, .int .i64 c, .string t]
  have HA := sh alive30
  have hb1 : Below w.heap.size w (w.alloc (.cells #[.int .i64 a, .int .i64 b, .int .i64 c, .string t] 31)) := (Below.refl _ w).alloc (Nat.le_refl _) _
  go_enter Try.func8, Try.ntmps8
  go_wp2_with (go_at_call 9; refine (HA.out _).mono ?_; rintro e' w2 ⟨rfl, hb⟩; have p3 := (hp.below hb hp.lt).cell 3)
  go_ret
  exact ⟨rfl, hb1.trans (hb.mono (by simp))⟩
theorem lenbig2 (a b c : Int) (t s : ByteArray) (w : World) (h0 : ¬ (1000 : Int) < (t.size : Int)) (h : (1000 : Int) < (s.size : Int)) : Calls Try.prog 8 #[partV a b c t, .string s] w fun e w' => e = .returned (.bool true) ∧ Below w.heap.size w w' := by
  have hp := Bk.made w 31 #[.int .i64 a, .int .i64 b, .int .i64 c, .string t]
  have HA := sh alive30
  have hb1 : Below w.heap.size w (w.alloc (.cells #[.int .i64 a, .int .i64 b, .int .i64 c, .string t] 31)) := (Below.refl _ w).alloc (Nat.le_refl _) _
  go_enter Try.func8, Try.ntmps8
  go_wp2_with (go_at_call 9; refine (HA.out _).mono ?_; rintro e' w2 ⟨rfl, hb⟩; have p3 := (hp.below hb hp.lt).cell 3)
  go_ret
  exact ⟨rfl, hb1.trans (hb.mono (by simp))⟩
/-- what lies in memory: the part, and what is new -/
structure PS (w : World) (N : Nat) (a b c : Int) (t : ByteArray) (W : World) : Prop where
  pt : Bk W N 31 #[.int .i64 a, .int .i64 b, .int .i64 c, .string t]
  bel : Below N w W
section
variable {w W W' : World} {N : Nat} {a b c : Int} {t : ByteArray}
theorem PS.below (h : PS w N a b c t W) (hb : Below W.heap.size W W') : PS w N a b c t W' := ⟨h.pt.below hb h.pt.lt, h.bel.trans (hb.mono (by have := h.pt.lt; omega))⟩
theorem PS.alloc (h : PS w N a b c t W) (o : Obj) : PS w N a b c t (W.alloc o) := ⟨h.pt.alloc o, h.bel.alloc (by have := h.pt.lt; omega) o⟩
end
theorem keep8 {X Y B : Nat} {w W W' : World} {x0 x1 x2 x3 y0 y1 y2 y3 : Value}
    (h : W.cell? ⟨X, 0, none⟩ = some x0 ∧ W.cell? ⟨X, 1, none⟩ = some x1 ∧ W.cell? ⟨X, 2, none⟩ = some x2 ∧ W.cell? ⟨X, 3, none⟩ = some x3 ∧ W.cell? ⟨Y, 0, none⟩ = some y0 ∧ W.cell? ⟨Y, 1, none⟩ = some y1 ∧ W.cell? ⟨Y, 2, none⟩ = some y2 ∧ W.cell? ⟨Y, 3, none⟩ = some y3 ∧ Below B w W)
    (hb : Below W.heap.size W W') (hB : B ≤ w.heap.size) :
    W'.cell? ⟨X, 0, none⟩ = some x0 ∧ W'.cell? ⟨X, 1, none⟩ = some x1 ∧ W'.cell? ⟨X, 2, none⟩ = some x2 ∧ W'.cell? ⟨X, 3, none⟩ = some x3 ∧ W'.cell? ⟨Y, 0, none⟩ = some y0 ∧ W'.cell? ⟨Y, 1, none⟩ = some y1 ∧ W'.cell? ⟨Y, 2, none⟩ = some y2 ∧ W'.cell? ⟨Y, 3, none⟩ = some y3 ∧ Below B w W' := by
  obtain ⟨h0, h1, h2, h3, k0, k1, k2, k3, h4⟩ := h
  have hX : X < W.heap.size := World.block_lt_of_cell? W ⟨X, 0, none⟩ h0
  have hY : Y < W.heap.size := World.block_lt_of_cell? W ⟨Y, 0, none⟩ k0
  have c := fun (b o : Nat) (hb' : b < W.heap.size) => hb.cell (p := ⟨b, o, none⟩) hb'
  exact ⟨(c X 0 hX).trans h0, (c X 1 hX).trans h1, (c X 2 hX).trans h2, (c X 3 hX).trans h3, (c Y 0 hY).trans k0, (c Y 1 hY).trans k1, (c Y 2 hY).trans k2, (c Y 3 hY).trans k3, h4.trans (hb.mono (Nat.le_trans hB h4.size))⟩
theorem both8 {X Y B : Nat} {w W : World} {a b : TypeId} {x0 x1 x2 x3 y0 y1 y2 y3 : Value} (hx : Bk W X a #[x0, x1, x2, x3]) (hy : Bk W Y b #[y0, y1, y2, y3]) (hb : Below B w W) :
    W.drew.cell? ⟨X, 0, none⟩ = some x0 ∧ W.drew.cell? ⟨X, 1, none⟩ = some x1 ∧ W.drew.cell? ⟨X, 2, none⟩ = some x2 ∧ W.drew.cell? ⟨X, 3, none⟩ = some x3 ∧ W.drew.cell? ⟨Y, 0, none⟩ = some y0 ∧ W.drew.cell? ⟨Y, 1, none⟩ = some y1 ∧ W.drew.cell? ⟨Y, 2, none⟩ = some y2 ∧ W.drew.cell? ⟨Y, 3, none⟩ = some y3 ∧ Below B w W.drew :=
  ⟨hx.cell 0, hx.cell 1, hx.cell 2, hx.cell 3, hy.cell 0, hy.cell 1, hy.cell 2, hy.cell 3, hb.drew⟩
set_option maxHeartbeats 4000000 in
set_option maxRecDepth 100000 in
theorem bytes_bad (a b c : Int) (t s : ByteArray) (w : World) (h0 : ¬ (1000 : Int) < (t.size : Int)) (h1 : ¬ (1000 : Int) < (s.size : Int)) (hm : ¬ MayP a b c t) : Calls Try.prog 8 #[partV a b c t, .string s] w fun e w' => e = .returned (.bool true) ∧ Below w.heap.size w w' := by
  have hp := Bk.made w 31 #[.int .i64 a, .int .i64 b, .int .i64 c, .string t]
  have HA := sh alive30
  have HO := sh (of_part a b c t)
  have HP := sh (parts_put_bad a b c t hm)
  have HM := sh (rmay a b c t)
  rw [decide_eq_false hm] at HM
  have hsM : s.size ≤ maxLen := by unfold maxLen; omega
  obtain ⟨x, y, z, T, g, hG, hg⟩ := get_law s (by omega)
  have HG1 := sh (parts_get s hsM _ _ _ _ (get3_eq s))
  have HG2 := sh (ref_get s hsM)
  unfold partV at hG
  rw [hG] at HG1 HG2
  have SG := sh hg
  clear hG hg hm hsM
  have hb1 : Below w.heap.size w (w.alloc (.cells #[.int .i64 a, .int .i64 b, .int .i64 c, .string t] 31)) := (Below.refl _ w).alloc (Nat.le_refl _) _
  have S1 := sh (⟨hp, hb1⟩ : PS w w.heap.size a b c t _)
  clear hp hb1
  go_enter Try.func8, Try.ntmps8
  generalize hN : w.heap.size = N at *
  go_wp2_with (first
    | (go_at_call 9; refine (HA.out _).mono ?_; clear HA; rintro e' w2 ⟨rfl, hb⟩; have S2 := sh (S1.out.below hb); clear hb; have p0 := S2.out.pt.cell 0; have p1 := S2.out.pt.cell 1; have p2 := S2.out.pt.cell 2; have p3 := S2.out.pt.cell 3)
    | (go_at_call 19; refine (HO.out _).mono ?_; clear HO; rintro e' w3 ⟨rfl, hb⟩; have S3 := sh (S2.out.below hb); clear hb)
    | (go_at_call 27; refine (HP.out _).mono ?_; clear HP; rintro e' w4 ⟨rfl, hb⟩; have S4 := sh (S3.out.below hb); clear hb; have q0 := S4.out.pt.cell 0; have q1 := S4.out.pt.cell 1; have q2 := S4.out.pt.cell 2; have q3 := S4.out.pt.cell 3)
    | (go_at_call 28; refine (HM.out _).mono ?_; clear HM; rintro e' w5 ⟨rfl, hb⟩; have S5 := sh (S4.out.below hb).bel; clear hb)
    | (go_at_call 29; (with_reducible refine (HG1.out _).mono ?_); clear HG1; rintro e' w6 ⟨rfl, hb⟩; have S6 := sh (S5.out.trans (hb.mono (Nat.le_trans (Nat.le_of_eq hN.symm) S5.out.size))); clear hb)
    | (go_at_call 31; refine (HG2.out _).mono ?_; clear HG2; rintro e' w7 ⟨rfl, hb⟩; have SX := sh ((Bk.made w6 33 #[.int .i64 (x : Int), .int .i64 (y : Int), .int .i64 (z : Int), .string T]).below hb (by simp)); have S7 := sh ((S6.out.alloc (Nat.le_trans (Nat.le_of_eq hN.symm) S6.out.size) (.cells #[.int .i64 (x : Int), .int .i64 (y : Int), .int .i64 (z : Int), .string T] 33)).trans (hb.mono (by have h6 := S6.out.size; rw [World.size_alloc]; omega)))))
  have SY := sh (Bk.made w7 31 #[.int .i64 (x : Int), .int .i64 (y : Int), .int .i64 (z : Int), .string T])
  have SX8 := sh (SX.out.alloc (.cells #[.int .i64 (x : Int), .int .i64 (y : Int), .int .i64 (z : Int), .string T] 31))
  have S8 := sh (S7.out.alloc (Nat.le_trans (Nat.le_of_eq hN.symm) S7.out.size) (.cells #[.int .i64 (x : Int), .int .i64 (y : Int), .int .i64 (z : Int), .string T] 31))
  have HPl := sh (plain_part x y z T)
  generalize w7.alloc (.cells #[.int .i64 (x : Int), .int .i64 (y : Int), .int .i64 (z : Int), .string T] 31) = W8 at *
  generalize w6.heap.size = X at *
  generalize w7.heap.size = Y at *
  have HS := sh (both8 SX8.out SY.out S8.out)
  clear SX SY SX8 S8 S7 hb
  go_region_held3 (fun W => W.cell? ⟨X, 0, none⟩ = some (.int .i64 (x : Int)) ∧ W.cell? ⟨X, 1, none⟩ = some (.int .i64 (y : Int)) ∧ W.cell? ⟨X, 2, none⟩ = some (.int .i64 (z : Int)) ∧ W.cell? ⟨X, 3, none⟩ = some (.string T) ∧ W.cell? ⟨Y, 0, none⟩ = some (.int .i64 (x : Int)) ∧ W.cell? ⟨Y, 1, none⟩ = some (.int .i64 (y : Int)) ∧ W.cell? ⟨Y, 2, none⟩ = some (.int .i64 (z : Int)) ∧ W.cell? ⟨Y, 3, none⟩ = some (.string T) ∧ Below N w W)
    (first | assumption | exact HS.out | exact keep8 (by assumption) (by assumption) (Nat.le_of_eq hN.symm))
    (first | (go_at_call 12; (with_reducible refine (HPl.out _).mono ?_); rintro e' w9 ⟨rfl, hb9⟩))
  all_goals
    rename_i hH
    obtain ⟨i0, i1, i2, i3, _, _, _, _, hE⟩ := hH
    rcases SG.out with hg | ⟨rfl, hM, hs⟩
    · have gb : (g != 0) = true := by rw [bne_iff_ne]; exact hg
      clear hg
      go_wp2_with fail
      go_ret
      exact ⟨rfl, hE⟩
    · have HPu := sh (parts_put x y z T hM)
      rw [hs] at HPu
      clear hM hs
      go_wp2_with (go_at_call 27; refine (HPu.out _).mono ?_; clear HPu; rintro e' w9 ⟨rfl, hb⟩; have hE2 := sh (hE.trans (hb.mono (Nat.le_trans (Nat.le_of_eq hN.symm) hE.size))))
      go_ret
      exact ⟨rfl, hE2.out⟩
set_option maxHeartbeats 4000000 in
set_option maxRecDepth 100000 in
theorem bytes_good (a b c : Nat) (t s : ByteArray) (w : World) (h0 : ¬ (1000 : Int) < (t.size : Int)) (h1 : ¬ (1000 : Int) < (s.size : Int)) (hm : MayP a b c t) : Calls Try.prog 8 #[partV a b c t, .string s] w fun e w' => e = .returned (.bool true) ∧ Below w.heap.size w w' := by
  have hp := Bk.made w 31 #[.int .i64 (a : Int), .int .i64 (b : Int), .int .i64 (c : Int), .string t]
  have HA := sh alive30
  have HO := sh (of_part a b c t)
  have HP := sh (parts_put a b c t hm)
  have HR := sh (ref_put3 a b c t hm)
  have HM := sh (rmay a b c t)
  rw [decide_eq_true hm] at HM
  have hsM : s.size ≤ maxLen := by unfold maxLen; omega
  have hpz := putPL_size a b c t hm
  have HG0 := sh (parts_get (str (putPL a b c (lst t))) (by unfold maxLen; omega) _ _ _ _ (get3_eq _))
  have hG0 := put_law a b c t hm (by omega)
  unfold partV at hG0
  rw [hG0] at HG0
  have HQ := sh (plain_part a b c t)
  generalize str (putPL a b c (lst t)) = B at *
  obtain ⟨x, y, z, T, g, hG, hg⟩ := get_law s (by omega)
  have HG1 := sh (parts_get s hsM _ _ _ _ (get3_eq s))
  have HG2 := sh (ref_get s hsM)
  unfold partV at hG
  rw [hG] at HG1 HG2
  have SG := sh hg
  clear hG hG0 hg hm hsM hpz
  have hb1 : Below w.heap.size w (w.alloc (.cells #[.int .i64 (a : Int), .int .i64 (b : Int), .int .i64 (c : Int), .string t] 31)) := (Below.refl _ w).alloc (Nat.le_refl _) _
  have S1 := sh (⟨hp, hb1⟩ : PS w w.heap.size a b c t _)
  clear hp hb1
  go_enter Try.func8, Try.ntmps8
  generalize hN : w.heap.size = N at *
  go_wp2_with (first
    | (go_at_call 9; refine (HA.out _).mono ?_; clear HA; rintro e' w2 ⟨rfl, hb⟩; have S2 := sh (S1.out.below hb); clear hb; have p0 := S2.out.pt.cell 0; have p1 := S2.out.pt.cell 1; have p2 := S2.out.pt.cell 2; have p3 := S2.out.pt.cell 3)
    | (go_at_call 19; refine (HO.out _).mono ?_; clear HO; rintro e' w3 ⟨rfl, hb⟩; have S3 := sh (S2.out.below hb); clear hb)
    | (go_at_call 27; refine (HP.out _).mono ?_; clear HP; rintro e' w4 ⟨rfl, hb⟩; have S4 := sh (S3.out.below hb); clear hb; have q0 := S4.out.pt.cell 0; have q1 := S4.out.pt.cell 1; have q2 := S4.out.pt.cell 2; have q3 := S4.out.pt.cell 3)
    | (go_at_call 28; refine (HM.out _).mono ?_; clear HM; rintro e' w5 ⟨rfl, hb⟩; have S5 := sh (S4.out.below hb); clear hb)
    | (go_at_call 29; (with_reducible refine (HG0.out _).mono ?_); clear HG0; rintro e' v6 ⟨rfl, hb⟩; have S6 := sh (S5.out.below hb); clear hb))
  have SZ := sh (Bk.made v6 33 #[.int .i64 (a : Int), .int .i64 (b : Int), .int .i64 (c : Int), .string t])
  have S7 := sh (S6.out.alloc (.cells #[.int .i64 (a : Int), .int .i64 (b : Int), .int .i64 (c : Int), .string t] 33))
  clear p0 p1 p2 p3 q0 q1 q2 q3
  generalize v6.alloc (.cells #[.int .i64 (a : Int), .int .i64 (b : Int), .int .i64 (c : Int), .string t] 33) = v7 at *
  generalize v6.heap.size = Z at *
  have HS := sh (both8 SZ.out S7.out.pt S7.out.bel)
  clear SZ S7 S6 S5 S4 S3 S2 S1
  go_region_held3 (fun W => W.cell? ⟨Z, 0, none⟩ = some (.int .i64 (a : Int)) ∧ W.cell? ⟨Z, 1, none⟩ = some (.int .i64 (b : Int)) ∧ W.cell? ⟨Z, 2, none⟩ = some (.int .i64 (c : Int)) ∧ W.cell? ⟨Z, 3, none⟩ = some (.string t) ∧ W.cell? ⟨N, 0, none⟩ = some (.int .i64 (a : Int)) ∧ W.cell? ⟨N, 1, none⟩ = some (.int .i64 (b : Int)) ∧ W.cell? ⟨N, 2, none⟩ = some (.int .i64 (c : Int)) ∧ W.cell? ⟨N, 3, none⟩ = some (.string t) ∧ Below N w W)
    (first | assumption | exact HS.out | exact keep8 (by assumption) (by assumption) (Nat.le_of_eq hN.symm))
    (first | (go_at_call 12; (with_reducible refine (HQ.out _).mono ?_); rintro e' v8 ⟨rfl, hb8⟩) | (go_at_call 30; (with_reducible refine (HR.out _).mono ?_); rintro e' v9 ⟨rfl, hb9⟩))
  all_goals
    rename_i hH
    have S5 := sh hH.2.2.2.2.2.2.2.2
    clear hH HQ HR HS
  all_goals go_wp2_with (first
    | (go_at_call 29; (with_reducible refine (HG1.out _).mono ?_); clear HG1; rintro e' w6 ⟨rfl, hb⟩; have S6 := sh (S5.out.trans (hb.mono (Nat.le_trans (Nat.le_of_eq hN.symm) S5.out.size))); clear hb)
    | (go_at_call 31; refine (HG2.out _).mono ?_; clear HG2; rintro e' w7 ⟨rfl, hb⟩; have SX := sh ((Bk.made w6 33 #[.int .i64 (x : Int), .int .i64 (y : Int), .int .i64 (z : Int), .string T]).below hb (by simp)); have S7 := sh ((S6.out.alloc (Nat.le_trans (Nat.le_of_eq hN.symm) S6.out.size) (.cells #[.int .i64 (x : Int), .int .i64 (y : Int), .int .i64 (z : Int), .string T] 33)).trans (hb.mono (by have h6 := S6.out.size; rw [World.size_alloc]; omega)))))
  all_goals
    have SY := sh (Bk.made w7 31 #[.int .i64 (x : Int), .int .i64 (y : Int), .int .i64 (z : Int), .string T])
    have SX8 := sh (SX.out.alloc (.cells #[.int .i64 (x : Int), .int .i64 (y : Int), .int .i64 (z : Int), .string T] 31))
    have S8 := sh (S7.out.alloc (Nat.le_trans (Nat.le_of_eq hN.symm) S7.out.size) (.cells #[.int .i64 (x : Int), .int .i64 (y : Int), .int .i64 (z : Int), .string T] 31))
    have HPl := sh (plain_part x y z T)
    generalize w7.alloc (.cells #[.int .i64 (x : Int), .int .i64 (y : Int), .int .i64 (z : Int), .string T] 31) = W8 at *
    generalize w6.heap.size = X at *
    generalize w7.heap.size = Y at *
    have HS := sh (both8 SX8.out SY.out S8.out)
    clear SX SY SX8 S8 S7 hb
    go_region_held3 (fun W => W.cell? ⟨X, 0, none⟩ = some (.int .i64 (x : Int)) ∧ W.cell? ⟨X, 1, none⟩ = some (.int .i64 (y : Int)) ∧ W.cell? ⟨X, 2, none⟩ = some (.int .i64 (z : Int)) ∧ W.cell? ⟨X, 3, none⟩ = some (.string T) ∧ W.cell? ⟨Y, 0, none⟩ = some (.int .i64 (x : Int)) ∧ W.cell? ⟨Y, 1, none⟩ = some (.int .i64 (y : Int)) ∧ W.cell? ⟨Y, 2, none⟩ = some (.int .i64 (z : Int)) ∧ W.cell? ⟨Y, 3, none⟩ = some (.string T) ∧ Below N w W)
      (first | assumption | exact HS.out | exact keep8 (by assumption) (by assumption) (Nat.le_of_eq hN.symm))
      (first | (go_at_call 12; (with_reducible refine (HPl.out _).mono ?_); rintro e' w9 ⟨rfl, hb9⟩))
    all_goals
      rename_i hH
      obtain ⟨i0, i1, i2, i3, _, _, _, _, hE⟩ := hH
      rcases SG.out with hg | ⟨rfl, hM, hs⟩
      · have gb : (g != 0) = true := by rw [bne_iff_ne]; exact hg
        clear hg
        go_wp2_with fail
        go_ret
        exact ⟨rfl, hE⟩
      · have HPu := sh (parts_put x y z T hM)
        rw [hs] at HPu
        clear hM hs
        go_wp2_with (go_at_call 27; refine (HPu.out _).mono ?_; clear HPu; rintro e' w9 ⟨rfl, hb⟩; have hE2 := sh (hE.trans (hb.mono (Nat.le_trans (Nat.le_of_eq hN.symm) hE.size))))
        go_ret
        exact ⟨rfl, hE2.out⟩
theorem bytes_walk (a b c : Int) (t s : ByteArray) (w : World) : Calls Try.prog 8 #[.agg #[.int .i64 a, .int .i64 b, .int .i64 c, .string t], .string s] w fun e w' => e = .returned (.bool true) ∧ Below w.heap.size w w' := by
  by_cases h0 : (1000 : Int) < (t.size : Int)
  · exact lenbig a b c t s w h0
  · by_cases h1 : (1000 : Int) < (s.size : Int)
    · exact lenbig2 a b c t s w h0 h1
    · by_cases hm : MayP a b c t
      · obtain ⟨a', rfl⟩ := Int.eq_ofNat_of_zero_le hm.1
        obtain ⟨b', rfl⟩ := Int.eq_ofNat_of_zero_le hm.2.2.2.2.1
        obtain ⟨c', rfl⟩ := Int.eq_ofNat_of_zero_le (Int.le_trans (by decide) hm.2.2.1)
        exact bytes_good a' b' c' t s w h0 h1 hm
      · exact bytes_bad a b c t s w h0 h1 hm
end Go.Proofs.Ytoclbcpfiacoaaa
