/- The reference's board (layer 29): Fault: its memory, and Fault of what bears no points. -/
import Derived.Test.YtckdahojhdbpjaaDoorP5
namespace Go.Proofs.YtckdahojhdbpjaaDoor
set_option linter.unusedVariables false
set_option linter.unusedSimpArgs false
open Go.RowKit

theorem addr_add (g j : Nat) : (⟨g, 0, none⟩ : Addr).add j = ⟨g, j, none⟩ := by unfold Addr.add; split <;> simp_all
theorem own_empty {W : World} {B g : Nat} (h : Bk W g 53 #[]) (hB : B ≤ g) : W.ownsRow B 53 4 (.slice (some ⟨g, 0, none⟩) 0 0) 0 [] :=
  ⟨rfl, .inr ⟨g, 0, #[], rfl, hB, h, Nat.le_refl _, by unfold maxLen; omega, rfl, rfl⟩⟩
theorem prV_one (p : PQ) : ∀ u ∈ prV p, u.oneCell' = true := by
  intro u h
  simp only [prV, List.mem_cons, List.not_mem_nil, or_false] at h
  rcases h with rfl | rfl | rfl | rfl <;> rfl
theorem prsC_one (L : LA) : ∀ u ∈ prsC L, u.oneCell' = true := by
  intro u h
  obtain ⟨p, _, hu⟩ := List.mem_flatMap.1 h
  exact prV_one p u hu
theorem run_first (W : World) (ty : TypeId) (B g : Nat) (ax : Option Addr) (cp : Nat) (L : LA) (hg : Bk W g 53 #[]) (hB : B ≤ g) (hBs : B ≤ W.heap.size) (hr : RowP W ax L) (hL : L.length ≤ 1000) :
    ∃ v' w', (Builtin.append_ #[41, 41] ty #[.slice (some ⟨g, 0, none⟩) 0 0, .slice ax L.length cp]).run Tryd.prog W = .ok v' w' ∧ w'.ownsRow B 53 4 v' L.length (prsC L) ∧ W.grownBy w' (some g) := by
  obtain ⟨i53, hb0, hb1', hb2, hb3⟩ := info_parts info53
  by_cases hLe : L = []
  · subst hLe
    refine ⟨.slice (some ⟨g, 0, none⟩) 0 0, W, ?_, own_empty hg hB, ⟨rfl, rfl, rfl, Nat.le_refl _, fun _ _ _ => rfl⟩⟩
    cases ax with
    | none => simp [Builtin.append_, run_underlying Tryd.underlying41, sizeOf, typeInfo, hb0, Builtin.lenOf, Builtin.firstCells, loadCells, loadCellsFrom, storeCells]
    | some x => simp [Builtin.append_, run_underlying Tryd.underlying41, sizeOf, typeInfo, hb0, Builtin.lenOf, Builtin.firstCells, loadCells, loadCellsFrom, storeCells]
  · rcases hr with hr | ⟨gx, cur, rfl, h2, h3, h4⟩
    · exact absurd hr hLe
    · obtain ⟨v', w', h5, h6, h7, _⟩ := run_append_own_at (P := Tryd.prog) W B 41 ty 53 i53 (.agg #[.string ⟨#[]⟩, .int .i64 0, .int .i64 0, .int .i64 0]) 4 40 Tryd.underlying41 hb0 hb1' hb2 hb3 rfl (by decide) (.slice (some ⟨g, 0, none⟩) 0 0) 0 [] (own_empty hg hB) ⟨gx, 0, none⟩ L.length cp (prsC L) (prsC_len L) (fun j u hu => by
          rw [addr_add, h2.cell, h4 j (by rw [← prsC_len]; exact (List.getElem?_eq_some_iff.1 hu).1)]
          exact hu) (prsC_one L) (by unfold maxLen; omega) (by omega) hBs
      rw [Nat.zero_add, List.nil_append] at h6
      exact ⟨v', w', h5, h6, h7⟩
theorem wpList_first {ops : Array Oper} {rest : List Oper} {o : Oper} {a : Act} {Q : Exit → Act → World → Prop} {w : World} (hgd : o.guard = none) (s x : Operand) (ho : o.op = .call { callee := .builtin .append, args := #[s, x], argTypes := #[41, 41] })
    (B g : Nat) (hg : Bk w g 53 #[]) (hB : B ≤ g) (hBs : B ≤ w.heap.size) (hs : a.eval s = .slice (some ⟨g, 0, none⟩) 0 0) (ax : Option Addr) (cp : Nat) (L : LA) (hx : a.eval x = .slice ax L.length cp) (hr : RowP w ax L) (hL : L.length ≤ 1000)
    (h : ∀ v' w', w'.ownsRow B 53 4 v' L.length (prsC L) → w.grownBy w' (some g) → wpList Tryd.prog ops Q rest (a.put o.dst v') w') : wpList Tryd.prog ops Q (o :: rest) a w := by
  refine wpList_plain hgd fun K hK => ?_
  obtain ⟨v', w', hrun, h2, h3⟩ := run_first w o.type B g ax cp L hg hB hBs hr hL
  unfold Oper.wp execOp
  simp only [ho, resolve, invoke, builtin, Sem.run_bind, Sem.run_pure, Result.andThen_ok, List.map_toArray, List.map_cons, List.map_nil, hs, hx, hrun]
  exact hK _ _ (h v' w' h2 h3)
theorem own_parts {W : World} {B : Nat} {v : Value} {L : LA} (h : W.ownsRow B 53 4 v L.length (prsC L)) (hne : 0 < L.length) :
    ∃ g cp cur, v = .slice (some ⟨g, 0, none⟩) L.length cp ∧ B ≤ g ∧ Bk W g 53 cur ∧ L.length * 4 ≤ cur.size ∧ (∀ o, o < L.length * 4 → cur[o]? = (prsC L)[o]?) ∧ L.length ≤ cp := by
  rcases h.2 with ⟨rfl, h0⟩ | ⟨g, cap, cur, rfl, hB, hb, hc, _, hs, ht⟩
  · omega
  · refine ⟨_, _, _, rfl, hB, hb, by rw [hs]; exact Nat.mul_le_mul_right _ hc, fun o ho => ?_, hc⟩
    rw [← ht, List.getElem?_take, if_pos ho, Array.getElem?_toList]
/-- a place of the row is written anew -/
def putC (cur : Array Value) (i : Nat) (p : PQ) : Array Value := (((cur.setIfInBounds (i * 4) (.string p.1)).setIfInBounds (i * 4 + 1) (.int .i64 p.2.pts)).setIfInBounds (i * 4 + 2) (.int .i64 p.2.at_)).setIfInBounds (i * 4 + 3) (.int .i64 p.2.til)
theorem prsC_set : ∀ {L : LA} {i : Nat} (p : PQ), i < L.length → ∀ o, (prsC (L.set i p))[o]? = if o = i * 4 then some (.string p.1) else if o = i * 4 + 1 then some (.int .i64 p.2.pts) else if o = i * 4 + 2 then some (.int .i64 p.2.at_) else if o = i * 4 + 3 then some (.int .i64 p.2.til) else (prsC L)[o]?
  | q :: L, 0, p, _, o => by
    show (prV p ++ prsC L)[o]? = if o = 0 * 4 then _ else if o = 0 * 4 + 1 then _ else if o = 0 * 4 + 2 then _ else if o = 0 * 4 + 3 then _ else (prV q ++ prsC L)[o]?
    match o with
    | 0 => rfl
    | 1 => rfl
    | 2 => rfl
    | 3 => rfl
    | o + 4 =>
      rw [if_neg (by omega), if_neg (by omega), if_neg (by omega), if_neg (by omega)]
      rfl
  | q :: L, i + 1, p, h, o => by
    have ih := prsC_set (L := L) (i := i) p (by simpa using h)
    show (prV q ++ prsC (L.set i p))[o]? = if o = (i + 1) * 4 then _ else if o = (i + 1) * 4 + 1 then _ else if o = (i + 1) * 4 + 2 then _ else if o = (i + 1) * 4 + 3 then _ else (prV q ++ prsC L)[o]?
    match o with
    | 0 => rw [if_neg (by omega), if_neg (by omega), if_neg (by omega), if_neg (by omega)]; rfl
    | 1 => rw [if_neg (by omega), if_neg (by omega), if_neg (by omega), if_neg (by omega)]; rfl
    | 2 => rw [if_neg (by omega), if_neg (by omega), if_neg (by omega), if_neg (by omega)]; rfl
    | 3 => rw [if_neg (by omega), if_neg (by omega), if_neg (by omega), if_neg (by omega)]; rfl
    | o + 4 =>
      show (prsC (L.set i p))[o]? = if o + 4 = (i + 1) * 4 then _ else if o + 4 = (i + 1) * 4 + 1 then _ else if o + 4 = (i + 1) * 4 + 2 then _ else if o + 4 = (i + 1) * 4 + 3 then _ else (prsC L)[o]?
      rw [ih o]
      have e0 : (o + 4 = (i + 1) * 4) = (o = i * 4) := by rw [eq_iff_iff]; omega
      have e1 : (o + 4 = (i + 1) * 4 + 1) = (o = i * 4 + 1) := by rw [eq_iff_iff]; omega
      have e2 : (o + 4 = (i + 1) * 4 + 2) = (o = i * 4 + 2) := by rw [eq_iff_iff]; omega
      have e3 : (o + 4 = (i + 1) * 4 + 3) = (o = i * 4 + 3) := by rw [eq_iff_iff]; omega
      simp only [e0, e1, e2, e3]
theorem putC_row {cur : Array Value} {L : LA} {i : Nat} (p : PQ) (hi : i < L.length) (hs : L.length * 4 ≤ cur.size) (h : ∀ o, o < L.length * 4 → cur[o]? = (prsC L)[o]?) :
    (L.set i p).length * 4 ≤ (putC cur i p).size ∧ ∀ o, o < (L.set i p).length * 4 → (putC cur i p)[o]? = (prsC (L.set i p))[o]? := by
  unfold putC
  refine ⟨by simp; omega, fun o ho => ?_⟩
  rw [prsC_set p hi]
  rw [List.length_set] at ho
  simp only [Array.getElem?_setIfInBounds, Array.size_setIfInBounds]
  by_cases e3 : i * 4 + 3 = o
  · rw [if_pos e3, if_pos (by omega), if_neg (by omega), if_neg (by omega), if_neg (by omega), if_pos e3.symm]
  · rw [if_neg e3]
    by_cases e2 : i * 4 + 2 = o
    · rw [if_pos e2, if_pos (by omega), if_neg (by omega), if_neg (by omega), if_pos e2.symm]
    · rw [if_neg e2]
      by_cases e1 : i * 4 + 1 = o
      · rw [if_pos e1, if_pos (by omega), if_neg (by omega), if_pos e1.symm]
      · rw [if_neg e1]
        by_cases e0 : i * 4 = o
        · rw [if_pos e0, if_pos (by omega), if_pos e0.symm]
        · rw [if_neg e0, if_neg (Ne.symm e0), if_neg (Ne.symm e1), if_neg (Ne.symm e2), if_neg (Ne.symm e3), h o ho]
/-- Fault's own memory: its board, its result, its peer, its row -/
structure FQ (w : World) (N M g : Nat) (bd rs pc cur : Array Value) (W : World) : Prop where
  b : Bk W N 43 bd
  r : Bk W (N + 1) 43 rs
  p : Bk W M 53 pc
  l : Bk W g 53 cur
  bel : Below N w W
  nM : N ≤ M
  nG : N ≤ g
  ne : M ≠ g
section
variable {w W : World} {N M g : Nat} {bd rs pc cur : Array Value}
theorem FQ.drewN (h : FQ w N M g bd rs pc cur W) (n : Nat) : FQ w N M g bd rs pc cur (W.drewN n) := ⟨h.b.drewN n, h.r.drewN n, h.p.drewN n, h.l.drewN n, below_drewN h.bel n, h.nM, h.nG, h.ne⟩
theorem FQ.drew (h : FQ w N M g bd rs pc cur W) : FQ w N M g bd rs pc cur W.drew := h.drewN 1
theorem FQ.setP (h : FQ w N M g bd rs pc cur W) (j : Nat) (v : Value) : FQ w N M g bd rs (pc.setIfInBounds j v) cur (W.setCell ⟨M, j, none⟩ v) :=
  ⟨h.b.far (p := ⟨M, j, none⟩) (h.b.ne h.p (by decide)) v, h.r.far (p := ⟨M, j, none⟩) (h.r.ne h.p (by decide)) v, h.p.put j v, h.l.far (p := ⟨M, j, none⟩) h.ne.symm v, h.bel.setCell (p := ⟨M, j, none⟩) h.nM v, h.nM, h.nG, h.ne⟩
theorem FQ.setL (h : FQ w N M g bd rs pc cur W) (j : Nat) (v : Value) : FQ w N M g bd rs pc (cur.setIfInBounds j v) (W.setCell ⟨g, j, none⟩ v) :=
  ⟨h.b.far (p := ⟨g, j, none⟩) (h.b.ne h.l (by decide)) v, h.r.far (p := ⟨g, j, none⟩) (h.r.ne h.l (by decide)) v, h.p.far (p := ⟨g, j, none⟩) h.ne v, h.l.put j v, h.bel.setCell (p := ⟨g, j, none⟩) h.nG v, h.nM, h.nG, h.ne⟩
theorem FQ.setB (h : FQ w N M g bd rs pc cur W) (j : Nat) (v : Value) : FQ w N M g (bd.setIfInBounds j v) rs pc cur (W.setCell ⟨N, j, none⟩ v) :=
  ⟨h.b.put j v, h.r.far (p := ⟨N, j, none⟩) (by simp) v, h.p.far (p := ⟨N, j, none⟩) (h.p.ne h.b (by decide)) v, h.l.far (p := ⟨N, j, none⟩) (h.l.ne h.b (by decide)) v, h.bel.setCell (p := ⟨N, j, none⟩) (Nat.le_refl _) v, h.nM, h.nG, h.ne⟩
theorem FQ.setR (h : FQ w N M g bd rs pc cur W) (j : Nat) (v : Value) : FQ w N M g bd (rs.setIfInBounds j v) pc cur (W.setCell ⟨N + 1, j, none⟩ v) :=
  ⟨h.b.far (p := ⟨N + 1, j, none⟩) (by simp) v, h.r.put j v, h.p.far (p := ⟨N + 1, j, none⟩) (h.p.ne h.r (by decide)) v, h.l.far (p := ⟨N + 1, j, none⟩) (h.l.ne h.r (by decide)) v, h.bel.setCell (p := ⟨N + 1, j, none⟩) (by simp) v, h.nM, h.nG, h.ne⟩
end
end Go.Proofs.YtckdahojhdbpjaaDoor
