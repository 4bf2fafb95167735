/- The reference's joiner (layer 30): Add's tail, 'append(append([]Part{}, j.L...), p)', a step each. -/
import Derived.Test.YtoclbcpfiacoaaaR4
import Derived.Deep.AppendLies
namespace Go.Proofs.Ytoclbcpfiacoaaa
set_option linter.unusedVariables false
set_option linter.unusedSimpArgs false
open Go.RowKit

theorem own_empty {W : World} {B g : Nat} (h : Bk W g 31 #[]) (hB : B ≤ g) : W.ownsRow B 31 4 (.slice (some ⟨g, 0, none⟩) 0 0) 0 [] :=
  ⟨rfl, .inr ⟨g, 0, #[], rfl, hB, h, Nat.le_refl _, by unfold maxLen; omega, rfl, rfl⟩⟩
theorem ptV_one (p : PT) : ∀ u ∈ ptV p, u.oneCell' = true := by
  intro u h
  simp only [ptV, List.mem_cons, List.not_mem_nil, or_false] at h
  rcases h with rfl | rfl | rfl | rfl <;> rfl
theorem ptsC_one (L : List PT) : ∀ u ∈ ptsC L, u.oneCell' = true := by
  intro u h
  obtain ⟨p, _, hu⟩ := List.mem_flatMap.1 h
  exact ptV_one p u hu
theorem addr_add (g j : Nat) : (⟨g, 0, none⟩ : Addr).add j = ⟨g, j, none⟩ := by unfold Addr.add; split <;> simp_all
theorem run_first (W : World) (ty : TypeId) (B g : Nat) (ax : Option Addr) (cp : Nat) (L : List PT) (hg : Bk W g 31 #[]) (hB : B ≤ g) (hBs : B ≤ W.heap.size) (hr : RowL W ax L) (hL : L.length ≤ 1000) :
    ∃ v' w', (Builtin.append_ #[27, 27] ty #[.slice (some ⟨g, 0, none⟩) 0 0, .slice ax L.length cp]).run Try.prog W = .ok v' w' ∧ w'.ownsRow B 31 4 v' L.length (ptsC L) ∧ W.grownBy w' (some g) := by
  obtain ⟨i31, hb0, hb1', hb2, hb3⟩ := info_parts info31
  by_cases hLe : L = []
  · subst hLe
    refine ⟨.slice (some ⟨g, 0, none⟩) 0 0, W, ?_, own_empty hg hB, ⟨rfl, rfl, rfl, Nat.le_refl _, fun _ _ _ => rfl⟩⟩
    cases ax with
    | none => simp [Builtin.append_, run_underlying Try.underlying27, sizeOf, typeInfo, hb0, Builtin.lenOf, Builtin.firstCells, loadCells, loadCellsFrom, storeCells]
    | some x => simp [Builtin.append_, run_underlying Try.underlying27, sizeOf, typeInfo, hb0, Builtin.lenOf, Builtin.firstCells, loadCells, loadCellsFrom, storeCells]
  · rcases hr with hr | ⟨gx, cur, rfl, h2, h3, h4⟩
    · exact absurd hr hLe
    · obtain ⟨v', w', h5, h6, h7, _⟩ := run_append_own_at (P := Try.prog) W B 27 ty 31 i31 (.agg #[.int .i64 0, .int .i64 0, .int .i64 0, .string ⟨#[]⟩]) 4 40 Try.underlying27 hb0 hb1' hb2 hb3 rfl (by decide) (.slice (some ⟨g, 0, none⟩) 0 0) 0 [] (own_empty hg hB) ⟨gx, 0, none⟩ L.length cp (ptsC L) (ptsC_len L) (fun j u hu => by
          rw [addr_add, h2.cell, h4 j (by rw [← ptsC_len]; exact (List.getElem?_eq_some_iff.1 hu).1)]
          exact hu) (ptsC_one L) (by unfold maxLen; omega) (by omega) hBs
      rw [Nat.zero_add, List.nil_append] at h6
      exact ⟨v', w', h5, h6, h7⟩
/-- the world ahead of the first append: its empty row -/
structure Zr (W0 W : World) (g : Nat) : Prop where
  blk : Bk W g 31 #[]
  bel : Below W0.heap.size W0 W
  ge : W0.heap.size ≤ g
theorem z1 (W0 : World) : Zr W0 ((W0.alloc (.cells #[] 31)).drew) W0.heap.size :=
  ⟨(Bk.made W0 31 #[]).drew, below_drewN ((Below.refl _ W0).alloc (Nat.le_refl _) _) 1, Nat.le_refl _⟩
theorem z2 (W0 : World) (E0 : Obj) : Zr W0 (((W0.alloc (.cells #[] 31)).alloc E0).drew) W0.heap.size :=
  ⟨((Bk.made W0 31 #[]).alloc E0).drew, below_drewN (((Below.refl _ W0).alloc (Nat.le_refl _) _).alloc (by simp) _) 1, Nat.le_refl _⟩
theorem z3 (W0 : World) (E0 : Obj) : Zr W0 (((W0.alloc E0).alloc (.cells #[] 31)).drew) (W0.heap.size + 1) := by
  have h := Bk.made (W0.alloc E0) 31 #[]
  rw [World.size_alloc] at h
  exact ⟨h.drew, below_drewN (((Below.refl _ W0).alloc (Nat.le_refl _) _).alloc (by simp) _) 1, by omega⟩
theorem e2 (W0 : World) (cs : Array Value) : Bk (((W0.alloc (.cells #[] 31)).alloc (.cells cs 31)).drew) (W0.heap.size + 1) 31 cs := by
  have h := Bk.made (W0.alloc (.cells #[] 31)) 31 cs
  rw [World.size_alloc] at h
  exact h.drew
theorem e3 (W0 : World) (cs : Array Value) : Bk (((W0.alloc (.cells cs 31)).alloc (.cells #[] 31)).drew) W0.heap.size 31 cs := ((Bk.made W0 31 cs).alloc _).drew
section
variable {ops : Array Oper} {o : Oper} {a : Act} {W0 W : World} {K : Act → World → Prop} {Q : Exit → Act → World → Prop} {E : Prop}
theorem step_first (hgd : o.guard = none) (s x : Operand) (ho : o.op = .call { callee := .builtin .append, args := #[s, x], argTypes := #[27, 27] }) {g : Nat} (z : Zr W0 W g) {ax : Option Addr} {cp : Nat} {L : List PT}
    (hs : a.eval s = .slice (some ⟨g, 0, none⟩) 0 0) (hx : a.eval x = .slice ax L.length cp) (hr : RowL W0 ax L) (hL : L.length ≤ 1000)
    (h : ∀ a1 c1 W1, W1.ownsRow W0.heap.size 31 4 (.slice a1 L.length c1) L.length (ptsC L) → Below W0.heap.size W0 W1 → (∀ b t cs, Bk W b t cs → b ≠ g → Bk W1 b t cs) → K (a.put o.dst (.slice a1 L.length c1)) W1) :
    if Region.wanted o (yielded ops a.tmps) = true then Oper.wp Try.prog o a W K Q else E := by
  have hw : Region.wanted o (yielded ops a.tmps) = true := by simp [Region.wanted, hgd]
  rw [if_pos hw]
  obtain ⟨v', w', h1, h2, h3⟩ := run_first W o.type W0.heap.size g ax cp L z.blk z.ge z.bel.size (hr.below z.bel) hL
  obtain ⟨a1, c1, rfl⟩ := own_len h2
  unfold Oper.wp execOp
  simp only [ho, resolve, invoke, builtin, Sem.run_bind, Sem.run_pure, Result.andThen_ok, List.map_toArray, List.map_cons, List.map_nil, hs, hx, h1]
  refine h a1 c1 w' h2 (below_append z.bel (own_empty z.blk z.ge) z.bel.size h3) fun b t cs hb hne => hb.grown h3 ?_
  simpa using hne
theorem step_second (hgd : o.guard = none) (s x : Operand) (ho : o.op = .call { callee := .builtin .append, args := #[s, x], argTypes := #[27, 27] }) {a1 : Option Addr} {c1 g : Nat} {L : List PT} {p : PT}
    (hs : a.eval s = .slice a1 L.length c1) (hx : a.eval x = .slice (some ⟨g, 0, none⟩) 1 1) (hL : L.length ≤ 1000)
    (hown : W.ownsRow W0.heap.size 31 4 (.slice a1 L.length c1) L.length (ptsC L)) (hb : Below W0.heap.size W0 W) (hE : Bk W g 31 #[.int .i64 p.1, .int .i64 p.2.1, .int .i64 p.2.2.1, .string p.2.2.2])
    (h : ∀ a2 c2 W2, (L ++ [p]).length ≤ c2 → RowL W2 a2 (L ++ [p]) → Below W0.heap.size W0 W2 → K (a.put o.dst (.slice a2 (L ++ [p]).length c2)) W2) :
    if Region.wanted o (yielded ops a.tmps) = true then Oper.wp Try.prog o a W K Q else E := by
  obtain ⟨i31, hb0, hb1', hb2, hb3⟩ := info_parts info31
  have hw : Region.wanted o (yielded ops a.tmps) = true := by simp [Region.wanted, hgd]
  rw [if_pos hw]
  obtain ⟨v', w', h5, h6, h7, _⟩ := run_append_own_at (P := Try.prog) W W0.heap.size 27 o.type 31 i31 (.agg #[.int .i64 0, .int .i64 0, .int .i64 0, .string ⟨#[]⟩]) 4 40 Try.underlying27 hb0 hb1' hb2 hb3 rfl (by decide) _ _ _ hown ⟨g, 0, none⟩ 1 1 (ptV p) rfl (fun j u hu => by
          rw [addr_add, hE.cell]
          simpa [ptV] using hu) (ptV_one p) (by unfold maxLen; omega) (by omega) hb.size
  rw [← ptsC_snoc] at h6
  have hb' := below_append hb hown hb.size h7
  have h6' : w'.ownsRow W0.heap.size 31 4 v' (L ++ [p]).length (ptsC (L ++ [p])) := by simpa using h6
  obtain ⟨a2, c2, rfl, hc, hrow⟩ := rowL_of h6'
  unfold Oper.wp execOp
  simp only [ho, resolve, invoke, builtin, Sem.run_bind, Sem.run_pure, Result.andThen_ok, List.map_toArray, List.map_cons, List.map_nil, hs, hx, h5]
  exact h a2 c2 w' hc hrow hb'
end
end Go.Proofs.Ytoclbcpfiacoaaa
