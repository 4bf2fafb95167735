/- Small lemmas on blocks of cells that a call made, and on what a step leaves alone. No program in sight. -/
import Derived.Below
import Derived.Deep.Draws
import Derived.Laws.OwnMore
import Derived.Laws.Rows
import Derived.Maps.AppendAt
import Derived.Maps.Range
import Derived.Calls
namespace Go.Proofs.YtckdahojhdbpjaaDoor
set_option linter.unusedVariables false
set_option linter.unusedSimpArgs false
open Go.RowKit

theorem ret_int {k : IntKind} {a b : Int} (h : a = b) : Ending.returned (.int k a) = .returned (.int k b) := by rw [h]
theorem ret_bool {a b : Bool} (h : a = b) : Ending.returned (.bool a) = .returned (.bool b) := by rw [h]
theorem hide {p : Prop} (h : p) : Hid p := h

/-- a fact kept aside: nothing looks into it -/
structure Sh (p : Prop) : Prop where
  mk ::
  out : p
theorem sh {p : Prop} (h : p) : Sh p := ⟨h⟩

/-- Block g of w holds just these cells, of type t; none is frozen. -/
def Bk (w : World) (g : Nat) (t : TypeId) (cs : Array Value) : Prop := w.heap[g]? = some (.cells cs t (0, 0))

section
variable {w w' : World} {g : Nat} {t : TypeId} {cs : Array Value}
theorem Bk.lt (h : Bk w g t cs) : g < w.heap.size := (Array.getElem?_eq_some_iff.1 h).1
theorem Bk.cell (h : Bk w g t cs) (i : Nat) : w.cell? ⟨g, i, none⟩ = cs[i]? := cell_of_row w g i cs t (0, 0) h
theorem Bk.free (h : Bk w g t cs) (i : Nat) : w.frozen? ⟨g, i, none⟩ = false := by
  have h' : w.heap[g]? = some (.cells cs t (0, 0)) := h
  simp [World.frozen?, h']
theorem Bk.made (w : World) (t : TypeId) (cs : Array Value) : Bk (w.alloc (.cells cs t)) w.heap.size t cs := by
  show (w.heap.push _)[w.heap.size]? = _
  simp
theorem Bk.alloc (h : Bk w g t cs) (o : Obj) : Bk (w.alloc o) g t cs := (Below.heap_alloc w o g h.lt).trans h
theorem Bk.drew (h : Bk w g t cs) : Bk w.drew g t cs := h
theorem Bk.drewN (h : Bk w g t cs) (n : Nat) : Bk (w.drewN n) g t cs := h
theorem Bk.put (h : Bk w g t cs) (i : Nat) (u : Value) : Bk (w.setCell ⟨g, i, none⟩ u) g t (cs.setIfInBounds i u) := by
  have h' : w.heap[g]? = some (.cells cs t (0, 0)) := h
  show (w.setCell ⟨g, i, none⟩ u).heap[g]? = _
  simp [World.setCell, Array.getElem?_modify, h']
theorem Bk.far (h : Bk w g t cs) {p : Addr} (hp : g ≠ p.block) (u : Value) : Bk (w.setCell p u) g t cs := (Below.heap_setCell w p u g hp).trans h
theorem Bk.below {B : Nat} (h : Bk w g t cs) (hb : Below B w w') (hg : g < B) : Bk w' g t cs := (hb.block g hg).trans h
theorem Bk.grown {row : Option Nat} (h : Bk w g t cs) (hb : w.grownBy w' row) (hg : some g ≠ row) : Bk w' g t cs := (hb.block g h.lt hg).trans h
theorem Bk.ne {g' : Nat} {t' : TypeId} {cs' : Array Value} (h : Bk w g t cs) (h' : Bk w g' t' cs') (hne : t ≠ t') : g ≠ g' := by
  rintro rfl
  have e := Option.some.inj (Eq.trans h.symm h')
  injection e with _ e2 _
  exact hne e2
theorem Bk.ne_map {m : Nat} {es : Array MapEntry} {c : Nat} (h : Bk w g t cs) (h' : w.heap[m]? = some (.map es c)) : g ≠ m := by
  rintro rfl
  have e := Option.some.inj (Eq.trans h.symm h')
  cases e
end

section
variable {w w1 w2 : World} {row : Option Nat}
theorem only_refl (w : World) (row : Option Nat) : w.grownBy w row := ⟨rfl, rfl, rfl, Nat.le_refl _, fun _ _ _ => rfl⟩
theorem only_drewN (w : World) (n : Nat) (row : Option Nat) : w.grownBy (w.drewN n) row := ⟨rfl, rfl, rfl, Nat.le_refl _, fun _ _ _ => rfl⟩
theorem only_drew (h : w.grownBy w1 row) : w.grownBy w1.drew row := ⟨h.os, h.tape, h.output, h.size, h.block⟩
theorem only_drewN' (h : w.grownBy w1 row) (n : Nat) : w.grownBy (w1.drewN n) row := h.trans (only_drewN _ _ _)
theorem only_set (h : w.grownBy w1 row) {p : Addr} (hp : row = some p.block) (u : Value) : w.grownBy (w1.setCell p u) row :=
  h.trans ⟨rfl, rfl, rfl, by simp [World.setCell], fun k _ hk => Below.heap_setCell _ _ _ _ (by rintro rfl; exact hk hp.symm)⟩
theorem only_alloc (h : w.grownBy w1 row) (o : Obj) : w.grownBy (w1.alloc o) row := h.trans (World.grownBy_alloc _ _ _)
/-- a store into a block that was not there at first -/
theorem only_set_new (h : w.grownBy w1 row) {p : Addr} (hp : w.heap.size ≤ p.block) (u : Value) : w.grownBy (w1.setCell p u) row :=
  ⟨h.os, h.tape, h.output, by simpa [World.setCell] using h.size, fun k hk hr => (Below.heap_setCell _ _ _ _ (by omega)).trans (h.block k hk hr)⟩
theorem below_only {B : Nat} (h : Below B w w1) (hg : w1.grownBy w2 row) (hB : B ≤ w1.heap.size) (hr : ∀ k, row = some k → B ≤ k) : Below B w w2 := h.grown hg hB hr
theorem below_drewN {B : Nat} (h : Below B w w1) (n : Nat) : Below B w (w1.drewN n) := ⟨h.os, h.tape, h.output, h.size, h.block⟩
end

/-- how a pointer to a struct of the call's own reads, as a map's element: by its block -/
def ptrElem : Value → Option (DataW Nat × List MemPlace)
  | .pointer none => some (.nil, [])
  | .pointer (some a) => if a = ⟨a.block, 0, none⟩ then some (.held a.block, []) else none
  | _ => none
theorem ptrElem_mk (b : Nat) : ptrElem (.pointer (some ⟨b, 0, none⟩)) = some (.held b, []) := by simp [ptrElem]
theorem ptrElem_nil : ptrElem (.pointer none) = some (.nil, []) := rfl
theorem ptrElem_held {v : Value} {b : Nat} {ps : List MemPlace} (h : ptrElem v = some (.held b, ps)) : v = .pointer (some ⟨b, 0, none⟩) := by
  unfold ptrElem at h
  split at h
  · cases h
  · split at h
    · rename_i a ha
      simp only [Option.some.injEq, Prod.mk.injEq, DataW.held.injEq] at h
      rw [ha, h.1]
    · cases h
  · cases h
theorem ptrElem_none {v : Value} {ps : List MemPlace} (h : ptrElem v = some (.nil, ps)) : v = .pointer none := by
  unfold ptrElem at h
  split at h
  · rfl
  · split at h <;> cases h
  · cases h
end Go.Proofs.YtckdahojhdbpjaaDoor
