/- PartsOrder: the parts in their row, and two of them exchanged. -/
import Derived.Test.YtoclbcpfiacoaaaOrd1
import Derived.Test.YtoclbcpfiacoaaaJn8
import Derived.Test.YtoclbcpfiacoaaaAlive30
namespace Go.Proofs.Ytoclbcpfiacoaaa
set_option linter.unusedVariables false
set_option linter.unusedSimpArgs false
open Go.RowKit

/-- the row's block: the parts, in this order -/
structure LR (W : World) (g n : Nat) (id : Int) (F : Nat → List UInt8) (σ : List Nat) : Prop where
  ex : ∃ cur, Bk W g 33 cur ∧ n * 4 ≤ cur.size ∧ ∀ j i, σ[j]? = some i → cur[j * 4]? = some (.int .i64 id) ∧ cur[j * 4 + 1]? = some (.int .i64 (i : Int)) ∧ cur[j * 4 + 2]? = some (.int .i64 (n : Int)) ∧ cur[j * 4 + 3]? = some (.string (str (F i)))
  len : σ.length = n
section
variable {W W' : World} {g n : Nat} {id : Int} {F : Nat → List UInt8} {σ : List Nat}
theorem LR.lt (h : LR W g n id F σ) : g < W.heap.size := by obtain ⟨cur, hb, _⟩ := h.ex; exact hb.lt
theorem LR.below (h : LR W g n id F σ) (hb : Below W.heap.size W W') : LR W' g n id F σ := by
  obtain ⟨cur, h1, h2⟩ := h.ex
  exact ⟨⟨cur, h1.below hb h1.lt, h2⟩, h.len⟩
theorem LR.cells (h : LR W g n id F σ) {j i : Nat} (hj : σ[j]? = some i) : W.cell? ⟨g, j * 4, none⟩ = some (.int .i64 id) ∧ W.cell? ⟨g, j * 4 + 1, none⟩ = some (.int .i64 (i : Int)) ∧ W.cell? ⟨g, j * 4 + 2, none⟩ = some (.int .i64 (n : Int)) ∧ W.cell? ⟨g, j * 4 + 3, none⟩ = some (.string (str (F i))) := by
  obtain ⟨cur, h1, _, h2⟩ := h.ex
  obtain ⟨a0, a1, a2, a3⟩ := h2 j i hj
  exact ⟨(h1.cell _).trans a0, (h1.cell _).trans a1, (h1.cell _).trans a2, (h1.cell _).trans a3⟩
theorem LR.free (h : LR W g n id F σ) (o : Nat) : W.frozen? ⟨g, o, none⟩ = false := by obtain ⟨cur, h1, _⟩ := h.ex; exact h1.free o
end
theorem lr_of {W : World} {B n cap g : Nat} {id : Int} {F : Nat → List UInt8} (h : W.ownsRow B 33 4 (.slice (some ⟨g, 0, none⟩) n cap) n (pcs id (n : Int) n F)) : LR W g n id F (List.range n) ∧ B ≤ g := by
  rcases h.2 with ⟨e, _⟩ | ⟨g', cap', cur, e, hB, hb, hc, _, hs, ht⟩
  · cases e
  · simp only [Value.slice.injEq, Option.some.injEq, Addr.mk.injEq] at e
    obtain ⟨⟨rfl, _⟩, _, rfl⟩ := e
    refine ⟨⟨⟨cur, hb, by rw [hs]; exact Nat.mul_le_mul_right _ hc, fun j i hj => ?_⟩, List.length_range⟩, hB⟩
    obtain ⟨hjn, rfl⟩ := List.getElem?_eq_some_iff.1 hj
    rw [List.length_range] at hjn
    have hrg : (List.range n)[j]'(by rw [List.length_range]; exact hjn) = j := by simp
    have hp := pcs_at (id := id) (of := (n : Int)) (f := F) hjn
    have hk : ∀ o, o < n * 4 → cur[o]? = (pcs id (n : Int) n F)[o]? := fun o ho => by
      rw [← ht, List.getElem?_take, if_pos ho, Array.getElem?_toList]
    rw [hk _ (by omega), hk _ (by omega), hk _ (by omega), hk _ (by omega), hrg]
    exact hp
/-- what the eight stores of an exchange leave -/
def swapW (W : World) (g i k : Nat) (a b : Int) (id n : Int) (u v : ByteArray) : World :=
  (((((((W.setCell ⟨g, i * 4, none⟩ (.int .i64 id)).setCell ⟨g, i * 4 + 1, none⟩ (.int .i64 a)).setCell ⟨g, i * 4 + 2, none⟩ (.int .i64 n)).setCell ⟨g, i * 4 + 3, none⟩ (.string u)).setCell ⟨g, k * 4, none⟩ (.int .i64 id)).setCell ⟨g, k * 4 + 1, none⟩ (.int .i64 b)).setCell ⟨g, k * 4 + 2, none⟩ (.int .i64 n)).setCell ⟨g, k * 4 + 3, none⟩ (.string v)
theorem swap_cells {cur : Array Value} {id : Int} {n : Nat} {F : Nat → List UInt8} {σ : List Nat} {i k a b : Nat} (hlen : σ.length = n) (hin : i < n) (hkn : k < n) (h2 : n * 4 ≤ cur.size)
    (h3 : ∀ j i, σ[j]? = some i → cur[j * 4]? = some (.int .i64 id) ∧ cur[j * 4 + 1]? = some (.int .i64 (i : Int)) ∧ cur[j * 4 + 2]? = some (.int .i64 (n : Int)) ∧ cur[j * 4 + 3]? = some (.string (str (F i)))) :
    ∀ j c, ((σ.set i b).set k a)[j]? = some c →
      ((((((((cur.setIfInBounds (i * 4) (.int .i64 id)).setIfInBounds (i * 4 + 1) (.int .i64 (b : Int))).setIfInBounds (i * 4 + 2) (.int .i64 (n : Int))).setIfInBounds (i * 4 + 3) (.string (str (F b)))).setIfInBounds (k * 4) (.int .i64 id)).setIfInBounds (k * 4 + 1) (.int .i64 (a : Int))).setIfInBounds (k * 4 + 2) (.int .i64 (n : Int))).setIfInBounds (k * 4 + 3) (.string (str (F a))))[j * 4]? = some (.int .i64 id) ∧
      ((((((((cur.setIfInBounds (i * 4) (.int .i64 id)).setIfInBounds (i * 4 + 1) (.int .i64 (b : Int))).setIfInBounds (i * 4 + 2) (.int .i64 (n : Int))).setIfInBounds (i * 4 + 3) (.string (str (F b)))).setIfInBounds (k * 4) (.int .i64 id)).setIfInBounds (k * 4 + 1) (.int .i64 (a : Int))).setIfInBounds (k * 4 + 2) (.int .i64 (n : Int))).setIfInBounds (k * 4 + 3) (.string (str (F a))))[j * 4 + 1]? = some (.int .i64 (c : Int)) ∧
      ((((((((cur.setIfInBounds (i * 4) (.int .i64 id)).setIfInBounds (i * 4 + 1) (.int .i64 (b : Int))).setIfInBounds (i * 4 + 2) (.int .i64 (n : Int))).setIfInBounds (i * 4 + 3) (.string (str (F b)))).setIfInBounds (k * 4) (.int .i64 id)).setIfInBounds (k * 4 + 1) (.int .i64 (a : Int))).setIfInBounds (k * 4 + 2) (.int .i64 (n : Int))).setIfInBounds (k * 4 + 3) (.string (str (F a))))[j * 4 + 2]? = some (.int .i64 (n : Int)) ∧
      ((((((((cur.setIfInBounds (i * 4) (.int .i64 id)).setIfInBounds (i * 4 + 1) (.int .i64 (b : Int))).setIfInBounds (i * 4 + 2) (.int .i64 (n : Int))).setIfInBounds (i * 4 + 3) (.string (str (F b)))).setIfInBounds (k * 4) (.int .i64 id)).setIfInBounds (k * 4 + 1) (.int .i64 (a : Int))).setIfInBounds (k * 4 + 2) (.int .i64 (n : Int))).setIfInBounds (k * 4 + 3) (.string (str (F a))))[j * 4 + 3]? = some (.string (str (F c))) := by
  intro j c hj
  have hjn : j < n := by
    have := (List.getElem?_eq_some_iff.1 hj).1
    rw [List.length_set, List.length_set, hlen] at this
    exact this
  rw [List.getElem?_set, List.length_set, hlen] at hj
  simp only [Array.getElem?_setIfInBounds, Array.size_setIfInBounds]
  by_cases e1 : k = j
  · subst e1
    rw [if_pos rfl, if_pos hkn] at hj
    cases hj
    refine ⟨?_, ?_, ?_, ?_⟩ <;> (repeat' (first | rw [if_pos (by omega)] | rw [if_neg (by omega)]))
  · rw [if_neg e1, List.getElem?_set, hlen] at hj
    by_cases e2 : i = j
    · subst e2
      rw [if_pos rfl, if_pos hin] at hj
      cases hj
      refine ⟨?_, ?_, ?_, ?_⟩ <;> (repeat' (first | rw [if_pos (by omega)] | rw [if_neg (by omega)]))
    · rw [if_neg e2] at hj
      obtain ⟨c0, c1, c2, c3⟩ := h3 j c hj
      refine ⟨?_, ?_, ?_, ?_⟩ <;> (repeat' (first | rw [if_neg (by omega)])) <;> assumption
theorem LR.swap {W : World} {g n : Nat} {id : Int} {F : Nat → List UInt8} {σ : List Nat} (h : LR W g n id F σ) {i k a b : Nat} (hi : σ[i]? = some a) (hk : σ[k]? = some b) :
    LR (swapW W g i k (b : Int) (a : Int) id n (str (F b)) (str (F a))) g n id F ((σ.set i b).set k a) := by
  obtain ⟨cur, h1, h2, h3⟩ := h.ex
  have hin := (List.getElem?_eq_some_iff.1 hi).1
  have hkn := (List.getElem?_eq_some_iff.1 hk).1
  rw [h.len] at hin hkn
  have h4 := (((((((h1.put (i * 4) (.int .i64 id)).put (i * 4 + 1) (.int .i64 (b : Int))).put (i * 4 + 2) (.int .i64 (n : Int))).put (i * 4 + 3) (.string (str (F b)))).put (k * 4) (.int .i64 id)).put (k * 4 + 1) (.int .i64 (a : Int))).put (k * 4 + 2) (.int .i64 (n : Int))).put (k * 4 + 3) (.string (str (F a)))
  have hlen := h.len
  obtain ⟨c8, hc8⟩ : ∃ c, (((((((cur.setIfInBounds (i * 4) (.int .i64 id)).setIfInBounds (i * 4 + 1) (.int .i64 (b : Int))).setIfInBounds (i * 4 + 2) (.int .i64 (n : Int))).setIfInBounds (i * 4 + 3) (.string (str (F b)))).setIfInBounds (k * 4) (.int .i64 id)).setIfInBounds (k * 4 + 1) (.int .i64 (a : Int))).setIfInBounds (k * 4 + 2) (.int .i64 (n : Int))).setIfInBounds (k * 4 + 3) (.string (str (F a))) = c := ⟨_, rfl⟩
  rw [hc8] at h4
  have hs8 : c8.size = cur.size := by rw [← hc8]; simp only [Array.size_setIfInBounds]
  have h5 : Bk (swapW W g i k (b : Int) (a : Int) id (n : Int) (str (F b)) (str (F a))) g 33 c8 := h4
  generalize swapW W g i k (b : Int) (a : Int) id (n : Int) (str (F b)) (str (F a)) = W8 at *
  clear h4
  have h6 : n * 4 ≤ c8.size := by rw [hs8]; exact h2
  have h7 : ∀ j c, ((σ.set i b).set k a)[j]? = some c → c8[j * 4]? = some (.int .i64 id) ∧ c8[j * 4 + 1]? = some (.int .i64 (c : Int)) ∧ c8[j * 4 + 2]? = some (.int .i64 (n : Int)) ∧ c8[j * 4 + 3]? = some (.string (str (F c))) := by
    subst hc8
    exact swap_cells hlen hin hkn h2 h3
  exact ⟨⟨c8, h5, h6, h7⟩, by rw [List.length_set, List.length_set]; exact hlen⟩
theorem swap_below {B : Nat} {w0 W : World} {g i k : Nat} {a b id n : Int} {u v : ByteArray} (h : Below B w0 W) (hg : B ≤ g) : Below B w0 (swapW W g i k a b id n u v) :=
  (((((((h.setCell (p := ⟨g, _, none⟩) hg _).setCell (p := ⟨g, _, none⟩) hg _).setCell (p := ⟨g, _, none⟩) hg _).setCell (p := ⟨g, _, none⟩) hg _).setCell (p := ⟨g, _, none⟩) hg _).setCell (p := ⟨g, _, none⟩) hg _).setCell (p := ⟨g, _, none⟩) hg _).setCell (p := ⟨g, _, none⟩) hg _
theorem swap_only {W : World} {g i k : Nat} {a b id n : Int} {u v : ByteArray} : W.grownBy (swapW W g i k a b id n u v) (some g) := by
  unfold swapW
  iterate 8 refine only_set ?_ rfl _
  exact only_refl _ _
theorem swap_perm {σ : List Nat} {i k a b : Nat} (hi : σ[i]? = some a) (hk : σ[k]? = some b) : ((σ.set i b).set k a).Perm σ := by
  obtain ⟨h1, rfl⟩ := List.getElem?_eq_some_iff.1 hi
  obtain ⟨h2, rfl⟩ := List.getElem?_eq_some_iff.1 hk
  exact List.set_set_perm h1 h2
end Go.Proofs.Ytoclbcpfiacoaaa
