/- The reference's joiner (layer 30): Add. -/
import Derived.Test.YtoclbcpfiacoaaaR3
namespace Go.Proofs.Ytoclbcpfiacoaaa
set_option linter.unusedVariables false
set_option linter.unusedSimpArgs false
open Go.RowKit

/-- the texts of a body that are there -/
def psL (L : List PT) (id : Int) : PL := (L.filter fun p => decide (p.1 = id)).map fun p => (p.2.1, p.2.2.2)
theorem psL_snoc (L : List PT) (p : PT) (id : Int) : psL (L ++ [p]) id = psL L id ++ (if p.1 = id then [(p.2.1, p.2.2.2)] else []) := by
  unfold psL
  rw [List.filter_append, List.map_append]
  by_cases h : p.1 = id <;> simp [h]
theorem psL_len (L : List PT) (id : Int) : (psL L id).length ≤ L.length := by unfold psL; rw [List.length_map]; exact List.length_filter_le _ _
/-- a part that stands against the one that comes -/
def badP (id n of : Int) (q : PT) : Prop := q.1 = id ∧ (q.2.2.1 ≠ of ∨ q.2.1 = n)
instance (id n of : Int) (q : PT) : Decidable (badP id n of q) := by unfold badP; infer_instance
theorem madeS (k : Nat) : madeCells (Value.string ⟨#[]⟩).cells k = Array.replicate k (.string ⟨#[]⟩) := by
  apply Array.ext
  · simp [size_madeCells]
  · intro i h1 h2
    simp [madeCells, Value.cells, Nat.mod_one]
def RetAdd (w : World) (most opn : Int) (L' : List PT) (s : ByteArray) (b : Bool) (f : Int) (e : Ending) (w' : World) : Prop :=
  ∃ a cp, e = .returned (.tuple #[JV most opn a L'.length cp, .string s, .bool b, .int .i64 f]) ∧ L'.length ≤ cp ∧ RowL w' a L' ∧ Below w.heap.size w w'
/-- the state of Add's memory: the joiner's box, the part's box, the result's box -/
structure RA (w : World) (N : Nat) (most opn : Int) (a : Option Addr) (L : List PT) (cp : Nat) (id n of : Int) (t : ByteArray) (W : World) : Prop where
  J : Bk W N 46 #[.int .i64 most, .int .i64 opn, .slice a L.length cp]
  P : Bk W (N + 1) 31 #[.int .i64 id, .int .i64 n, .int .i64 of, .string t]
  R : Bk W (N + 1 + 1) 46 #[.int .i64 0, .int .i64 0, .slice none 0 0]
  row : RowL W a L
  bel : Below N w W
section
variable {w W W' : World} {N : Nat} {most opn : Int} {a : Option Addr} {L : List PT} {cp : Nat} {id n of : Int} {t : ByteArray}
theorem RA.below (h : RA w N most opn a L cp id n of t W) (hb : Below W.heap.size W W') : RA w N most opn a L cp id n of t W' :=
  ⟨h.J.below hb h.J.lt, h.P.below hb h.P.lt, h.R.below hb h.R.lt, h.row.below hb, h.bel.trans (hb.mono (by have := h.J.lt; omega))⟩
theorem RA.drewN (h : RA w N most opn a L cp id n of t W) (k : Nat) : RA w N most opn a L cp id n of t (W.drewN k) := h.below (below_drewN (Below.refl _ _) k)
/-- the joiner handed back as it came -/
theorem RA.back (h : RA w N most opn a L cp id n of t W) : ∃ W', W' = ((W.setCell ⟨N + 1 + 1, 0, none⟩ (.int .i64 most)).setCell ⟨N + 1 + 1, 1, none⟩ (.int .i64 opn)).setCell ⟨N + 1 + 1, 2, none⟩ (.slice a L.length cp) ∧
    W'.cell? ⟨N + 1 + 1, 0, none⟩ = some (.int .i64 most) ∧ W'.cell? ⟨N + 1 + 1, 1, none⟩ = some (.int .i64 opn) ∧ W'.cell? ⟨N + 1 + 1, 2, none⟩ = some (.slice a L.length cp) ∧ RowL W' a L ∧ Below N w W' := by
  have h1 := h.R.put 0 (.int .i64 most)
  have h2 := h1.put 1 (.int .i64 opn)
  have h3 := h2.put 2 (.slice a L.length cp)
  refine ⟨_, rfl, h3.cell 0, h3.cell 1, h3.cell 2, ((h.row.set (p := ⟨N + 1 + 1, 0, none⟩) h.R (by decide) _).set (p := ⟨N + 1 + 1, 1, none⟩) h1 (by decide) _).set (p := ⟨N + 1 + 1, 2, none⟩) h2 (by decide) _, ?_⟩
  exact ((h.bel.setCell (p := ⟨N + 1 + 1, 0, none⟩) (by simp; omega) _).setCell (p := ⟨N + 1 + 1, 1, none⟩) (by simp; omega) _).setCell (p := ⟨N + 1 + 1, 2, none⟩) (by simp; omega) _
end
theorem ra_start (w : World) (most opn : Int) (a : Option Addr) (L : List PT) (cp : Nat) (id n of : Int) (t : ByteArray) (hL : RowL w a L) : RA w w.heap.size most opn a L cp id n of t (((w.alloc (.cells #[.int .i64 most, .int .i64 opn, .slice a L.length cp] 46)).alloc (.cells #[.int .i64 id, .int .i64 n, .int .i64 of, .string t] 31)).alloc (.cells #[.int .i64 0, .int .i64 0, .slice none 0 0] 46)) := by
  have h1 := Bk.made w 46 #[.int .i64 most, .int .i64 opn, .slice a L.length cp]
  have h2 := Bk.made (w.alloc (.cells #[.int .i64 most, .int .i64 opn, .slice a L.length cp] 46)) 31 #[.int .i64 id, .int .i64 n, .int .i64 of, .string t]
  have h3 := Bk.made ((w.alloc (.cells #[.int .i64 most, .int .i64 opn, .slice a L.length cp] 46)).alloc (.cells #[.int .i64 id, .int .i64 n, .int .i64 of, .string t] 31)) 46 #[.int .i64 0, .int .i64 0, .slice none 0 0]
  rw [World.size_alloc] at h2
  rw [World.size_alloc, World.size_alloc] at h3
  have hb : Below w.heap.size w (((w.alloc (.cells #[.int .i64 most, .int .i64 opn, .slice a L.length cp] 46)).alloc (.cells #[.int .i64 id, .int .i64 n, .int .i64 of, .string t] 31)).alloc (.cells #[.int .i64 0, .int .i64 0, .slice none 0 0] 46)) := (((Below.refl _ w).alloc (Nat.le_refl _) _).alloc (by simp) _).alloc (by simp; omega) _
  exact ⟨(h1.alloc _).alloc _, h2.alloc _, h3, hL.below hb, hb⟩
set_option maxRecDepth 100000 in
set_option maxHeartbeats 1000000 in
theorem radd_bad (most opn : Int) (a : Option Addr) (L : List PT) (cp : Nat) (id n of : Int) (t : ByteArray) (w : World) (hL : RowL w a L) (hcp : L.length ≤ cp) (hm : ¬ MayP id n of t) :
    Calls Try.prog 20 #[.agg #[.int .i64 most, .int .i64 opn, .slice a L.length cp], .agg #[.int .i64 id, .int .i64 n, .int .i64 of, .string t]] w (RetAdd w most opn L ⟨#[]⟩ false 1) := by
  have HM := sh (rmay id n of t)
  rw [decide_eq_false hm] at HM
  have S0 := sh (ra_start w most opn a L cp id n of t hL)
  clear hm hL
  have p0 := S0.out.P.cell 0
  go_enter Try.func20, Try.ntmps20
  go_wp2_with fail
  generalize (((w.alloc (.cells #[.int .i64 most, .int .i64 opn, .slice a L.length cp] 46)).alloc (.cells #[.int .i64 id, .int .i64 n, .int .i64 of, .string t] 31)).alloc (.cells #[.int .i64 0, .int .i64 0, .slice none 0 0] 46)) = W0 at *
  refine (HM.out _).mono ?_
  rintro e' W1 ⟨rfl, hb1⟩
  have S1 := sh (S0.out.below hb1)
  clear HM S0 hb1 p0
  have j0 := S1.out.J.cell 0
  have j1 := S1.out.J.cell 1
  have j2 := S1.out.J.cell 2
  have r0 := S1.out.R.cell 0
  have r1 := S1.out.R.cell 1
  have r2 := S1.out.R.cell 2
  have y0 := S1.out.R.free 0
  have y1 := S1.out.R.free 1
  have y2 := S1.out.R.free 2
  obtain ⟨W9, hW9, e0, e1, e2, hrow, hbel⟩ := S1.out.back
  have SH9 := sh (And.intro hrow hbel)
  clear hrow hbel
  go_wp2_with fail
  rw [← hW9]
  clear hW9 j0 j1 j2 r0 r1 r2 y0 y1 y2
  refine bodyPost_ret (v := .tuple #[JV most opn a L.length cp, .string ⟨#[]⟩, .bool false, .int .i64 1]) ?_ ?_ ⟨a, cp, rfl, hcp, SH9.out.1, SH9.out.2⟩
  · simp [results, Try.results20, go_sem, e0, e1, e2, JV]
  · rfl
end Go.Proofs.Ytoclbcpfiacoaaa
