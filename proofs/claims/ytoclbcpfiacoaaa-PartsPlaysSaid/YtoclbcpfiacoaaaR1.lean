/- The reference's joiner (layer 30): its parts in a row; Used, Drop: contracts. -/
import Derived.Test.YtoclbcpfiacoaaaJn8
import Derived.Test.YtoclbcpfiacoaaaRCut
import Derived.Test.YtoclbcpfiacoaaaPb2
namespace Go.Proofs.Ytoclbcpfiacoaaa
set_option linter.unusedVariables false
set_option linter.unusedSimpArgs false
open Go.RowKit

abbrev PT := Int × Int × Int × ByteArray
def ptV (p : PT) : List Value := [.int .i64 p.1, .int .i64 p.2.1, .int .i64 p.2.2.1, .string p.2.2.2]
def ptsC (L : List PT) : List Value := L.flatMap ptV
theorem ptsC_snoc (L : List PT) (p : PT) : ptsC (L ++ [p]) = ptsC L ++ ptV p := by simp [ptsC]
theorem ptsC_len (L : List PT) : (ptsC L).length = L.length * 4 := by
  induction L with
  | nil => rfl
  | cons p L ih => simp only [ptsC, List.flatMap_cons, List.length_append] at *; rw [ih]; simp [ptV]; omega
theorem ptsC_at : ∀ {L : List PT} {i : Nat} {p : PT}, L[i]? = some p → (ptsC L)[i * 4]? = some (.int .i64 p.1) ∧ (ptsC L)[i * 4 + 1]? = some (.int .i64 p.2.1) ∧ (ptsC L)[i * 4 + 2]? = some (.int .i64 p.2.2.1) ∧ (ptsC L)[i * 4 + 3]? = some (.string p.2.2.2)
  | q :: L, 0, p, h => by
    simp only [List.getElem?_cons_zero, Option.some.injEq] at h
    subst h
    exact ⟨rfl, rfl, rfl, rfl⟩
  | q :: L, i + 1, p, h => by
    rw [List.getElem?_cons_succ] at h
    have ih := ptsC_at h
    have e : ∀ o, (ptsC (q :: L))[(i + 1) * 4 + o]? = (ptsC L)[i * 4 + o]? := fun o => by
      show (ptV q ++ ptsC L)[(i + 1) * 4 + o]? = _
      rw [List.getElem?_append_right (by simp [ptV]; omega)]
      congr 1
      simp [ptV]; omega
    have e0 := e 0
    simp only [Nat.add_zero] at e0
    rw [e0, e, e, e]
    exact ih
/-- a slice of parts that lies in memory -/
def RowL (W : World) (a : Option Addr) (L : List PT) : Prop := L = [] ∨ ∃ g cur, a = some ⟨g, 0, none⟩ ∧ Bk W g 31 cur ∧ L.length * 4 ≤ cur.size ∧ ∀ o, o < L.length * 4 → cur[o]? = (ptsC L)[o]?
section
variable {W W' : World} {a : Option Addr} {L : List PT}
theorem RowL.below (h : RowL W a L) (hb : Below W.heap.size W W') : RowL W' a L := by
  rcases h with h | ⟨g, cur, h1, h2, h3⟩
  · exact .inl h
  · exact .inr ⟨g, cur, h1, h2.below hb h2.lt, h3⟩
theorem RowL.kp (h : RowL W a L) (hk : Kp W W') : RowL W' a L := by
  rcases h with h | ⟨g, cur, h1, h2, h3⟩
  · exact .inl h
  · refine .inr ⟨g, cur, h1, hk _ _ h2 ?_, h3⟩
    rintro (⟨es, c, e⟩ | ⟨cs, t, f, e, ht⟩)
    · cases e
    · cases e; exact absurd ht (by decide)
theorem RowL.set {p : Addr} {t : TypeId} {cs : Array Value} (h : RowL W a L) (hb : Bk W p.block t cs) (ht : t ≠ 31) (v : Value) : RowL (W.setCell p v) a L := by
  rcases h with h | ⟨g, cur, h1, h2, h3⟩
  · exact .inl h
  · exact .inr ⟨g, cur, h1, h2.far (h2.ne hb ht.symm) v, h3⟩
theorem RowL.at_ (h : RowL W a L) {i : Nat} {p : PT} (hi : L[i]? = some p) : ∃ g, a = some ⟨g, 0, none⟩ ∧ g < W.heap.size ∧ W.cell? ⟨g, i * 4, none⟩ = some (.int .i64 p.1) ∧ W.cell? ⟨g, i * 4 + 1, none⟩ = some (.int .i64 p.2.1) ∧ W.cell? ⟨g, i * 4 + 2, none⟩ = some (.int .i64 p.2.2.1) ∧ W.cell? ⟨g, i * 4 + 3, none⟩ = some (.string p.2.2.2) := by
  have hil := (List.getElem?_eq_some_iff.1 hi).1
  rcases h with h | ⟨g, cur, h1, h2, h3, h4⟩
  · subst h; cases hi
  · obtain ⟨c0, c1, c2, c3⟩ := ptsC_at hi
    exact ⟨g, h1, h2.lt, (h2.cell _).trans ((h4 _ (by omega)).trans c0), (h2.cell _).trans ((h4 _ (by omega)).trans c1), (h2.cell _).trans ((h4 _ (by omega)).trans c2), (h2.cell _).trans ((h4 _ (by omega)).trans c3)⟩
end
/-- a slice that the call made -/
theorem rowL_of {W : World} {B : Nat} {v : Value} {L : List PT} (h : W.ownsRow B 31 4 v L.length (ptsC L)) : ∃ a cp, v = .slice a L.length cp ∧ L.length ≤ cp ∧ RowL W a L := by
  rcases h.2 with ⟨rfl, h0⟩ | ⟨g, cap, cur, rfl, hB, hb, hc, _, hs, ht⟩
  · have : L = [] := List.eq_nil_of_length_eq_zero h0
    subst this
    exact ⟨none, 0, rfl, Nat.le_refl _, .inl rfl⟩
  · refine ⟨_, _, rfl, hc, .inr ⟨g, cur, rfl, hb, by rw [hs]; exact Nat.mul_le_mul_right _ hc, fun o ho => ?_⟩⟩
    rw [← ht, List.getElem?_take, if_pos ho, Array.getElem?_toList]
def sizes (L : List PT) : Nat := (L.map fun p => p.2.2.2.size).sum
theorem sizes_snoc (L : List PT) (p : PT) : sizes (L ++ [p]) = sizes L + p.2.2.2.size := by simp [sizes]
theorem take_snoc' {L : List PT} {k : Nat} {p : PT} (h : L[k]? = some p) : L.take (k + 1) = L.take k ++ [p] := by
  obtain ⟨hk, rfl⟩ := List.getElem?_eq_some_iff.1 h
  exact (List.take_append_getElem hk).symm
theorem sizes_take (L : List PT) (k : Nat) : sizes (L.take k) ≤ sizes L := by
  unfold sizes
  rw [← List.take_append_drop k L]
  simp only [List.take_append_drop, List.map_append, List.sum_append]
  conv => rhs; rw [← List.take_append_drop k L, List.map_append, List.sum_append]
  omega
set_option maxRecDepth 100000 in
set_option maxHeartbeats 1000000 in
theorem rused (most opn : Int) (a : Option Addr) (L : List PT) (cp : Nat) (w : World) (hL : RowL w a L) (hn : L.length ≤ 1000) (hs : sizes L ≤ 1000000) : Calls Try.prog 22 #[.agg #[.int .i64 most, .int .i64 opn, .slice a L.length cp]] w fun e w' => e = .returned (.int .i64 (sizes L : Nat)) ∧ Below w.heap.size w w' := by
  have hJ := Bk.made w 46 #[.int .i64 most, .int .i64 opn, .slice a L.length cp]
  have hb0 : Below w.heap.size w (w.alloc (.cells #[.int .i64 most, .int .i64 opn, .slice a L.length cp] 46)) := (Below.refl _ w).alloc (Nat.le_refl _) _
  have hL0 := hL.below hb0
  have j2 := hJ.cell 2
  clear hL hJ
  go_enter Try.func22, Try.ntmps22
  go_wp2_with fail
  generalize w.alloc (.cells #[.int .i64 most, .int .i64 opn, .slice a L.length cp] 46) = W at *
  go_loop [3, 4] (fun v3 v4 => ∃ k : Nat, k ≤ L.length ∧ v3 = .int .i64 (sizes (L.take k) : Nat) ∧ v4 = .int .i64 (k : Int)) (fun _ v4 => L.length - (RowKit.intOf v4).toNat)
  case atStart => exact ⟨0, by omega, rfl, rfl⟩
  case round =>
    obtain ⟨k, hk, rfl, rfl⟩ := hrel
    have hst := sizes_take L k
    by_cases hlt : k < L.length
    · obtain ⟨p, hp⟩ : ∃ p, L[k]? = some p := ⟨_, List.getElem?_eq_getElem hlt⟩
      obtain ⟨g, rfl, hg, a0, a1, a2, a3⟩ := hL0.at_ hp
      have hsn := sizes_snoc (L.take k) p
      rw [← take_snoc' hp] at hsn
      have hs2 := sizes_take L (k + 1)
      have HS := sh hsn
      have hps : p.2.2.2.size ≤ 1000000 := by omega
      clear hsn hp
      generalize sizes (L.take k) = x at *
      go_wp2
      go_round
      case rel => exact ⟨k + 1, by omega, by rw [HS.out]; go_num, by go_num⟩
      case measure => simp [RowKit.intOf]; omega
    · have HE := sh (show sizes (L.take k) = sizes L by rw [List.take_of_length_le (by omega)])
      go_wp2
      go_ret
      exact ⟨ret_int (by rw [HE.out]), hb0⟩
end Go.Proofs.Ytoclbcpfiacoaaa
