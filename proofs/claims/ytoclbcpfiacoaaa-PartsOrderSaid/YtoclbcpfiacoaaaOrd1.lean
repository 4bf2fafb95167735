/- PartsOrder: the plain law: parts of a text, added in any order, make the text with the last one, and not ahead of it. -/
import Derived.Test.YtoclbcpfiacoaaaJn7
namespace Go.Proofs.Ytoclbcpfiacoaaa
set_option linter.unusedVariables false
set_option linter.unusedSimpArgs false
open Go.RowKit

theorem piece_cat (z : Nat) (l : List UInt8) : ∀ k, (List.range k).flatMap (piece z l) = l.take (k * z)
  | 0 => by simp
  | k + 1 => by
    rw [List.range_succ, List.flatMap_append, piece_cat z l k, Nat.succ_mul, List.take_add]
    simp [piece]
theorem piece_all {z : Nat} (hz : 1 ≤ z) (l : List UInt8) : (List.range (pieces z l.length)).flatMap (piece z l) = l := by
  rw [piece_cat]
  refine List.take_of_length_le ?_
  unfold pieces
  have h1 : l.length + z - 1 < ((l.length + z - 1) / z + 1) * z := by
    have := Nat.lt_div_mul_add (a := l.length + z - 1) (b := z) (by omega)
    rw [Nat.succ_mul]; exact this
  have h2 : (l.length + z - 1) / z * z ≤ max ((l.length + z - 1) / z) 1 * z := Nat.mul_le_mul_right _ (Nat.le_max_left _ _)
  rw [Nat.succ_mul] at h1
  omega
theorem piece_pos {z : Nat} (hz : 1 ≤ z) (l : List UInt8) (i : Nat) (hi : i < pieces z l.length) (h1 : pieces z l.length ≠ 1) : 1 ≤ (piece z l i).length := by
  unfold pieces at hi h1
  have hq : (l.length + z - 1) / z ≥ 2 := by omega
  have hi2 : i ≤ (l.length + z - 1) / z - 1 := by omega
  have h2 : (l.length + z - 1) / z * z ≤ l.length + z - 1 := Nat.div_mul_le_self _ _
  have h3 : i * z ≤ ((l.length + z - 1) / z - 1) * z := Nat.mul_le_mul_right _ hi2
  have h4 : ((l.length + z - 1) / z - 1) * z + z = (l.length + z - 1) / z * z := by
    rw [← Nat.succ_mul]; congr 1; omega
  unfold piece
  rw [List.length_take, List.length_drop]
  omega
theorem piece_le (z : Nat) (l : List UInt8) (i : Nat) : (piece z l i).length ≤ z := by
  unfold piece; rw [List.length_take]; omega
/-- the parts that stand first -/
def psOf (F : Nat → List UInt8) (τ : List Nat) : PL := τ.map fun (i : Nat) => ((i : Int), str (F i))
theorem look_psOf {F : Nat → List UInt8} {i : Nat} : ∀ {τ : List Nat}, i ∈ τ → lookP (psOf F τ) (i : Int) = some (str (F i))
  | a :: τ, h => by
    simp only [psOf, List.map_cons, lookP]
    by_cases e : a = i
    · rw [if_pos (by rw [e]), e]
    · rw [if_neg (by omega)]
      exact look_psOf (by rcases List.mem_cons.1 h with h | h; exact absurd h.symm e; exact h)
theorem look_psOf_none {F : Nat → List UInt8} {i : Nat} : ∀ {τ : List Nat}, i ∉ τ → lookP (psOf F τ) (i : Int) = none
  | [], _ => rfl
  | a :: τ, h => by
    simp only [psOf, List.map_cons, lookP]
    rw [if_neg (by intro e; exact h (by rw [show a = i by omega]; simp))]
    exact look_psOf_none fun hm => h (by simp [hm])
theorem used_psOf (F : Nat → List UInt8) (τ : List Nat) : usedP (psOf F τ) = (τ.map fun i => (F i).length).sum := by
  unfold usedP psOf
  rw [List.map_map]
  exact congrArg List.sum (List.map_congr_left fun i _ => size_str _)
/-- what the joiner holds when j parts of n are there -/
def ordA (id : Int) (n : Nat) (F : Nat → List UInt8) (σ : List Nat) (j : Nat) : List AB := if j = 0 ∨ j = n then [] else [(id, (n : Int), psOf F (σ.take j))]
theorem sum_take_le (f : Nat → Nat) : ∀ (l : List Nat) (k : Nat), ((l.take k).map f).sum ≤ (l.map f).sum
  | [], k => by simp
  | a :: l, 0 => by simp
  | a :: l, k + 1 => by
    have := sum_take_le f l k
    simp only [List.take_succ_cons, List.map_cons, List.sum_cons]
    omega
theorem le_sum_mem {a : Nat} : ∀ {l : List Nat}, a ∈ l → a ≤ l.sum
  | b :: l, h => by
    rw [List.sum_cons]
    rcases List.mem_cons.1 h with rfl | h
    · omega
    · have := le_sum_mem h; omega
theorem perm_sum {f : Nat → Nat} {l l' : List Nat} (h : l.Perm l') : (l.map f).sum = (l'.map f).sum := by
  induction h with
  | nil => rfl
  | cons a _ ih => simp only [List.map_cons, List.sum_cons, ih]
  | swap a b l => simp only [List.map_cons, List.sum_cons]; omega
  | trans _ _ h1 h2 => exact h1.trans h2
theorem flat_len (F : Nat → List UInt8) (l : List Nat) : (l.flatMap F).length = (l.map fun i => (F i).length).sum := by
  induction l with
  | nil => rfl
  | cons a l ih => simp only [List.flatMap_cons, List.length_append, List.map_cons, List.sum_cons, ih]
structure Ordn (id : Int) (n : Nat) (F : Nat → List UInt8) (s : ByteArray) (σ : List Nat) : Prop where
  perm : σ.Perm (List.range n)
  n1 : 1 ≤ n
  n2 : n ≤ 1024
  id0 : 0 ≤ id ∧ id ≤ 2147483647
  cat : (List.range n).flatMap F = lst s
  big : s.size ≤ 2000
  pos : n ≠ 1 → ∀ i, i < n → 1 ≤ (F i).length
theorem ord_step {id : Int} {n : Nat} {F : Nat → List UInt8} {s : ByteArray} {σ : List Nat} (h : Ordn id n F s σ) {j i : Nat} (hj : j < n) (hi : σ[j]? = some i) :
    addB 1048576 1 (ordA id n F σ j) id (i : Int) (n : Int) (str (F i)) = (ordA id n F σ (j + 1), (if j + 1 = n then s else ⟨#[]⟩), decide (j + 1 = n), 0) := by
  have hn1 := h.n1
  have hn2 := h.n2
  have hlen : σ.length = n := by rw [h.perm.length_eq, List.length_range]
  have hmem : i ∈ σ := List.mem_of_getElem? hi
  have hin : i < n := List.mem_range.1 (h.perm.subset hmem)
  have hnd : σ.Nodup := h.perm.nodup_iff.2 List.nodup_range
  have htot : (σ.map fun i => (F i).length).sum = s.size := by rw [perm_sum h.perm, ← flat_len, h.cat, ← size_lst]
  have hF : (F i).length ≤ 2000 := by
    have := h.big
    have h1 : (F i).length ≤ ((List.range n).flatMap F).length := by
      rw [flat_len]
      exact le_sum_mem (List.mem_map.2 ⟨i, List.mem_range.2 hin, rfl⟩) 
    rw [h.cat, ← size_lst] at h1
    omega
  have htk : σ.take (j + 1) = σ.take j ++ [i] := by
    obtain ⟨hk, rfl⟩ := List.getElem?_eq_some_iff.1 hi
    exact (List.take_append_getElem hk).symm
  have hm : MayP id i n (str (F i)) := by
    refine ⟨h.id0.1, h.id0.2, by omega, by omega, by omega, by omega, by rw [size_str]; omega, ?_⟩
    by_cases e : n = 1
    · exact .inr (by omega)
    · exact .inl (by rw [size_str]; have := h.pos e i hin; omega)
  unfold addB
  rw [if_pos hm]
  have hni : i ∉ σ.take j := by
    intro hm'
    have h2 : (σ.take (j + 1)).Nodup := hnd.sublist (List.take_sublist _ _)
    rw [htk, List.nodup_append] at h2
    exact h2.2.2 i hm' i (by simp) rfl
  have hwh : j + 1 = n → str (wholeK i (lst (str (F i))) (psOf F (σ.take j)) n) = s := fun e => by
    have hsub : ∀ k, k < n → k ≠ i → k ∈ σ.take j := fun k hk hne => by
      have h3 : k ∈ σ := h.perm.symm.subset (List.mem_range.2 hk)
      rw [← List.take_of_length_le (l := σ) (i := j + 1) (by omega), htk] at h3
      rcases List.mem_append.1 h3 with h3 | h3
      · exact h3
      · exact absurd (by simpa using h3) hne
    have h4 : wholeK i (lst (str (F i))) (psOf F (σ.take j)) n = (List.range n).flatMap F := by
      unfold wholeK
      refine congrArg List.flatten (List.map_congr_left fun k hk => ?_)
      have hk' := List.mem_range.1 hk
      by_cases e' : k = i
      · rw [if_pos (by rw [e']), lst_str, e']
      · rw [if_neg (by omega), look_psOf (hsub k hk' e')]
        show lst (str (F k)) = _
        rw [lst_str]
    rw [h4, h.cat, str_lst]
  by_cases h0 : j = 0
  · subst h0
    have e0 : ordA id n F σ 0 = [] := by unfold ordA; rw [if_pos (.inl rfl)]
    rw [e0]
    unfold addA
    simp only [findA]
    by_cases e1 : n = 1
    · subst e1
      rw [if_pos (by omega)]
      have hi0 : i = 0 := by omega
      have hs : str (F i) = s := by
        have hc := h.cat
        simp at hc
        rw [hi0, hc, str_lst]
      rw [hs, if_pos rfl]
      unfold ordA
      rw [if_pos (.inr rfl)]
      simp
    · rw [if_neg (by omega), if_neg (by simp), if_neg (by rw [size_str]; simp [usedA]; omega), if_neg (by omega)]
      unfold ordA
      rw [if_neg (by omega), htk]
      simp [psOf]
      omega
  · have e0 : ordA id n F σ j = [(id, (n : Int), psOf F (σ.take j))] := by unfold ordA; rw [if_neg (by omega)]
    rw [e0]
    unfold addA
    simp only [findA, if_true]
    rw [if_neg (by rw [look_psOf_none hni]; simp)]
    have hpl : (psOf F (σ.take j)).length = j := by unfold psOf; rw [List.length_map, List.length_take]; omega
    rw [hpl]
    by_cases e1 : j + 1 = n
    · rw [if_pos (by omega), if_pos e1, Int.toNat_natCast, hwh e1]
      unfold ordA
      rw [if_pos (.inr e1)]
      simp [eraseA, e1]
    · have hus : usedA [(id, (n : Int), psOf F (σ.take j))] = ((σ.take j).map fun i => (F i).length).sum := by
        rw [← used_psOf]; simp [usedA]
      have hle := sum_take_le (fun i => (F i).length) σ j
      rw [htot] at hle
      have hb := h.big
      rw [if_neg (by omega), if_neg (by rw [hus, size_str]; omega), if_neg e1]
      unfold ordA
      rw [if_neg (by omega), htk]
      simp [updA, psOf, e1]
end Go.Proofs.Ytoclbcpfiacoaaa
