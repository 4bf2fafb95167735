/- Names in order: an insertion sort on a list of strings, and what the keys' sort gives. No walk. -/
import Derived.Test.YtckdahojhdbpjaaDoorP9
import Derived.Test.YtckdahojhdbpjaaDoorKeys
namespace Go.Proofs.YtckdahojhdbpjaaDoor
set_option linter.unusedVariables false
set_option linter.unusedSimpArgs false
open Go.RowKit Go.Sort

def ltN (a b : ByteArray) : Bool := Op.bytesLess a.toList b.toList
def leN (a b : ByteArray) : Prop := a.data.toList ≤ b.data.toList
theorem ltN_iff (a b : ByteArray) : ltN a b = true ↔ a.data.toList < b.data.toList := by
  unfold ltN
  rw [bytesLess_eq, ByteArray.toList_eq, ByteArray.toList_eq, decide_eq_true_iff]
theorem ltN_le {a b : ByteArray} (h : ltN a b = true) : leN a b := List.le_of_lt ((ltN_iff a b).1 h)
theorem nlt_le {a b : ByteArray} (h : ltN a b = false) : leN b a := by
  have : ¬ a.data.toList < b.data.toList := fun e => by rw [(ltN_iff a b).2 e] at h; cases h
  exact List.not_lt.1 this
theorem leN_trans {a b c : ByteArray} (h : leN a b) (k : leN b c) : leN a c := List.le_trans h k
theorem ba_inj {a b : ByteArray} (h : a.data.toList = b.data.toList) : a = b := by cases a; cases b; simp only [ByteArray.mk.injEq]; exact Array.toList_inj.1 h
theorem leN_anti {a b : ByteArray} (h : leN a b) (k : leN b a) : a = b := ba_inj (List.le_antisymm h k)
/-- ahead of a round: the first i are in order -/
structure Srt (N : List ByteArray) (i : Nat) (xs : List ByteArray) : Prop where
  perm : xs.Perm N
  srt : (xs.take i).Pairwise leN
/-- within a round: the k-th is on its way -/
structure Ins (N : List ByteArray) (i k : Nat) (xs : List ByteArray) : Prop where
  perm : xs.Perm N
  parts : ∃ A x B C, xs = A ++ x :: (B ++ C) ∧ A.length = k ∧ A.length + B.length = i ∧ (A ++ B).Pairwise leN ∧ ∀ b ∈ B, leN x b
theorem srt_start (N : List ByteArray) : Srt N 1 N := ⟨List.Perm.refl _, by cases N <;> simp⟩
theorem Srt.len {N xs : List ByteArray} {i : Nat} (h : Srt N i xs) : xs.length = N.length := h.perm.length_eq
theorem Ins.len {N xs : List ByteArray} {i k : Nat} (h : Ins N i k xs) : xs.length = N.length := h.perm.length_eq
theorem Srt.ins {N xs : List ByteArray} {i : Nat} (h : Srt N i xs) (hi : i < xs.length) : Ins N i i xs := by
  refine ⟨h.perm, xs.take i, xs[i], [], xs.drop (i + 1), ?_, by rw [List.length_take]; omega, by rw [List.length_take, List.length_nil]; omega, by simpa using h.srt, by simp⟩
  rw [List.nil_append, ← List.drop_eq_getElem_cons hi, List.take_append_drop]
theorem Ins.done0 {N xs : List ByteArray} {i : Nat} (h : Ins N i 0 xs) : Srt N (i + 1) xs := by
  obtain ⟨A, x, B, C, rfl, hA, hi, hp, hx⟩ := h.parts
  have : A = [] := List.eq_nil_of_length_eq_zero hA
  subst this
  refine ⟨h.perm, ?_⟩
  have e : i = B.length := by simpa using hi.symm
  subst e
  simp only [List.nil_append, List.take_succ_cons, List.take_left]
  exact List.pairwise_cons.2 ⟨hx, by simpa using hp⟩
theorem Ins.at_ {N xs : List ByteArray} {i q : Nat} (h : Ins N i (q + 1) xs) : ∃ x y, xs[q + 1]? = some x ∧ xs[q]? = some y ∧ q + 1 < xs.length ∧
    (ltN x y = false → Srt N (i + 1) xs) ∧ (ltN x y = true → Ins N i q ((xs.set (q + 1) y).set q x)) := by
  obtain ⟨A, x, B, C, rfl, hA, hi, hp, hx⟩ := h.parts
  obtain ⟨A', y, rfl⟩ : ∃ A' y, A = A' ++ [y] := by
    rcases List.eq_nil_or_concat A with rfl | ⟨A', y, e⟩
    · simp at hA
    · exact ⟨A', y, by simpa using e⟩
  have hq : A'.length = q := by simpa using hA
  subst hq
  refine ⟨x, y, ?_, ?_, by simp, fun hlt => ⟨h.perm, ?_⟩, fun hlt => ?_⟩
  · rw [List.getElem?_append_right (by simp)]; simp
  · simp
  · have e : i + 1 = (A' ++ [y] ++ x :: B).length := by simp at hi ⊢; omega
    rw [e, show A' ++ [y] ++ x :: (B ++ C) = (A' ++ [y] ++ x :: B) ++ C by simp, List.take_left]
    have hyx := nlt_le hlt
    rw [List.append_assoc] at hp ⊢
    obtain ⟨p1, p2, p3⟩ := List.pairwise_append.1 hp
    obtain ⟨p4, p5⟩ := List.pairwise_cons.1 p2
    refine List.pairwise_append.2 ⟨p1, List.pairwise_cons.2 ⟨fun z hz => ?_, List.pairwise_cons.2 ⟨hx, p5⟩⟩, fun a ha z hz => ?_⟩
    · rcases List.mem_cons.1 hz with rfl | hz
      · exact hyx
      · exact p4 z hz
    · simp only [List.singleton_append, List.mem_cons] at hz
      rcases hz with rfl | rfl | hz
      · exact p3 a ha _ (by simp)
      · exact leN_trans (p3 a ha y (by simp)) hyx
      · exact p3 a ha z (by simp [hz])
  · have e : ((A' ++ [y] ++ x :: (B ++ C)).set (A'.length + 1) y).set A'.length x = A' ++ x :: ((y :: B) ++ C) := by
      rw [show A' ++ [y] ++ x :: (B ++ C) = A' ++ y :: x :: (B ++ C) by simp]
      rw [List.set_append_right _ _ (by omega), show A'.length + 1 - A'.length = 1 by omega, List.set_append_right _ _ (Nat.le_refl _), Nat.sub_self]
      rfl
    rw [e]
    refine ⟨?_, A', x, y :: B, C, rfl, rfl, by simp at hi ⊢; omega, by simpa using hp, fun b hb => ?_⟩
    · refine List.Perm.trans ?_ h.perm
      rw [show A' ++ [y] ++ x :: (B ++ C) = A' ++ y :: x :: (B ++ C) by simp]
      exact List.Perm.append_left _ (List.Perm.swap y x _)
    · rcases List.mem_cons.1 hb with rfl | hb
      · exact ltN_le hlt
      · exact hx b hb
/-- the names, in order -/
def sortN (l : List (List UInt8)) : List ByteArray := (l.mergeSort leB).map fun x => ⟨x.toArray⟩
theorem sortN_len (l : List (List UInt8)) : (sortN l).length = l.length := by unfold sortN; rw [List.length_map, List.length_mergeSort]
theorem sortN_perm {l l' : List (List UInt8)} (h : l.Perm l') : sortN l = sortN l' := by unfold sortN; rw [mergeSort_of_perm h]
theorem Srt.eq {N xs : List ByteArray} {i : Nat} (h : Srt N i xs) (hi : xs.length ≤ i) : xs = sortN (N.map fun s => s.data.toList) := by
  have hs := h.srt
  rw [List.take_of_length_le hi] at hs
  have tr : ∀ a b c : List UInt8, leB a b = true → leB b c = true → leB a c = true := fun a b c h1 h2 => by simp only [leB, decide_eq_true_eq] at *; exact List.le_trans h1 h2
  have to : ∀ a b : List UInt8, (leB a b || leB b a) = true := fun a b => by simp only [leB, Bool.or_eq_true, decide_eq_true_eq]; exact List.le_total a b
  have h1 : xs.map (fun s => s.data.toList) = (N.map fun s => s.data.toList).mergeSort leB := by
    refine List.Perm.eq_of_pairwise (le := fun a b => leB a b = true) (fun a b _ _ h1 h2 => ?_) (List.pairwise_map.2 (hs.imp fun {a b} hab => ?_)) (List.pairwise_mergeSort tr to _) ((h.perm.map _).trans (List.mergeSort_perm _ leB).symm)
    · simp only [leB, decide_eq_true_eq] at h1 h2
      exact List.le_antisymm h1 h2
    · exact decide_eq_true hab
  unfold sortN
  rw [← h1, List.map_map]
  conv => lhs; rw [← List.map_id xs]
  exact List.map_congr_left fun a _ => by cases a; simp
/-- a row of strings that lies in memory -/
def RowS (W : World) (a : Option Addr) (xs : List ByteArray) : Prop := xs = [] ∨ ∃ g cur, a = some ⟨g, 0, none⟩ ∧ Bk W g 9 cur ∧ xs.length ≤ cur.size ∧ ∀ (i : Nat) (x : ByteArray), xs[i]? = some x → cur[i]? = some (.string x)
theorem RowS.below {W W' : World} {a : Option Addr} {xs : List ByteArray} (h : RowS W a xs) (hb : Below W.heap.size W W') : RowS W' a xs := by
  rcases h with h | ⟨g, cur, h1, h2, h3⟩
  · exact .inl h
  · exact .inr ⟨g, cur, h1, h2.below hb h2.lt, h3⟩
theorem RowS.at_ {W : World} {a : Option Addr} {xs : List ByteArray} (h : RowS W a xs) {i : Nat} {x : ByteArray} (hi : xs[i]? = some x) : ∃ g, a = some ⟨g, 0, none⟩ ∧ W.cell? ⟨g, i, none⟩ = some (.string x) := by
  rcases h with h | ⟨g, cur, h1, h2, h3, h4⟩
  · subst h; cases hi
  · exact ⟨g, h1, (h2.cell i).trans (h4 i x hi)⟩
theorem rowS_of {W : World} {B : Nat} {v : Value} {xs : List ByteArray} (h : W.ownsRow B 9 1 v xs.length (xs.map Value.string)) : ∃ a c, v = .slice a xs.length c ∧ RowS W a xs ∧ (xs ≠ [] → ∃ g cur, a = some ⟨g, 0, none⟩ ∧ B ≤ g ∧ Bk W g 9 cur ∧ xs.length ≤ cur.size ∧ ∀ (i : Nat) (x : ByteArray), xs[i]? = some x → cur[i]? = some (.string x)) := by
  obtain ⟨a, c, rfl⟩ := own_len h
  refine ⟨a, c, rfl, ?_⟩
  rcases h.2 with ⟨_, h0⟩ | ⟨g, cap, cur, e, hB, hb, hc, _, hs, ht⟩
  · have : xs = [] := List.eq_nil_of_length_eq_zero h0
    exact ⟨.inl this, fun hne => absurd this hne⟩
  · simp only [Value.slice.injEq] at e
    obtain ⟨rfl, _, _⟩ := e
    have key : ∀ (i : Nat) (x : ByteArray), xs[i]? = some x → cur[i]? = some (.string x) := fun i x hi => by
      have hil := (List.getElem?_eq_some_iff.1 hi).1
      have h2 : (xs.map Value.string)[i]? = some (.string x) := by rw [List.getElem?_map, hi]; rfl
      rw [← ht, List.getElem?_take, if_pos (by omega), Array.getElem?_toList] at h2
      exact h2
    exact ⟨.inr ⟨g, cur, rfl, hb, by omega, key⟩, fun _ => ⟨g, cur, rfl, hB, hb, by omega, key⟩⟩
end Go.Proofs.YtckdahojhdbpjaaDoor
