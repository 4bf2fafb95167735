/- Slices that came in, read: of integers, of strings. No program in sight. -/
import Derived.Test.YtoclbcpfiacoaaaStr
import Derived.OpenShut
import Derived.SliceStrings
namespace Go.Proofs.Ytoclbcpfiacoaaa
set_option linter.unusedVariables false
set_option linter.unusedSimpArgs false
open Go.RowKit

/-- a slice of integers that came in, read -/
def IsRow (k : IntKind) (w : World) (a : Option Addr) (len cap : Nat) (zs : List Int) : Prop :=
  (a = none ∧ len = 0 ∧ cap = 0 ∧ zs = []) ∨
  ∃ x, a = some x ∧ len ≤ cap ∧ cap ≤ maxLen ∧ zs.length = cap ∧ (∀ i, i < zs.length → w.cell? (x.add i) = some (.int k (zs.getD i 0))) ∧ ∀ n ∈ zs, (Lit.int k n).wf = true
theorem block_add (a : Addr) (n : Nat) : (a.add n).block = a.block := by unfold Addr.add; split <;> rfl
theorem IsRow.at_ {k : IntKind} {w : World} {a : Option Addr} {len cap : Nat} {zs : List Int} (h : IsRow k w a len cap zs) {i : Nat} (hi : i < len) :
    ∃ x, a = some x ∧ w.cell? (x.add i) = some (.int k (zs[i]?.getD 0)) ∧ (Lit.int k (zs[i]?.getD 0)).wf = true ∧ (x.add i).block < w.heap.size := by
  rcases h with ⟨_, h, _⟩ | ⟨x, rfl, h1, h2, h3, h4, h5⟩
  · omega
  · have hl : i < zs.length := by omega
    have := h4 i hl
    rw [List.getD_eq_getElem?_getD] at this
    refine ⟨x, rfl, this, ?_, World.block_lt_of_cell? w _ this⟩
    rw [List.getElem?_eq_getElem hl]
    exact h5 _ (List.getElem_mem hl)
theorem IsRow.len_le {k : IntKind} {w : World} {a : Option Addr} {len cap : Nat} {zs : List Int} (h : IsRow k w a len cap zs) : len ≤ 9223372036854775807 := by
  rcases h with ⟨_, h, _⟩ | ⟨x, rfl, h1, h2, _⟩
  · omega
  · unfold maxLen at h2; omega
theorem wf_u8 {n : Int} (h : (Lit.int .u8 n).wf = true) : 0 ≤ n ∧ n ≤ 255 := by simpa [Lit.wf, IntKind.min, IntKind.max, IntKind.signed, IntKind.bits] using h
theorem wf_i64 {n : Int} (h : (Lit.int .i64 n).wf = true) : -9223372036854775808 ≤ n ∧ n ≤ 9223372036854775807 := by simpa [Lit.wf, IntKind.min, IntKind.max, IntKind.signed, IntKind.bits] using h
theorem wf_u64 {n : Int} (h : (Lit.int .u64 n).wf = true) : 0 ≤ n ∧ n ≤ 18446744073709551615 := by simpa [Lit.wf, IntKind.min, IntKind.max, IntKind.signed, IntKind.bits] using h

/-- a slice of strings that came in, read -/
def IsRowS (w : World) (a : Option Addr) (len cap : Nat) (ss : List ByteArray) : Prop :=
  (a = none ∧ len = 0 ∧ cap = 0 ∧ ss = []) ∨
  ∃ x, a = some x ∧ len ≤ cap ∧ cap ≤ maxLen ∧ ss.length = cap ∧ (∀ i, i < ss.length → w.cell? (x.add i) = some (.string (ss.getD i ByteArray.empty))) ∧ ∀ s ∈ ss, s.size ≤ maxLen
theorem IsRowS.at_ {w : World} {a : Option Addr} {len cap : Nat} {ss : List ByteArray} (h : IsRowS w a len cap ss) {i : Nat} (hi : i < len) :
    ∃ x, a = some x ∧ w.cell? (x.add i) = some (.string (ss[i]?.getD ByteArray.empty)) ∧ (ss[i]?.getD ByteArray.empty).size ≤ maxLen ∧ (x.add i).block < w.heap.size := by
  rcases h with ⟨_, h, _⟩ | ⟨x, rfl, h1, h2, h3, h4, h5⟩
  · omega
  · have hl : i < ss.length := by omega
    have := h4 i hl
    rw [List.getD_eq_getElem?_getD] at this
    refine ⟨x, rfl, this, ?_, World.block_lt_of_cell? w _ this⟩
    rw [List.getElem?_eq_getElem hl]
    exact h5 _ (List.getElem_mem hl)
theorem IsRowS.len_le {w : World} {a : Option Addr} {len cap : Nat} {zs : List ByteArray} (h : IsRowS w a len cap zs) : len ≤ 9223372036854775807 := by
  rcases h with ⟨_, h, _⟩ | ⟨x, rfl, h1, h2, _⟩
  · omega
  · unfold maxLen at h2; omega
end Go.Proofs.Ytoclbcpfiacoaaa
