/- command.May and the reference's May: contracts over the loaded program, and when a name is one. -/
import Derived.Test.YtlmddmkobhkndaaDoorShelf
import Derived.Test.YtlmddmkobhkndaaDoorStr
import Derived.Laws.RangeAny
import Derived.Laws.RangeString
import Derived.Laws.CopyRow
import Derived.WalkKit
import Derived.WalkSpells
import Derived.WalkLawsBesides
import Derived.Deep.QuietTactic
import Derived.BigQuiet
import Derived.StillTailTactics
import Derived.OwnWalk
import Derived.Deep.RegionWith
namespace Go.Proofs.YtlmddmkobhkndaaDoor
set_option linter.unusedVariables false
set_option linter.unusedSimpArgs false
open Go.RowKit Go.Lib

def nameB (b : UInt8) : Bool := (decide (97 ≤ b.toNat) && decide (b.toNat ≤ 122)) || (decide (48 ≤ b.toNat) && decide (b.toNat ≤ 57)) || decide (b.toNat = 95)
def mayL (l : List UInt8) : Bool := l.all nameB && decide (1 ≤ l.length) && decide (l.length ≤ 12)
def otherR (r : Nat) : Bool := (decide (r < 97) || decide (122 < r)) && (decide (r < 48) || decide (57 < r)) && !decide (r = 95)
theorem other_nameB (b : UInt8) : otherR b.toNat = !nameB b := by
  unfold otherR nameB
  generalize b.toNat = n
  by_cases h1 : n < 97 <;> by_cases h2 : 122 < n <;> by_cases h3 : n < 48 <;> by_cases h4 : 57 < n <;> by_cases h5 : n = 95 <;>
    simp [h1, h2, h3, h4, h5, Nat.not_lt.1, Nat.not_le.2, show (97 ≤ n) = ¬ n < 97 from propext Nat.not_lt.symm, show (n ≤ 122) = ¬ 122 < n from propext Nat.not_lt.symm, show (48 ≤ n) = ¬ n < 48 from propext Nat.not_lt.symm, show (n ≤ 57) = ¬ 57 < n from propext Nat.not_lt.symm] <;> omega
theorem other_high {r : Nat} (h : 128 ≤ r) : otherR r = true := by
  unfold otherR
  have h1 : ¬ r < 97 := by omega
  have h2 : 122 < r := by omega
  have h3 : ¬ r < 48 := by omega
  have h4 : 57 < r := by omega
  have h5 : ¬ r = 95 := by omega
  simp [h1, h2, h3, h4, h5]
theorem idx_name (s : ByteArray) : ∀ f pos, s.size - pos ≤ f → decide (0 ≤ idxFuncFrom otherR true s f pos) = !((lst s).drop pos).all nameB
  | 0, pos, h => by
    have : (lst s).drop pos = [] := List.drop_eq_nil_of_le (by rw [← size_lst]; omega)
    rw [this]; simp [idxFuncFrom]
  | f + 1, pos, h => by
    unfold idxFuncFrom
    by_cases hp : pos < s.size
    · rw [if_pos hp]
      have hl : pos < (lst s).length := by rw [← size_lst]; exact hp
      have hd : (lst s).drop pos = (s[pos]'hp) :: (lst s).drop (pos + 1) := by
        rw [List.drop_eq_getElem_cons hl]; rfl
      rw [hd, List.all_cons]
      by_cases ha : (s[pos]'hp).toNat < 128
      · rw [decode_ascii s pos hp ha, other_nameB]
        cases hn : nameB (s[pos]'hp)
        · simp
        · simp only [Bool.not_true, Bool.false_eq_true, if_false, Bool.true_and]
          exact idx_name s f (pos + 1) (by omega)
      · have hh := decode_high s pos hp (by omega)
        have hn : nameB (s[pos]'hp) = false := by
          have h1 := other_nameB (s[pos]'hp)
          rw [other_high (by omega)] at h1
          cases h2 : nameB (s[pos]'hp)
          · rfl
          · rw [h2] at h1; simp at h1
        rw [other_high hh.1, if_pos rfl, hn]; simp
    · rw [if_neg hp]
      have : (lst s).drop pos = [] := List.drop_eq_nil_of_le (by rw [← size_lst]; omega)
      rw [this]; simp
theorem idx_may (s : ByteArray) : decide (0 ≤ idxFunc otherR true s) = !(lst s).all nameB := by
  have := idx_name s s.size 0 (by omega)
  rw [List.drop_zero] at this
  exact this

set_option maxHeartbeats 1000000 in
theorem other_pred (w : World) : PredAt Tryd.prog 20 #[] encR otherR w := fun W r _ => by
  unfold FnGives
  by_cases h1 : r < 97 <;> by_cases h2 : 122 < r <;> by_cases h3 : r < 48 <;> by_cases h4 : 57 < r <;> by_cases h5 : r = 95
  all_goals try (exfalso; omega)
  all_goals
    have z1 : (r : Int) < 97 ↔ r < 97 := by omega
    have z2 : (122 : Int) < (r : Int) ↔ 122 < r := by omega
    have z3 : (r : Int) < 48 ↔ r < 48 := by omega
    have z4 : (57 : Int) < (r : Int) ↔ 57 < r := by omega
    have z5 : ((r : Int) = 95) ↔ r = 95 := by omega
    go_enter Tryd.func20, Tryd.ntmps20
    go_wp2
    all_goals first | (exfalso; omega) | (go_ret; exact ⟨by simp [otherR, h1, h2, h3, h4, h5] <;> omega, 0, rfl⟩)

theorem contains (s : ByteArray) (w : World) : Calls Tryd.prog 21 #[.string s, .func (.func 20) #[] #[]] w fun e w' => e = .returned (.bool (!(lst s).all nameB)) ∧ Below w.heap.size w w' := by
  have h := Tryd.strings_ContainsFunc 20 #[] (enters_of Tryd.func20 (by kernel_rfl) rfl) otherR s w (other_pred w)
  rw [idx_may] at h
  exact h

set_option maxHeartbeats 1000000 in
theorem cmay (s : ByteArray) (w : World) : Calls Tryd.prog 10 #[.string s] w fun e w' => e = .returned (.bool (mayL (lst s))) ∧ Below w.heap.size w w' := by
  have hl := size_lst s
  have hC := sh (contains s)
  have hM : Sh (mayL (lst s) = ((lst s).all nameB && decide (1 ≤ s.size) && decide (s.size ≤ 12))) := ⟨by unfold mayL; rw [← hl]⟩
  rw [hM.out]
  clear hM hl
  generalize (lst s).all nameB = q at *
  by_cases c1 : 1 ≤ s.size <;> by_cases c2 : s.size ≤ 12
  all_goals try (exfalso; omega)
  all_goals
    go_enter Tryd.func10, Tryd.ntmps10
    go_wp2_with (go_at_call 21; refine (hC.out _).mono ?_; rintro e' w' ⟨rfl, hb⟩)
    go_ret
    first
    | exact ⟨by simp [c1, c2], hb⟩
    | exact ⟨by simp [c1, c2], Below.refl _ _⟩

theorem str_at {s : ByteArray} {k : Nat} {b : UInt8} (h : (lst s)[k]? = some b) : ∀ hk : k < s.size, s[k]'hk = b := by
  intro hk
  have := (List.getElem?_eq_some_iff.1 h).2
  rw [← this]
  simp [lst, ByteArray.getElem_eq_getElem_data]
theorem drop_cons {l : List UInt8} {k : Nat} {b : UInt8} (h : l[k]? = some b) : l.drop k = b :: l.drop (k + 1) := by
  obtain ⟨hk, rfl⟩ := List.getElem?_eq_some_iff.1 h
  exact List.drop_eq_getElem_cons hk
set_option maxHeartbeats 2000000 in
theorem rmay (s : ByteArray) (hs : s.size ≤ maxLen) (w : World) : Calls Tryd.prog 11 #[.string s] w fun e w' => e = .returned (.bool (mayL (lst s))) ∧ w = w' := by
  unfold maxLen at hs
  have HL := sh (size_lst s)
  have hM : Sh (mayL (lst s) = ((lst s).all nameB && decide (1 ≤ s.size) && decide (s.size ≤ 12))) := ⟨by unfold mayL; rw [← HL.out]⟩
  go_enter Tryd.func11, Tryd.ntmps11
  go_wp2
  go_loop [3] (fun v3 => ∃ (k : Nat), k ≤ s.size ∧ Sh ((lst s).all nameB = ((lst s).drop k).all nameB) ∧ v3 = .int .i64 (k : Int)) (fun v3 => s.size - (intOf v3).toNat)
  case atStart => exact ⟨0, by omega, ⟨by simp⟩, rfl⟩
  case round =>
    obtain ⟨k, hk, HX, rfl⟩ := hrel
    by_cases hlt : k < s.size
    · obtain ⟨b, hbk⟩ : ∃ b, (lst s)[k]? = some b := ⟨_, List.getElem?_eq_getElem (by rw [← HL.out]; exact hlt)⟩
      have hsb := str_at hbk
      have hb255 := b.toNat_lt
      have HX2 : Sh ((lst s).all nameB = (nameB b && ((lst s).drop (k + 1)).all nameB)) := ⟨by rw [HX.out, drop_cons hbk, List.all_cons]⟩
      have HN : Sh (nameB b = ((decide (97 ≤ b.toNat) && decide (b.toNat ≤ 122)) || (decide (48 ≤ b.toNat) && decide (b.toNat ≤ 57)) || decide (b.toNat = 95))) := ⟨rfl⟩
      clear HX hbk
      generalize nameB b = nb at *
      have hcase : (b.toNat < 48 ∧ nb = false) ∨ (48 ≤ b.toNat ∧ b.toNat ≤ 57 ∧ nb = true) ∨ (57 < b.toNat ∧ b.toNat < 95 ∧ nb = false) ∨ (b.toNat = 95 ∧ nb = true) ∨ (b.toNat = 96 ∧ nb = false) ∨ (97 ≤ b.toNat ∧ b.toNat ≤ 122 ∧ nb = true) ∨ (122 < b.toNat ∧ nb = false) := by
        rw [HN.out]
        generalize b.toNat = n
        by_cases h1 : 97 ≤ n <;> by_cases h2 : n ≤ 122 <;> by_cases h3 : 48 ≤ n <;> by_cases h4 : n ≤ 57 <;> by_cases h5 : n = 95 <;> simp [h1, h2, h3, h4, h5] <;> omega
      clear HN
      rcases hcase with ⟨g1, rfl⟩ | ⟨g1, g2, rfl⟩ | ⟨g1, g2, rfl⟩ | ⟨g1, rfl⟩ | ⟨g1, rfl⟩ | ⟨g1, g2, rfl⟩ | ⟨g1, rfl⟩
      all_goals first
        | have b1 : ((b.toNat : Int) == 95) = false := by rw [beq_eq_false_iff_ne]; omega
        | have b1 : ((b.toNat : Int) == 95) = true := by rw [beq_iff_eq]; omega
      all_goals first
        | have d57 : decide ((b.toNat : Int) ≤ 57) = false := decide_eq_false (by omega)
        | have d57 : decide ((b.toNat : Int) ≤ 57) = true := decide_eq_true (by omega)
      all_goals first
        | have d122 : decide ((b.toNat : Int) ≤ 122) = false := decide_eq_false (by omega)
        | have d122 : decide ((b.toNat : Int) ≤ 122) = true := decide_eq_true (by omega)
      all_goals go_wp2
      all_goals first
        | (go_ret
           exact ⟨by rw [hM.out, HX2.out]; rfl, rfl⟩)
        | (go_round
           case rel => exact ⟨k + 1, by omega, ⟨by rw [HX2.out, Bool.true_and]⟩, by go_num⟩
           case measure => simp [intOf]; omega)
    · have hke : k = s.size := by omega
      have HX2 : Sh ((lst s).all nameB = true) := ⟨by rw [HX.out, List.drop_eq_nil_of_le (by rw [← HL.out]; omega)]; rfl⟩
      have HM2 : Sh (mayL (lst s) = (decide (1 ≤ s.size) && decide (s.size ≤ 12))) := ⟨by rw [hM.out, HX2.out, Bool.true_and]⟩
      clear hM HX HX2
      subst hke
      by_cases c1 : 1 ≤ s.size <;> by_cases c2 : s.size ≤ 12
      all_goals try (exfalso; omega)
      all_goals
        go_wp2
        go_ret
        exact ⟨by rw [HM2.out]; simp [c1, c2] <;> omega, rfl⟩
end Go.Proofs.YtlmddmkobhkndaaDoor
