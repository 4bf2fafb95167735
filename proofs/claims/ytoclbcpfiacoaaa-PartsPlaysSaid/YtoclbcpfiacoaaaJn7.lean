/- parts: what a joiner holds stays within its bounds. No program in sight. -/
import Derived.Test.YtoclbcpfiacoaaaJn6
namespace Go.Proofs.Ytoclbcpfiacoaaa
set_option linter.unusedVariables false
set_option linter.unusedSimpArgs false
open Go.RowKit

theorem findA_some {id : Int} {x : Int × PL} : ∀ {A : List AB}, findA A id = some x → (id, x) ∈ A
  | b :: A, h => by
    simp only [findA] at h
    by_cases e : b.1 = id
    · rw [if_pos e] at h
      have := Option.some.inj h
      rw [← e, ← this]; simp
    · rw [if_neg e] at h
      exact List.mem_cons_of_mem _ (findA_some h)
theorem findA_none {id : Int} : ∀ {A : List AB}, findA A id = none → ∀ b ∈ A, b.1 ≠ id
  | [], _ => by simp
  | p :: A, h => by
    simp only [findA] at h
    by_cases e : p.1 = id
    · rw [if_pos e] at h; cases h
    · rw [if_neg e] at h
      intro b hb
      rcases List.mem_cons.1 hb with rfl | hb
      · exact e
      · exact findA_none h b hb
theorem usedA_le {A A' : List AB} (h : A'.Sublist A) : usedA A' ≤ usedA A := by
  unfold usedA
  induction h with
  | slnil => exact Nat.le_refl _
  | cons a _ ih => simp only [List.map_cons, List.sum_cons]; omega
  | cons_cons a _ ih => simp only [List.map_cons, List.sum_cons]; omega
theorem aok_sub {most opn : Int} {A A' : List AB} (ok : AOk most opn A) (h : A'.Sublist A) : AOk most opn A' :=
  ⟨ok.m0, ok.o0, by have := h.length_le; have := ok.len; omega, by have := usedA_le h; have := ok.use; omega, fun b hb => ok.bds b (h.subset hb), ok.nd.sublist h⟩
theorem aok_erase {most opn : Int} {A : List AB} (ok : AOk most opn A) (id : Int) : AOk most opn (eraseA A id) := aok_sub ok List.filter_sublist
theorem aok_nil {most opn : Int} (h1 : 0 ≤ most ∧ most ≤ 1073741824) (h2 : 1 ≤ opn ∧ opn ≤ 32) : AOk most opn [] := ⟨h1, h2, by simp; omega, by simp [usedA]; omega, by simp, List.Pairwise.nil⟩
theorem aok_add {most opn : Int} {A : List AB} (ok : AOk most opn A) (id n of : Int) (t : ByteArray) : AOk most opn (addB most opn A id n of t).1 := by
  unfold addB
  by_cases hm : MayP id n of t
  · rw [if_pos hm]
    obtain ⟨m1, m2, m3, m4, m5, m6, m7, m8⟩ := hm
    unfold addA
    cases hf : findA A id with
    | none =>
      simp only
      by_cases e1 : of = 1
      · rw [if_pos e1]; exact ok
      · rw [if_neg e1]
        by_cases e2 : opn ≤ (A.length : Int)
        · rw [if_pos e2]; exact ok
        · rw [if_neg e2]
          by_cases e3 : most - (usedA A : Int) < (t.size : Int)
          · rw [if_pos e3]; exact ok
          · rw [if_neg e3]
            have ht : t.size ≠ 0 := m8.resolve_right e1
            have hu : usedA (A ++ [(id, of, [(n, t)])]) = usedA A + t.size := by simp [usedA, usedP]
            refine ⟨ok.m0, ok.o0, by simp; omega, by rw [hu]; omega, fun b hb => ?_, ?_⟩
            · rcases List.mem_append.1 hb with hb | hb
              · exact ok.bds b hb
              · obtain rfl : b = _ := by simpa using hb
                refine ⟨m1, m2, m3, m4, by simp, by simp; omega, by simp, fun q hq => ?_⟩
                obtain rfl : q = (n, t) := by simpa using hq
                exact ⟨m5, by show n < of; omega, by show 1 ≤ t.size; omega, m7⟩
            · refine List.pairwise_append.2 ⟨ok.nd, by simp, fun p hp q hq => ?_⟩
              obtain rfl : q = _ := by simpa using hq
              exact findA_none hf p hp
    | some x =>
      obtain ⟨o, ps⟩ := x
      simp only
      by_cases e1 : o ≠ of ∨ (lookP ps n).isSome = true
      · rw [if_pos e1]; exact ok
      · rw [if_neg e1]
        by_cases e2 : (ps.length : Int) + 1 = of
        · rw [if_pos e2]; exact aok_erase ok id
        · rw [if_neg e2]
          by_cases e3 : most - (usedA A : Int) < (t.size : Int)
          · rw [if_pos e3]; exact ok
          · rw [if_neg e3]
            have ho : o = of := Classical.byContradiction fun h => e1 (.inl h)
            have hn : lookP ps n = none := by
              cases h : lookP ps n with
              | none => rfl
              | some u => exact absurd (.inr (by rw [h]; rfl)) e1
            have hb0 := ok.bds _ (findA_some hf)
            obtain ⟨k1, k2, k3, k4, k5, k6, k7, k8⟩ := hb0
            simp only at k1 k2 k3 k4 k5 k6 k7 k8
            have ht : t.size ≠ 0 := m8.resolve_right (by omega)
            have hu := usedA_upd (q := (n, t)) ok.nd hf
            have hmem : ∀ b ∈ updA A id (ps ++ [(n, t)]), ∃ b0 ∈ A, b = if b0.1 = id then (b0.1, b0.2.1, ps ++ [(n, t)]) else b0 := fun b hb => by
              obtain ⟨b0, h0, rfl⟩ := List.mem_map.1 hb
              exact ⟨b0, h0, rfl⟩
            refine ⟨ok.m0, ok.o0, by have := ok.len; simp [updA]; omega, by rw [hu]; simp only; omega, fun b hb => ?_, ?_⟩
            · obtain ⟨b0, h0, rfl⟩ := hmem b hb
              by_cases e : b0.1 = id
              · rw [if_pos e]
                have hbb : b0 = (id, o, ps) := by
                  rcases pw_eq (fun a b hab => Ne.symm hab) ok.nd h0 (findA_some hf) with h | h
                  · exact h
                  · exact absurd e h
                subst hbb
                refine ⟨k1, k2, k3, k4, by simp, by simp; omega, ?_, fun q hq => ?_⟩
                · rw [List.map_append, List.nodup_append]
                  refine ⟨k7, by simp, fun a ha b hb => ?_⟩
                  obtain ⟨q, hq, rfl⟩ := List.mem_map.1 ha
                  obtain rfl : b = n := by simpa using hb
                  exact lookP_none hn q hq
                · rcases List.mem_append.1 hq with hq | hq
                  · exact k8 q hq
                  · obtain rfl : q = (n, t) := by simpa using hq
                    exact ⟨m5, by show n < o; omega, by show 1 ≤ t.size; omega, m7⟩
              · rw [if_neg e]; exact ok.bds b0 h0
            · refine List.pairwise_map.2 (ok.nd.imp fun {p q} hab => ?_)
              have e1 : ∀ c : AB, (if c.1 = id then ((c.1, c.2.1, ps ++ [(n, t)]) : AB) else c).1 = c.1 := fun c => by split <;> rfl
              rw [e1, e1]; exact hab
  · rw [if_neg hm]; exact ok
end Go.Proofs.Ytoclbcpfiacoaaa
