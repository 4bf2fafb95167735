/- parts: Open, whatever the joiner holds; of a joiner that is nil. -/
import Derived.Test.YtoclbcpfiacoaaaJn7
import Derived.Test.YtoclbcpfiacoaaaKeys
namespace Go.Proofs.Ytoclbcpfiacoaaa
set_option linter.unusedVariables false
set_option linter.unusedSimpArgs false
open Go.RowKit Go.Maps Go.Sort Go.Shelf

/-- the numbers, rising -/
def idsA (A : List AB) : List Int := (A.map Prod.fst).mergeSort (fun x y => decide (x ≤ y))
theorem idsA_len (A : List AB) : (idsA A).length = A.length := by unfold idsA; rw [List.length_mergeSort, List.length_map]
theorem ids_perm {w : World} {B g m : Nat} {most opn u : Int} {S : List BD} (h : JnV w B g m most opn u S) {D : DataW Nat} {n : Nat} (ho : w.ownsMap Try.prog 3 ptrElem m n D) (ha : AgrS D S) : (S.map BD.id).Perm (intKeys D) := by
  refine CollectedI.perm (D0 := D) (left := fun _ => false) ⟨?_, fun x => ?_⟩ ho (Maps.int_keyed Try.underlying3) Try.underlying3 (fun _ => rfl)
  · exact List.pairwise_map.2 (h.nd.imp fun hab => hab.1)
  · rw [show Maps.has D (.int .i64 x) = (findS S x).isSome from (ha x).1]
    constructor
    · intro hx
      obtain ⟨b, hb, rfl⟩ := List.mem_map.1 hx
      refine ⟨?_, rfl⟩
      cases hf : findS S b.id with
      | none => exact absurd rfl (findS_none hf b hb)
      | some c => rfl
    · rintro ⟨hx, _⟩
      obtain ⟨b, hb⟩ := Option.isSome_iff_exists.1 hx
      obtain ⟨h1, h2⟩ := findS_some hb
      exact List.mem_map.2 ⟨b, h1, h2⟩
set_option maxHeartbeats 1000000 in
theorem open_any {w : World} {B g m : Nat} {most opn : Int} {A : List AB} (h : Jn w B g m most opn A) (hA : A.length ≤ 1000) :
    Calls Try.prog 15 #[.pointer (some ⟨g, 0, none⟩)] w fun e w' => ∃ v, e = .returned v ∧ w'.ownsRow w.heap.size 3 1 v A.length ((idsA A).map encZ) ∧ Below w.heap.size w w' := by
  obtain ⟨S, rfl, h⟩ := h
  obtain ⟨D0, hown, ha, hsz⟩ := h.map
  rw [List.length_map] at hA ⊢
  have hids : (intKeys D0).mergeSort leI = idsA (S.map BD.strip) := by
    unfold idsA
    rw [List.map_map]
    exact (mergeSort_of_perm_i (ids_perm h hown ha)).symm
  refine (callsIn_wide (n := 6)).1 ?_
  have hbl := hown.lt
  have c3 := h.gb.cell 3
  have hseq : SeqGives Fence.wide 2 Try.prog 53 #[.pointer (some ⟨w.heap.size, 0, none⟩)] encZ (fun ss => ss.Perm (intKeys D0)) (Maps.size D0) (w.alloc (.cells #[.map (some m)] 84)) :=
    AnyZI.keys_gives (ρ := Try.keysA_ren) { Try.keysA with } Fence.wide _ trivial rfl (by omega) w.heap.size m _ D0 _ (by simp) (by simp) (by
      obtain ⟨es, clock, hb, Ft, hs, hD⟩ := hown
      exact ⟨es, clock, (Below.heap_alloc _ _ m hbl).trans hb, Ft, hs, hD⟩)
  have cK : ∀ mb W, CallsIn Fence.wide 5 Try.prog 37 #[.map mb] W fun e w' => e = .returned (.func (.func 53) #[] #[.pointer (some ⟨W.heap.size, 0, none⟩)]) ∧ w' = W.alloc (.cells #[.map mb] 84) := fun mb W => AnyZI.keys_in Try.keysA Fence.wide 5 trivial rfl mb W
  have cS := AnyZI.sorted_in Try.sortedA Fence.wide 5 trivial trivial trivial trivial rfl (by omega) (Try.sortsA _) (enters_of Try.func52 (by kernel_rfl) rfl) 53 #[.pointer (some ⟨w.heap.size, 0, none⟩)] trivial (enters_of Try.func53 (by kernel_rfl) rfl) _ _ (show Maps.size D0 ≤ maxLen by rw [hsz]; unfold maxLen; omega) (by rw [hsz]; omega) _ hseq
  change CallsIn _ _ Try.prog 36 _ _ _ at cS
  have hfK : Fence.wide.fn 37 := trivial
  have hfS : Fence.wide.fn 36 := trivial
  have HI := sh (And.intro hids hsz)
  clear hseq hown ha hsz hids h
  refine callsIn_of_wp Try.func15 rfl trivial ?_ rfl
  simp only [Try.ntmps15, List.size_toArray, List.length_cons, List.length_nil, Nat.reduceAdd, Nat.reduceSub, Array.replicate_succ, Array.replicate_zero, List.push_toArray, List.append_toArray, List.nil_append, List.cons_append]
  gi_wp2_with (first
    | (gi_at_call 37; refine (cK _ _).mono ?_; rintro e w' ⟨rfl, rfl⟩)
    | (gi_at_call 36; refine cS.mono ?_; rintro e w' ⟨v, ss, rfl, hS, hrow, hnil, hb⟩))
  go_ret
  have hrow2 := ownsRow_base_a hrow (show w.heap.size ≤ _ by simp)
  have hl : ss.length = S.length := by
    have h1 := hS.length_eq
    have h2 := HI.out.2
    have h3 : (intKeys D0).length = Maps.size D0 := by cases D0 <;> simp [intKeys, Maps.size]
    omega
  have he : ss.mergeSort (fun x y => decide (x ≤ y)) = idsA (S.map BD.strip) := by
    rw [← HI.out.1]; exact mergeSort_of_perm_i hS
  rw [hl, he] at hrow2
  exact ⟨v, rfl, hrow2, ((Below.refl _ w).alloc (Nat.le_refl _) _).trans (hb.mono (by simp))⟩
set_option maxHeartbeats 1000000 in
theorem open_nil (w : World) : Calls Try.prog 15 #[.pointer none] w fun e w' => e = .returned (.slice none 0 0) ∧ w = w' := by
  go_enter Try.func15, Try.ntmps15
  go_wp2
  go_ret
  exact ⟨rfl, rfl⟩
theorem used_nil (w : World) : Calls Try.prog 16 #[.pointer none] w fun e w' => e = .returned (.int .i64 0) ∧ w = w' := by
  go_enter Try.func16, Try.ntmps16
  go_wp2
  go_ret
  exact ⟨rfl, rfl⟩
theorem drop_nil (id : Int) (w : World) : Calls Try.prog 17 #[.pointer none, .int .i64 id] w fun e w' => e = .returned (.bool false) ∧ w = w' := by
  go_enter Try.func17, Try.ntmps17
  go_wp2
  go_ret
  exact ⟨rfl, rfl⟩
end Go.Proofs.Ytoclbcpfiacoaaa
