/- parts: the whole of a body; Drop, whatever the joiner holds. -/
import Derived.Test.YtoclbcpfiacoaaaJn1
namespace Go.Proofs.Ytoclbcpfiacoaaa
set_option linter.unusedVariables false
set_option linter.unusedSimpArgs false
open Go.RowKit
open Go.Lib hiding intOf

/-- what is written when k rounds are over -/
def wholeK (n : Int) (t : List UInt8) (ps : PL) (k : Nat) : List UInt8 := (List.range k).flatMap fun (i : Nat) => if (i : Int) = n then t else lst ((lookP ps (i : Int)).getD ⟨#[]⟩)
theorem wholeK_succ (n : Int) (t : List UInt8) (ps : PL) (k : Nat) : wholeK n t ps (k + 1) = wholeK n t ps k ++ (if (k : Int) = n then t else lst ((lookP ps (k : Int)).getD ⟨#[]⟩)) := by
  unfold wholeK
  rw [List.range_succ, List.flatMap_append]
  simp
theorem look_size {ps : PL} (hps : ∀ q ∈ ps, q.2.size ≤ 65536) (n : Int) : ((lookP ps n).getD ⟨#[]⟩).size ≤ 65536 := by
  cases h : lookP ps n with
  | none => exact Nat.zero_le _
  | some t => exact hps _ (lookP_mem h)
theorem wholeK_len {n : Int} {t : List UInt8} {ps : PL} (ht : t.length ≤ 65536) (hps : ∀ q ∈ ps, q.2.size ≤ 65536) : ∀ k, (wholeK n t ps k).length ≤ k * 65536
  | 0 => by simp [wholeK]
  | k + 1 => by
    have ih := wholeK_len (n := n) ht hps k
    rw [wholeK_succ, List.length_append, Nat.succ_mul]
    have h2 := look_size hps (k : Int)
    rw [size_lst] at h2
    split <;> omega
set_option maxRecDepth 100000 in
set_option maxHeartbeats 2000000 in
theorem whole_any (B : Nat) (b : BD) (id n : Int) (of : Nat) (t : ByteArray) (w : World) (hB : BdOk w B b) (hof : of ≤ 1024) (ht : t.size ≤ 65536) (hps : ∀ q ∈ b.ps, q.2.size ≤ 65536) :
    Calls Try.prog 35 #[.pointer (some ⟨b.blk, 0, none⟩), .agg #[.int .i64 id, .int .i64 n, .int .i64 (of : Int), .string t]] w fun e w' => e = .returned (.string (str (wholeK n (lst t) b.ps of))) ∧ Below w.heap.size w w' := by
  have HPS := sh hps
  have HLN := sh (fun k => wholeK_len (n := n) (t := lst t) (by rw [← size_lst]; exact ht) hps k)
  have hp1 := Bk.made w 33 #[.int .i64 id, .int .i64 n, .int .i64 (of : Int), .string t]
  have hb1 : Below w.heap.size w (w.alloc (.cells #[.int .i64 id, .int .i64 n, .int .i64 (of : Int), .string t] 33)) := (Below.refl _ w).alloc (Nat.le_refl _) _
  have HF : IsBuilderF 113 5 (w.heap.size + 1) (w.heap.size + 1) (byteCells []) ((w.alloc (.cells #[.int .i64 id, .int .i64 n, .int .i64 (of : Int), .string t] 33)).alloc (.cells #[.pointer none, .slice none 0 0] 113)) := by
    have h := IsBuilderF.of (fresh_isBuilder 113 5 (w.alloc (.cells #[.int .i64 id, .int .i64 n, .int .i64 (of : Int), .string t] 33)))
    rw [World.size_alloc] at h
    exact h
  have q2 := (hp1.alloc (.cells #[.pointer none, .slice none 0 0] 113)).cell 2
  have SB := sh hB
  clear hps hB
  go_enter Try.func35, Try.ntmps35
  go_wp2_with fail
  go_loopw [9] (fun v9 wr => ∃ k : Nat, k ≤ of ∧ v9 = .int .i64 (k : Int) ∧ Sh (IsBuilderF 113 5 (w.heap.size + 1) (w.heap.size + 1) (byteCells (wholeK n (lst t) b.ps k)) wr) ∧ Below (w.heap.size + 1) (w.alloc (.cells #[.int .i64 id, .int .i64 n, .int .i64 (of : Int), .string t] 33)) wr) (fun v9 _ => of - (RowKit.intOf v9).toNat)
  case atStart => exact ⟨0, by omega, rfl, ⟨HF⟩, (Below.refl _ _).alloc (by simp) _⟩
  case round =>
    obtain ⟨k, hk, rfl, HB, hb⟩ := hrel
    have hwr := hb.size
    rw [World.size_alloc] at hwr
    have hp2 := hp1.below hb (by omega)
    have SB2 := sh (SB.out.below (hb1.trans (hb.mono (by omega))))
    have p1 := hp2.cell 1
    have p3 := hp2.cell 3
    have d1 := SB2.out.bk.cell 1
    have hbw : Below w.heap.size w wr := hb1.trans (hb.mono (by omega))
    by_cases hlt : k < of
    · have HW := sh (wholeK_succ n (lst t) b.ps k)
      have HL := sh (HLN.out k)
      by_cases e : (k : Int) = n
      · have eb : ((k : Int) == n) = true := by rw [beq_iff_eq]; exact e
        have E2 : Sh (wholeK n (lst t) b.ps (k + 1) = wholeK n (lst t) b.ps k ++ lst t) := ⟨by rw [HW.out, if_pos e]⟩
        have HWr := sh (fun W h hB => wstring (w.heap.size + 1) (w.heap.size + 1) (byteCells (wholeK n (lst t) b.ps k)) t W h (by rw [byteCells_length]; have := HL.out; omega) hB)
        clear e HW
        go_wp2_with (go_at_call 49; refine (HWr.out _ HB.out (by omega)).mono ?_; clear HWr; rintro e' w2 ⟨rfl, h2, hb2, _⟩)
        go_roundw
        case rel => exact ⟨k + 1, by omega, by go_num, ⟨.inr (by rw [E2.out]; rw [show byteCells (wholeK n (lst t) b.ps k ++ lst t) = byteCells (wholeK n (lst t) b.ps k) ++ strCells t from by simp [byteCells, strCells, lst]]; exact h2)⟩, hb.trans hb2⟩
        case measure => simp [RowKit.intOf]; omega
      · have eb : ((k : Int) == n) = false := by rw [beq_eq_false_iff_ne]; exact e
        have l1 := (look_P SB2.out (k : Int) (by omega) (by omega)).2
        have HS := sh (look_size HPS.out (k : Int))
        obtain ⟨u, hu⟩ : ∃ u, (lookP b.ps (k : Int)).getD ⟨#[]⟩ = u := ⟨_, rfl⟩
        rw [hu] at l1 HS
        have E2 : Sh (wholeK n (lst t) b.ps (k + 1) = wholeK n (lst t) b.ps k ++ lst u) := ⟨by rw [HW.out, if_neg e, hu]⟩
        have HWr := sh (fun W h hB => wstring (w.heap.size + 1) (w.heap.size + 1) (byteCells (wholeK n (lst t) b.ps k)) u W h (by rw [byteCells_length]; have := HL.out; have := HS.out; omega) hB)
        clear e HW hu
        go_wp2_with (go_at_call 49; refine (HWr.out _ HB.out (by omega)).mono ?_; clear HWr; rintro e' w2 ⟨rfl, h2, hb2, _⟩)
        go_roundw
        case rel => exact ⟨k + 1, by omega, by go_num, ⟨.inr (by rw [E2.out]; rw [show byteCells (wholeK n (lst t) b.ps k ++ lst u) = byteCells (wholeK n (lst t) b.ps k) ++ strCells u from by simp [byteCells, strCells, lst]]; exact h2)⟩, hb.trans hb2⟩
        case measure => simp [RowKit.intOf]; omega
    · obtain rfl : k = of := by omega
      have HSt := sh (fun W h hB => Try.Builder_String_any_k (w.heap.size + 1) (w.heap.size + 1) (wholeK n (lst t) b.ps k) W h hB)
      go_wp2_with (go_at_call 50; refine (HSt.out _ HB.out (by omega)).mono ?_; rintro e' w2 ⟨rfl, _, hb2, _⟩)
      go_ret
      exact ⟨rfl, hbw.trans (hb2.mono (by omega))⟩
end Go.Proofs.Ytoclbcpfiacoaaa
