/- PlainRow: the walk of the statement itself. -/
import Derived.Test.YtoclbcpfiacoaaaPlainLaw
import Derived.Test.YtoclbcpfiacoaaaArgs
namespace Go.Proofs.Ytoclbcpfiacoaaa
set_option linter.unusedVariables false
set_option linter.unusedSimpArgs false
open Go.RowKit

theorem still_tail {P : Program} {id : Nat} {Q : Exit → Act → World → Prop} {a : Act} {w : World} {l : List Oper} (n : Nat) (hm : P.follows .mixedOrders = true) (hB : Region.lexTailB .any l.toArray n = true)
    (h : wpStill P l.toArray w.drew (fun a' => wpList P l.toArray Q (l.drop n) a' w.drew) (l.take n) a) : (Code.region id l.toArray true).wp P Q a w := wp_region_still_tail n hm hB h
def frm (zs : List Int) (ss : List ByteArray) (k : Nat) : List UInt8 := putL (zs[k]?.getD 0).toNat (lst (ss[k]?.getD ByteArray.empty))
/-- the frames from the j-th on, n of them -/
def frms (zs : List Int) (ss : List ByteArray) : Nat → Nat → List UInt8
  | _, 0 => []
  | j, n + 1 => frm zs ss j ++ frms zs ss (j + 1) n
theorem frms_snoc (zs : List Int) (ss : List ByteArray) : ∀ (n j : Nat), frms zs ss j (n + 1) = frms zs ss j n ++ frm zs ss (j + n)
  | 0, j => by simp [frms]
  | n + 1, j => by
    have := frms_snoc zs ss n (j + 1)
    rw [frms, this, frms, List.append_assoc, show j + 1 + n = j + (n + 1) by omega]
set_option maxHeartbeats 1000000 in
set_option maxRecDepth 100000 in
theorem row_walk (a0 : Option Addr) (len0 cap0 : Nat) (z0 : List Int) (a1 : Option Addr) (len1 cap1 : Nat) (s1 : List ByteArray) (w : World) (w0 : IsRow .u64 w a0 len0 cap0 z0) (w1 : IsRowS w a1 len1 cap1 s1) :
    Calls Try.prog 7 #[.slice a0 len0 cap0, .slice a1 len1 cap1] w fun e w' => e = .returned (.bool true) ∧ Below w.heap.size w w' := by
  have hlen0 := w0.len_le
  have hlen1 := w1.len_le
  by_cases c1 : (30 : Int) < (len0 : Int)
  · go_enter Try.func7, Try.ntmps7
    go_wp2_with (go_at_call 23; refine (alive15 _).mono ?_; rintro e' w2 ⟨rfl, hb2⟩)
    go_ret
    exact ⟨rfl, hb2⟩
  · by_cases c2 : (len1 : Int) < (len0 : Int)
    · go_enter Try.func7, Try.ntmps7
      go_wp2_with (go_at_call 23; refine (alive15 _).mono ?_; rintro e' w2 ⟨rfl, hb2⟩)
      go_ret
      exact ⟨rfl, hb2⟩
    · have D1 : decide ((30 : Int) < (len0 : Int)) = false := decide_eq_false c1
      have D2 : decide ((len1 : Int) < (len0 : Int)) = false := decide_eq_false c2
      have D3 : decide (len1 < len0) = false := decide_eq_false (by omega)
      go_enter Try.func7, Try.ntmps7
      go_wp2_with (go_at_call 23; refine (alive15 _).mono ?_; rintro e' w2 ⟨rfl, hb2⟩)
      go_loopw [5, 6] (fun v5 v6 wr => ∃ (k : Nat) (S : ByteArray), k ≤ len0 ∧ S.size ≤ k * 1000030 ∧ Sh (S = str (frms z0 s1 0 k)) ∧ Sh (∀ i, i < k → (s1[i]?.getD ByteArray.empty).size ≤ 200) ∧ Below w.heap.size w wr ∧ v5 = .string S ∧ v6 = .int .i64 (k : Int)) (fun _ v6 _ => len0 - (intOf v6).toNat)
      case atStart => exact ⟨0, ⟨#[]⟩, by omega, Nat.zero_le _, ⟨rfl⟩, ⟨by omega⟩, hb2, rfl, rfl⟩
      case round =>
        obtain ⟨k, S, hk, hS, HS, HB, hb, rfl, rfl⟩ := hrel
        by_cases hk2 : k < len0
        · have hk3 : k < len1 := by omega
          obtain ⟨x, rfl, hc0, hwf, hbl⟩ := w0.at_ hk2
          obtain ⟨y, rfl, hc1, hsz, hbl1⟩ := w1.at_ (show k < len1 by omega)
          have e0 := (hb.cell hbl).trans hc0
          have e1 := (hb.cell hbl1).trans hc1
          obtain ⟨id, hid, hidM⟩ : ∃ id : Nat, z0[k]?.getD 0 = (id : Int) ∧ id < u64M := by
            have := wf_u64 hwf
            exact ⟨(z0[k]?.getD 0).toNat, by omega, by unfold u64M; omega⟩
          obtain ⟨B, hB⟩ : ∃ B, s1[k]?.getD ByteArray.empty = B := ⟨_, rfl⟩
          have hfr : Sh (frm z0 s1 k = putL id (lst B)) := ⟨by unfold frm; rw [hid, hB]; simp⟩
          rw [hid] at e0
          rw [hB] at e1
          have HBB := sh hB
          clear hc0 hwf hc1 hsz hB hid hbl hbl1
          by_cases g : (200 : Int) < (B.size : Int)
          · go_wp2
            go_ret
            exact ⟨rfl, hb⟩
          · have HR := sh (refput id hidM B (by omega))
            have hps := (put_size id hidM B (by omega)).1
            have hSz : (str (putL id (lst B))).size ≤ 1000030 := by rw [size_str]; exact hps
            have HX := sh (show S ++ str (putL id (lst B)) = str (frms z0 s1 0 (k + 1)) by rw [frms_snoc, Nat.zero_add, hfr.out, ← str_append, HS.out])
            have HB2 : Sh (∀ i, i < k + 1 → (s1[i]?.getD ByteArray.empty).size ≤ 200) := ⟨fun i hi => by
              by_cases e : i = k
              · subst e; rw [HBB.out]; omega
              · exact HB.out i (by omega)⟩
            clear hps hidM
            generalize str (putL id (lst B)) = T at *
            generalize decide (((inL id (lst B)).length : Int) ≤ 65536) = bb at *
            go_wp2_with fail
            go_region_with (go_at_call 25; refine (HR.out _).mono ?_; rintro e' w3 ⟨rfl, hb3⟩)
            all_goals
              go_wp2_with fail
              go_roundw
              case rel => exact ⟨k + 1, S ++ T, by omega, by rw [ByteArray.size_append]; omega, HX, HB2, hb.drew.trans (hb3.mono hb.size), rfl, by go_num⟩
              case measure => simp [intOf]; omega
        · have HSS : Sh (S = str (frms z0 s1 0 len0)) := ⟨by rw [HS.out, show k = len0 by omega]⟩
          have HBA : Sh (∀ i, i < len0 → (s1[i]?.getD ByteArray.empty).size ≤ 200) := ⟨fun i hi => HB.out i (by omega)⟩
          have hS30 : S.size ≤ 31000000 := by omega
          clear HS HB
          go_wp2_with fail
          go_loopw [5, 9] (fun v5 v9 wr2 => ∃ (j : Nat) (T : ByteArray), j ≤ len0 ∧ T.size ≤ 31000000 ∧ Sh (T = str (frms z0 s1 j (len0 - j))) ∧ Below w.heap.size w wr2 ∧ v5 = .string T ∧ v9 = .int .i64 (j : Int)) (fun _ v9 _ => len0 - (intOf v9).toNat)
          case atStart => exact ⟨0, S, by omega, hS30, ⟨by rw [HSS.out, Nat.sub_zero]⟩, hb, rfl, rfl⟩
          case round =>
            obtain ⟨j, T, hj, hT, HT, hbr, rfl, rfl⟩ := hrel
            by_cases hj2 : j < len0
            · have hj3 : j < len1 := by omega
              obtain ⟨x, rfl, hc0, hwf, hbl⟩ := w0.at_ hj2
              obtain ⟨y, rfl, hc1, hsz, hbl1⟩ := w1.at_ hj3
              obtain ⟨id, hid, hidM⟩ : ∃ id : Nat, z0[j]?.getD 0 = (id : Int) ∧ id < u64M := by
                have := wf_u64 hwf
                exact ⟨(z0[j]?.getD 0).toNat, by omega, by unfold u64M; omega⟩
              obtain ⟨B, hB⟩ : ∃ B, s1[j]?.getD ByteArray.empty = B := ⟨_, rfl⟩
              have hBs : B.size ≤ 200 := by rw [← hB]; exact HBA.out j hj2
              have hfr : frm z0 s1 j = putL id (lst B) := by unfold frm; rw [hid, hB]; simp
              have hTe : T = str (putL id (lst B) ++ frms z0 s1 (j + 1) (len0 - (j + 1))) := by
                rw [HT.out, show len0 - j = (len0 - (j + 1)) + 1 by omega, frms, hfr]
              have f0 := fun (W : World) (h : Below w.heap.size w W) => (h.cell hbl).trans hc0
              have f1 := fun (W : World) (h : Below w.heap.size w W) => (h.cell hbl1).trans hc1
              rw [hid] at f0
              rw [hB] at f1
              have hin : (inL id (lst B)).length ≤ 210 := by
                have := leb_len10 hidM
                unfold inL; rw [List.length_append, ← size_lst]; omega
              have HN := sh (pnext_told 300 id hidM B (frms z0 s1 (j + 1) (len0 - (j + 1))) (by omega) (by omega) (by rw [← hTe]; unfold maxLen; omega))
              rw [← hTe] at HN
              have hlen : (putL id (lst B)).length ≤ T.size := by rw [hTe, size_str, List.length_append]; omega
              have HE := sh (show T.extract (putL id (lst B)).length T.size = str (frms z0 s1 (j + 1) (len0 - (j + 1))) by
                rw [hTe, extract_str, List.drop_left, size_str, List.length_append, show (putL id (lst B)).length + (frms z0 s1 (j + 1) (len0 - (j + 1))).length - (putL id (lst B)).length = (frms z0 s1 (j + 1) (len0 - (j + 1))).length by omega, List.take_length])
              have C0 := sh f0
              have C1 := sh f1
              clear hc0 hwf hc1 hsz hB hid hfr hTe f0 f1 hin hidM hbl hbl1
              generalize (putL id (lst B)).length = q at *
              go_wp2_with fail
              refine (HN.out _).mono ?_
              simp only [frV]
              rintro e' w3 ⟨rfl, hb3⟩
              have hbw := hbr.trans (hb3.mono hbr.size)
              have e0 := C0.out w3 hbw
              have e1 := C1.out w3 hbw
              have e0' := C0.out _ (hbw.alloc hbw.size (.cells #[.int .u64 (id : Int), .string ⟨#[]⟩, .string B] 63))
              have e1' := C1.out _ (hbw.alloc hbw.size (.cells #[.int .u64 (id : Int), .string ⟨#[]⟩, .string B] 63))
              go_wp2_with fail
              go_quiet (fail)
              all_goals go_wp2_with fail
              go_roundw
              case rel =>
                have hA := hbw.alloc hbw.size (.cells #[.int .u64 (id : Int), .string ⟨#[]⟩, .string B] 63)
                refine ⟨j + 1, T.extract q T.size, by omega, by rw [ByteArray.size_extract]; omega, HE, ?_, rfl, by go_num⟩
                first
                  | exact hA
                  | exact hA.drew
                  | exact below_drewN hA _
              case measure => simp [intOf]; omega
            · have hTn : T = ⟨#[]⟩ := by rw [HT.out, show len0 - j = 0 by omega]; rfl
              subst hTn
              go_wp2_with fail
              go_ret
              exact ⟨by simp, hbr⟩
end Go.Proofs.Ytoclbcpfiacoaaa
