/- the reference's Bytes: contract. -/
import Derived.Test.YtlmddmkobhkndaaHex
namespace Go.Proofs.Ytlmddmkobhkndaa
set_option linter.unusedVariables false
set_option linter.unusedSimpArgs false
open Go.RowKit
open Go.Lib hiding intOf

/-- the byte of two digits -/
def two (h l : UInt8) : UInt8 := UInt8.ofNat (16 * (val h).toNat + (val l).toNat)
def okd (h l : UInt8) : Bool := decide (0 ≤ val h) && decide (0 ≤ val l)
/-- the bytes of digits; none: not digits, or not a pair at the end -/
def unhex : List UInt8 → Option (List UInt8)
  | [] => some []
  | [_] => none
  | h :: l :: r => if okd h l then (unhex r).map (two h l :: ·) else none
def unhexV (x : Option (List UInt8)) : Value := match x with
  | some l => .tuple #[.string (str l), .int .i64 0]
  | none => .tuple #[.string ⟨#[]⟩, .int .i64 3]
theorem unhex_odd : ∀ (l : List UInt8), l.length % 2 = 1 → unhex l = none
  | [], h => by simp at h
  | [_], _ => rfl
  | a :: b :: r, h => by
    have := unhex_odd r (by simp at h; omega)
    unfold unhex
    rw [this]; simp
theorem unhex_len : ∀ (l m : List UInt8), unhex l = some m → l.length = 2 * m.length
  | [], m, h => by cases h; rfl
  | [_], m, h => by cases h
  | a :: b :: r, m, h => by
    unfold unhex at h
    split at h
    · obtain ⟨q, hq, rfl⟩ := Option.map_eq_some_iff.1 h
      have := unhex_len r q hq
      simp; omega
    · cases h
set_option maxHeartbeats 2000000 in
set_option maxRecDepth 100000 in
theorem rbytes (s : ByteArray) (hs : s.size ≤ 1000000) (w : World) : Calls Try.prog 8 #[.string s] w fun e w' => e = .returned (unhexV (unhex (lst s))) ∧ Below w.heap.size w w' := by
  have HL := sh (size_lst s)
  obtain ⟨i0, hi0, hz0, hz1, hz2⟩ := info_parts info5
  obtain ⟨m, hm, hm2⟩ : ∃ m : Nat, ((s.size : Int).tmod 2) = (m : Int) ∧ m = s.size % 2 := ⟨s.size % 2, by rw [Int.tmod_eq_emod_of_nonneg (by omega)]; omega, rfl⟩
  by_cases hodd : m = 1
  · have HV : Sh (unhex (lst s) = none) := ⟨unhex_odd _ (by rw [← HL.out]; omega)⟩
    subst hodd
    clear hm2
    go_enter Try.func8, Try.ntmps8
    go_wp2
    go_ret2
    exact ⟨by rw [HV.out]; rfl, Below.refl _ _⟩
  · have hm0 : m = 0 := by omega
    subst hm0
    have HM2 := sh hm2
    clear hm2 hodd
    go_enter Try.func8, Try.ntmps8
    go_wp2
    go_loopw [4, 5] (fun v4 v5 wr => ∃ (q : Nat) (acc : List UInt8), q ≤ s.size ∧ Sh (q = 2 * acc.length) ∧ v5 = .int .i64 (q : Int) ∧ Sh (unhex (lst s) = (unhex ((lst s).drop q)).map (acc ++ ·)) ∧ wr.ownsRow w.heap.size 5 1 v4 acc.length (cellsB acc) ∧ Below w.heap.size w wr) (fun _ v5 _ => s.size - (RowKit.intOf v5).toNat)
    case atStart => exact ⟨0, [], by omega, ⟨rfl⟩, rfl, ⟨by simp⟩, own_row_nil _ _ _ _, Below.refl _ _⟩
    case round =>
      obtain ⟨q, acc, hk, hacc, rfl, HX, hown, hb⟩ := hrel
      by_cases hlt : q < s.size
      · obtain ⟨h, hh⟩ : ∃ b, (lst s)[q]? = some b := ⟨_, List.getElem?_eq_getElem (by rw [← HL.out]; exact hlt)⟩
        obtain ⟨l, hl⟩ : ∃ b, (lst s)[q + 1]? = some b := ⟨_, List.getElem?_eq_getElem (by rw [← HL.out]; have := hacc.out; have := HM2.out; omega)⟩
        have hlt2 : q + 1 < s.size := by have := hacc.out; have := HM2.out; omega
        have hlt3 : (q : Int) + 1 < (s.size : Int) := by omega
        have hsh := str_at hh
        have hsl := str_at hl
        have hd : (lst s).drop q = h :: l :: (lst s).drop (q + 2) := by
          obtain ⟨e1, rfl⟩ := List.getElem?_eq_some_iff.1 hh
          obtain ⟨e2, rfl⟩ := List.getElem?_eq_some_iff.1 hl
          rw [List.drop_eq_getElem_cons e1, List.drop_eq_getElem_cons e2]
        have HX2 : Sh (unhex (lst s) = if okd h l then (unhex ((lst s).drop (q + 2))).map ((acc ++ [two h l]) ++ ·) else none) := ⟨by
          rw [HX.out, hd, unhex]
          split
          · rw [Option.map_map]
            congr 1
            funext x
            simp
          · rfl⟩
        have h255 := h.toNat_lt
        have l255 := l.toNat_lt
        obtain ⟨x, hx, hxr⟩ : ∃ x, val h = x ∧ (x = -1 ∨ (0 ≤ x ∧ x < 16)) := ⟨_, rfl, by rcases val_range h with e | ⟨v, e1, e2, _⟩ <;> omega⟩
        obtain ⟨y, hy, hyr⟩ : ∃ y, val l = y ∧ (y = -1 ∨ (0 ≤ y ∧ y < 16)) := ⟨_, rfl, by rcases val_range l with e | ⟨v, e1, e2, _⟩ <;> omega⟩
        have HOK : Sh (okd h l = (decide (0 ≤ x) && decide (0 ≤ y))) := ⟨by unfold okd; rw [hx, hy]⟩
        have HTW : Sh (two h l = UInt8.ofNat (16 * x.toNat + y.toNat)) := ⟨by unfold two; rw [hx, hy]⟩
        clear hd hh hl HX
        by_cases hok : 0 ≤ x ∧ 0 ≤ y
        · obtain ⟨ox, oy⟩ := hok
          have HX3 : Sh (unhex (lst s) = (unhex ((lst s).drop (q + 2))).map ((acc ++ [two h l]) ++ ·)) := ⟨by rw [HX2.out, HOK.out]; simp [ox, oy]⟩
          have hwr : IntKind.u8.wrap (16 * x + y) = 16 * x + y := by rw [wrap_u8 (by omega) (by omega)]
          have hal : acc.length ≤ 1000000 := by have := hacc.out; omega
          have hst : cellsB acc ++ [Value.int .u8 (16 * x + y)] = cellsB (acc ++ [two h l]) := by
            rw [cellsB_append]
            congr 1
            show _ = [byteV (two h l)]
            rw [HTW.out, byteV_ofNat _ (by omega)]
            congr 2; omega
          have HST := sh hst
          have HOD := sh (fun n => show (wr.drewN n).ownsRow w.heap.size 5 1 _ acc.length (cellsB acc) from hown)
          clear HX2 hst HTW HOK
          go_wp2_with fail
          go_quiet ((go_at_call 21; exact Calls.quiet_of_same (rvalQ _ _)))
          all_goals go_wp2_with (at_builtin; refine wpList_append_own _ rfl (.tmp 33) (.tmp 39) 40 rfl w.heap.size 5 i0 (.int .u8 0) 1 1 Try.underlying40 hi0 hz0 hz1 hz2 rfl (by decide) _ acc.length (cellsB acc) rfl ((HOD.out _).alloc _) ⟨wr.heap.size, 0, none⟩ 1 1 [_] rfl rfl (cell_one _ _ _) (by simp [Value.oneCell']) (by unfold maxLen; omega) (by omega) (by have := hb.size; simp; omega) ?_; intro v1 w1 hown1 hg1 _; have hb1 := below_append ((below_drewN hb _).alloc hb.size _) ((HOD.out _).alloc _) (by have := hb.size; simp; omega) hg1)
          all_goals
            rw [HST.out] at hown1
            go_roundw
            case rel => exact ⟨q + 2, acc ++ [two h l], by omega, ⟨by rw [List.length_append, hacc.out]; simp; omega⟩, by go_num, HX3, by rw [List.length_append]; exact hown1, hb1⟩
            case measure => simp [RowKit.intOf]; omega
        · have HV : Sh (unhex (lst s) = none) := ⟨by
            rw [HX2.out, HOK.out]
            rw [if_neg]
            simp only [Bool.and_eq_true, decide_eq_true_eq]
            exact hok⟩
          clear HX2 HOK HTW
          by_cases ox : 0 ≤ x
          · have oy : ¬ 0 ≤ y := fun h => hok ⟨ox, h⟩
            clear hok
            go_wp2_with fail
            go_quiet ((go_at_call 21; exact Calls.quiet_of_same (rvalQ _ _)))
            all_goals
              go_wp2_with fail
              go_ret2
              exact ⟨by rw [HV.out]; rfl, below_drewN hb _⟩
          · clear hok
            go_wp2_with fail
            go_quiet ((go_at_call 21; exact Calls.quiet_of_same (rvalQ _ _)))
            all_goals
              go_wp2_with fail
              go_ret2
              exact ⟨by rw [HV.out]; rfl, below_drewN hb _⟩
      · have HE : Sh (unhex (lst s) = some acc) := ⟨by rw [HX.out, List.drop_eq_nil_of_le (by rw [← HL.out]; omega)]; simp [unhex]⟩
        have hcv := own_str (P := Try.prog) Try.underlying40 Try.underlying5 Try.underlying9 hown
        go_wp2
        go_ret2
        exact ⟨by rw [HE.out]; rfl, hb⟩
end Go.Proofs.Ytlmddmkobhkndaa
