/- The reference's joiner (layer 30): Ids. -/
import Derived.Test.YtoclbcpfiacoaaaR2
namespace Go.Proofs.Ytoclbcpfiacoaaa
set_option linter.unusedVariables false
set_option linter.unusedSimpArgs false
open Go.RowKit

theorem nodup_len {α : Type} [DecidableEq α] : ∀ {l l' : List α}, l.Nodup → (∀ x ∈ l, x ∈ l') → l.length ≤ l'.length
  | [], _, _, _ => by simp
  | a :: l, l', hn, h => by
    rw [List.nodup_cons] at hn
    have ha : a ∈ l' := h a (by simp)
    have ih := nodup_len (l := l) (l' := l'.erase a) hn.2 fun x hx => (List.mem_erase_of_ne (fun (e : x = a) => hn.1 (by rw [← e]; exact hx))).2 (h x (by simp [hx]))
    rw [List.length_erase_of_mem ha] at ih
    have : 0 < l'.length := List.length_pos_of_mem ha
    simp only [List.length_cons]
    omega
/-- is a number behind those that are out? -/
def gtO (out : List Int) (x : Int) : Bool := match out.getLast? with | none => true | some y => decide (y < x)
/-- the least number that is behind, of these parts; -1 -/
def best (out : List Int) (b : Int) (L : List PT) : Int := L.foldl (fun b p => if gtO out p.1 && (decide (b < 0) || decide (p.1 < b)) then p.1 else b) b
theorem best_snoc (out : List Int) (L : List PT) (p : PT) (b : Int) : best out b (L ++ [p]) = if gtO out p.1 && (decide (best out b L < 0) || decide (p.1 < best out b L)) then p.1 else best out b L := by
  simp [best]
theorem snoc_ind {α : Type} {P : List α → Prop} (h0 : P []) (hs : ∀ l a, P l → P (l ++ [a])) (l : List α) : P l := by
  have h : ∀ r : List α, P r.reverse := fun r => by
    induction r with
    | nil => exact h0
    | cons a r ih => rw [List.reverse_cons]; exact hs _ _ ih
  have := h l.reverse
  rwa [List.reverse_reverse] at this
theorem best_law (out : List Int) : ∀ (L : List PT), (∀ p ∈ L, 0 ≤ p.1) →
    (best out (-1) L = -1 ∧ ∀ p ∈ L, gtO out p.1 = false) ∨ (0 ≤ best out (-1) L ∧ gtO out (best out (-1) L) = true ∧ (∃ p ∈ L, p.1 = best out (-1) L) ∧ ∀ p ∈ L, gtO out p.1 = true → best out (-1) L ≤ p.1) := by
  refine snoc_ind (fun _ => .inl ⟨rfl, by simp⟩) fun L p ih => ?_
  · intro h
    have hp := h p (by simp)
    rw [best_snoc]
    rcases ih (fun q hq => h q (by simp [hq])) with ⟨h1, h2⟩ | ⟨h1, h2, ⟨q, hq, h3⟩, h4⟩
    · rw [h1]
      cases hg : gtO out p.1
      · exact .inl ⟨by simp, fun q hq => (List.mem_append.1 hq).elim (h2 q) (fun hq => by rw [show q = p by simpa using hq]; exact hg)⟩
      · refine .inr ⟨by simpa using hp, by simpa using hg, ⟨p, by simp, by simp⟩, fun q hq hq2 => ?_⟩
        rcases List.mem_append.1 hq with hq | hq
        · rw [h2 q hq] at hq2; cases hq2
        · obtain rfl : q = p := by simpa using hq
          simp
    · cases hg : gtO out p.1
      · simp only [Bool.false_and, Bool.false_eq_true, if_false]
        refine .inr ⟨h1, h2, ⟨q, by simp [hq], h3⟩, fun r hr hr2 => ?_⟩
        rcases List.mem_append.1 hr with hr | hr
        · exact h4 r hr hr2
        · obtain rfl : r = p := by simpa using hr
          rw [hg] at hr2; cases hr2
      · by_cases c : p.1 < best out (-1) L
        · rw [if_pos (by simp [c])]
          refine .inr ⟨hp, hg, ⟨p, by simp, rfl⟩, fun r hr hr2 => ?_⟩
          rcases List.mem_append.1 hr with hr | hr
          · have := h4 r hr hr2; omega
          · obtain rfl : r = p := by simpa using hr
            omega
        · rw [if_neg (by simp [c]; omega)]
          refine .inr ⟨h1, h2, ⟨q, by simp [hq], h3⟩, fun r hr hr2 => ?_⟩
          rcases List.mem_append.1 hr with hr | hr
          · exact h4 r hr hr2
          · obtain rfl : r = p := by simpa using hr
            omega
/-- what is out: rising numbers of parts, and none between them is left out -/
structure Outs (L : List PT) (out : List Int) : Prop where
  up : out.Pairwise (· < ·)
  mem : ∀ x ∈ out, ∃ p ∈ L, p.1 = x
  low : ∀ p ∈ L, gtO out p.1 = false → p.1 ∈ out
theorem up_last {out : List Int} {y : Int} (h : out.Pairwise (· < ·)) (hl : out.getLast? = some y) : ∀ x ∈ out, x ≤ y := by
  obtain ⟨l, rfl⟩ : ∃ l, out = l ++ [y] := by
    rw [List.getLast?_eq_some_iff] at hl
    exact hl
  intro x hx
  rcases List.mem_append.1 hx with hx | hx
  · have := (List.pairwise_append.1 h).2.2 x hx y (by simp); omega
  · have : x = y := by simpa using hx
    omega
theorem Outs.snoc {L : List PT} {out : List Int} (h : Outs L out) {b : Int} (hb : gtO out b = true) (hm : ∃ p ∈ L, p.1 = b) (hle : ∀ p ∈ L, gtO out p.1 = true → b ≤ p.1) : Outs L (out ++ [b]) := by
  have hlast : ∀ x ∈ out, x < b := fun x hx => by
    unfold gtO at hb
    cases hl : out.getLast? with
    | none => rw [List.getLast?_eq_none_iff] at hl; subst hl; cases hx
    | some y =>
      rw [hl] at hb
      have := up_last h.up hl x hx
      simp at hb
      omega
  refine ⟨List.pairwise_append.2 ⟨h.up, by simp, fun x hx y hy => by rw [show y = b by simpa using hy]; exact hlast x hx⟩, fun x hx => ?_, fun p hp hg => ?_⟩
  · rcases List.mem_append.1 hx with hx | hx
    · exact h.mem x hx
    · obtain rfl : x = b := by simpa using hx
      exact hm
  · unfold gtO at hg
    rw [show (out ++ [b]).getLast? = some b by simp] at hg
    simp at hg
    by_cases c : gtO out p.1 = true
    · have := hle p hp c
      have e : p.1 = b := by omega
      rw [e]; simp
    · have := h.low p hp (by simpa using c)
      simp [this]
theorem Outs.len {L : List PT} {out : List Int} (h : Outs L out) : out.length ≤ L.length := by
  have := nodup_len (l := out) (l' := L.map Prod.fst) (h.up.imp fun hab => Int.ne_of_lt hab) fun x hx => by
    obtain ⟨p, hp, rfl⟩ := h.mem x hx
    exact List.mem_map.2 ⟨p, hp, rfl⟩
  rwa [List.length_map] at this
def slen : Value → Nat
  | .slice _ n _ => n
  | _ => 0
def IdsPost (w : World) (L : List PT) (e : Ending) (w' : World) : Prop :=
  ∃ v out, e = .returned v ∧ Outs L out ∧ (∀ p ∈ L, p.1 ∈ out) ∧ w'.ownsRow w.heap.size 3 1 v out.length (out.map (Value.int .i64)) ∧ Below w.heap.size w w'
theorem infoI3 : (Try.prog.info? 3).map (fun i => (i.zero, i.size, i.bytes)) = some (some (.int .i64 0), 1, 8) := by kernel_rfl
theorem own_len {W : World} {B n sz : Nat} {e : TypeId} {v : Value} {xs : List Value} (h : W.ownsRow B e sz v n xs) : ∃ a cp, v = .slice a n cp := by
  rcases h.2 with ⟨rfl, rfl⟩ | ⟨g, cp, cur, rfl, _⟩
  · exact ⟨_, _, rfl⟩
  · exact ⟨_, _, rfl⟩
theorem own_lastcell {W : World} {B : Nat} {a : Option Addr} {cp : Nat} {out : List Int} {y : Int} (h : W.ownsRow B 3 1 (.slice a out.length cp) out.length (out.map (Value.int .i64))) (hl : out.getLast? = some y) :
    ∃ g, a = some ⟨g, 0, none⟩ ∧ W.cell? ⟨g, out.length - 1, none⟩ = some (.int .i64 y) ∧ 1 ≤ out.length := by
  have hne : out ≠ [] := fun e => by subst e; cases hl
  have hpos : 1 ≤ out.length := List.length_pos_iff.2 hne
  rcases h.2 with ⟨_, h0⟩ | ⟨g, cp', cur, e, _⟩
  · omega
  · have e' := e
    simp only [Value.slice.injEq] at e'
    obtain ⟨rfl, _, rfl⟩ := e'
    refine ⟨g, rfl, ?_, hpos⟩
    have := h.cells (g := g) rfl (out.length - 1) (.int .i64 y) (by rw [List.getElem?_map, ← List.getLast?_eq_getElem?, hl]; rfl)
    rw [show (⟨g, 0, none⟩ : Addr).add (out.length - 1) = ⟨g, out.length - 1, none⟩ by unfold Addr.add; split <;> simp_all] at this
    exact this
set_option maxRecDepth 100000 in
set_option maxHeartbeats 2000000 in
theorem rids (most opn : Int) (a : Option Addr) (L : List PT) (cp : Nat) (w : World) (hL : RowL w a L) (hn : L.length ≤ 1000) (hpos : ∀ p ∈ L, 0 ≤ p.1) : Calls Try.prog 21 #[.agg #[.int .i64 most, .int .i64 opn, .slice a L.length cp]] w (IdsPost w L) := by
  obtain ⟨i3, hb0, hb1', hb2, hb3⟩ := info_parts infoI3
  have hJ := Bk.made w 46 #[.int .i64 most, .int .i64 opn, .slice a L.length cp]
  have hbw : Below w.heap.size w (w.alloc (.cells #[.int .i64 most, .int .i64 opn, .slice a L.length cp] 46)) := (Below.refl _ w).alloc (Nat.le_refl _) _
  have hLs := hL.below hbw
  have SJ := sh hJ
  have SW := sh hbw
  have SL := sh hLs
  have SP := sh hpos
  clear hL hJ hbw hLs hpos
  go_enter Try.func21, Try.ntmps21
  go_wp2_with fail
  have hsz0 : (w.alloc (.cells #[.int .i64 most, .int .i64 opn, .slice a L.length cp] 46)).heap.size = w.heap.size + 1 := by simp
  generalize (w.alloc (.cells #[.int .i64 most, .int .i64 opn, .slice a L.length cp] 46)) = W0 at *
  go_loopw [3] (fun v3 wr => ∃ out : List Int, Sh (Outs L out) ∧ wr.ownsRow (w.heap.size + 1) 3 1 v3 out.length (out.map (Value.int .i64)) ∧ Below (w.heap.size + 1) W0 wr) (fun v3 _ => 2000 - slen v3)
  case atStart => exact ⟨[], ⟨⟨List.Pairwise.nil, by simp, fun p hp hg => by cases hg⟩⟩, own_row_nil _ _ _ _, Below.refl _ _⟩
  case round =>
    obtain ⟨out, HO, ho, hbr⟩ := hrel
    obtain ⟨ao, co, rfl⟩ := own_len ho
    have hol := HO.out.len
    have j2 := (SJ.out.below hbr (by omega)).cell 2
    have hLr := sh (SL.out.below (hbr.mono (by omega)))
    have hbz := hbr.size
    obtain ⟨wo, hwo⟩ : ∃ wo : World, wr = wo := ⟨_, rfl⟩
    subst hwo
    go_wp2_with fail
    go_loopw [4, 5] (fun v4 v5 wi => ∃ (k : Nat) (b : Int), k ≤ L.length ∧ v5 = .int .i64 (k : Int) ∧ v4 = .int .i64 b ∧ Sh (b = best out (-1) (L.take k)) ∧ wi = wr) (fun _ v5 _ => L.length - (RowKit.intOf v5).toNat)
    case atStart => exact ⟨0, -1, by omega, rfl, rfl, ⟨rfl⟩, rfl⟩
    case round =>
      obtain ⟨k, b, hk, rfl, rfl, HB, rfl⟩ := hrel
      by_cases hlt : k < L.length
      · obtain ⟨p, hp⟩ : ∃ p, L[k]? = some p := ⟨_, List.getElem?_eq_getElem hlt⟩
        obtain ⟨g, rfl, hg, a0, a1, a2, a3⟩ := hLr.out.at_ hp
        have hsn := best_snoc out (L.take k) p (-1)
        rw [← take_snoc' hp, ← HB.out] at hsn
        have HS := sh hsn
        clear hsn hp a1 a2 a3
        cases hl : out.getLast? with
        | none =>
          have hgt : gtO out p.1 = true := by unfold gtO; rw [hl]
          have he : out = [] := List.getLast?_eq_none_iff.1 hl
          have bl : ((out.length : Int) == 0) = true := by rw [beq_iff_eq, he]; rfl
          clear hl he
          by_cases g2 : b < 0
          · have HN : Sh (p.1 = best out (-1) (L.take (k + 1))) := ⟨by rw [HS.out, hgt]; simp [g2]⟩
            clear HS hgt
            go_wp2
            go_roundw
            case rel => exact ⟨k + 1, p.1, by omega, by go_num, rfl, HN, by first | trivial | rfl⟩
            case measure => simp [RowKit.intOf]; omega
          · by_cases g3 : p.1 < b
            · have HN : Sh (p.1 = best out (-1) (L.take (k + 1))) := ⟨by rw [HS.out, hgt]; simp [g3]⟩
              clear HS hgt
              go_wp2
              go_roundw
              case rel => exact ⟨k + 1, p.1, by omega, by go_num, rfl, HN, by first | trivial | rfl⟩
              case measure => simp [RowKit.intOf]; omega
            · have HN : Sh (b = best out (-1) (L.take (k + 1))) := ⟨by rw [HS.out, hgt]; simp [g2, g3]⟩
              clear HS hgt
              go_wp2
              go_roundw
              case rel => exact ⟨k + 1, b, by omega, by go_num, rfl, HN, by first | trivial | rfl⟩
              case measure => simp [RowKit.intOf]; omega
        | some y =>
          obtain ⟨go, rfl, hcy, hl1⟩ := own_lastcell ho hl
          have bl : ((out.length : Int) == 0) = false := by rw [beq_eq_false_iff_ne]; omega
          have hq : ((out.length : Int) - 1).toNat = out.length - 1 := by omega
          have hgt : gtO out p.1 = decide (y < p.1) := by unfold gtO; rw [hl]
          clear hl
          by_cases g1 : y < p.1
          · rw [decide_eq_true g1] at hgt
            by_cases g2 : b < 0
            · have HN : Sh (p.1 = best out (-1) (L.take (k + 1))) := ⟨by rw [HS.out, hgt]; simp [g2]⟩
              clear HS hgt
              go_wp2
              go_roundw
              case rel => exact ⟨k + 1, p.1, by omega, by go_num, rfl, HN, by first | trivial | rfl⟩
              case measure => simp [RowKit.intOf]; omega
            · by_cases g3 : p.1 < b
              · have HN : Sh (p.1 = best out (-1) (L.take (k + 1))) := ⟨by rw [HS.out, hgt]; simp [g3]⟩
                clear HS hgt
                go_wp2
                go_roundw
                case rel => exact ⟨k + 1, p.1, by omega, by go_num, rfl, HN, by first | trivial | rfl⟩
                case measure => simp [RowKit.intOf]; omega
              · have HN : Sh (b = best out (-1) (L.take (k + 1))) := ⟨by rw [HS.out, hgt]; simp [g2, g3]⟩
                clear HS hgt
                go_wp2
                go_roundw
                case rel => exact ⟨k + 1, b, by omega, by go_num, rfl, HN, by first | trivial | rfl⟩
                case measure => simp [RowKit.intOf]; omega
          · rw [decide_eq_false g1] at hgt
            have HN : Sh (b = best out (-1) (L.take (k + 1))) := ⟨by rw [HS.out, hgt]; simp⟩
            clear HS hgt
            go_wp2
            go_roundw
            case rel => exact ⟨k + 1, b, by omega, by go_num, rfl, HN, by first | trivial | rfl⟩
            case measure => simp [RowKit.intOf]; omega
      · have hbb := HB.out
        rw [List.take_of_length_le (by omega)] at hbb
        have hlaw := best_law out L SP.out
        rw [← hbb] at hlaw
        have HLw := sh hlaw
        clear hbb hlaw HB
        by_cases g2 : b < 0
        · have HF : Sh (∀ p ∈ L, p.1 ∈ out) := ⟨fun p hp => by
            rcases HLw.out with ⟨_, h2⟩ | ⟨h1, _⟩
            · exact HO.out.low p hp (h2 p hp)
            · omega⟩
          go_wp2_with fail
          go_ret
          exact ⟨_, out, rfl, HO.out, HF.out, ownsRow_low (Nat.le_succ _) ho, SW.out.trans (hbr.mono (Nat.le_succ _))⟩
        · have HO2 : Sh (Outs L (out ++ [b])) := ⟨by
            rcases HLw.out with ⟨h1, _⟩ | ⟨h1, h2, h3, h4⟩
            · omega
            · exact HO.out.snoc h2 h3 h4⟩
          have hol2 := HO2.out.len
          rw [List.length_append] at hol2
          have HC := sh (show out.map (Value.int .i64) ++ [.int .i64 b] = (out ++ [b]).map (Value.int .i64) by simp)
          have HN := sh (show out.length + 1 = (out ++ [b]).length by simp)
          simp only [List.length_cons, List.length_nil] at hol2
          clear HLw
          go_wp2_with (at_builtin; refine wpList_append_own _ rfl _ _ 41 rfl (w.heap.size + 1) 3 i3 (.int .i64 0) 1 8 Try.underlying41 hb0 hb1' hb2 hb3 rfl (by decide) _ _ _ rfl (ho.alloc _) ⟨wr.heap.size, 0, none⟩ 1 1 [.int .i64 b] rfl rfl (cell_one _ _ _) (by simp [Value.oneCell']) (by unfold maxLen; omega) (by omega) (by simp; omega) ?_; intro v2 w2 hown2 hg2 _; have hb2' := below_append (hbr.alloc (by omega) _) (ho.alloc _) (by simp; omega) hg2; rw [HC.out, HN.out] at hown2; obtain ⟨a2, c2, rfl⟩ := own_len hown2)
          go_roundw
          case rel => exact ⟨out ++ [b], HO2, by simpa using hown2, hb2'⟩
          case measure => simp [slen]; omega
end Go.Proofs.Ytoclbcpfiacoaaa
