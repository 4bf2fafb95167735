/- PartsPlays: whatever the limits and whatever is done, the statement returns true. Conditions: none. -/
import Derived.Test.YtoclbcpfiacoaaaPlay3
import Derived.Test.YtoclbcpfiacoaaaRows
import Derived.WalkKit
import Derived.ProofKit
import Derived.OpenShut
import Derived.ChangeOld
import Derived.ShutString
import Derived.SliceStrings
import Derived.Deep.Slices
namespace Go.Proofs.Ytoclbcpfiacoaaa.partsPlays
open Go.ChangeShapes Go.WideShapes Go.ChangeAt Go.RowKit
open Go.ChangeMaps (open_string shut_string)
set_option linter.unusedVariables false
set_option linter.unusedSimpArgs false

theorem cells48 : Try.prog.cellsOf 48 = 5 := by kernel_rfl
theorem cells31 : Try.prog.cellsOf 31 = 4 := by kernel_rfl
theorem cells5 : Try.prog.cellsOf 5 = 1 := by kernel_rfl
theorem cells3 : Try.prog.cellsOf 3 = 1 := by kernel_rfl
theorem cells9 : Try.prog.cellsOf 9 = 1 := by kernel_rfl
theorem five {α : Type} : ∀ {l : List α}, l.length = 5 → ∃ a b c d e, l = [a, b, c, d, e]
  | [a, b, c, d, e], _ => ⟨a, b, c, d, e, rfl⟩
section
variable {H : Type} {enc : TypeId × Value → H} {w : World} {base : Nat} {spare : Nat → Bool} {held : Bool}
theorem ys_at {α : Type} {ys : List α} {n i : Nat} (hl : ys.length = n) (hi : i < n) : ∃ y, ys[i]? = some y := ⟨_, List.getElem?_eq_getElem (by omega)⟩
theorem open_act {fuel : Nat} {cs : List Value} {x : DataW H × List MemPlace} (h : DataW.trod enc Try.prog w base spare held fuel 48 cs = some x) :
    ∃ z : AC, cs = actC z ∧ (Lit.int .u8 z.1).wf = true ∧ (Lit.int .i64 z.2.1).wf = true := by
  obtain ⟨ys, n, _, _, hlen, hyl, hf⟩ := DataW.trod_struct Try.underlying48 h
  rw [cells48] at hlen
  obtain ⟨c0, c1, c2, c3, c4, rfl⟩ := five hlen
  have h0 : DataW.trod enc Try.prog w base spare held n 5 (([c0, c1, c2, c3, c4].drop 0).take (Try.prog.cellsOf 5)) = ys[0]? := hf 0 _ rfl
  have h1 : DataW.trod enc Try.prog w base spare held n 31 (([c0, c1, c2, c3, c4].drop 1).take (Try.prog.cellsOf 31)) = ys[1]? := hf 1 _ rfl
  rw [cells5] at h0
  rw [cells31] at h1
  obtain ⟨y0, hy0⟩ := ys_at hyl (i := 0) (by decide)
  obtain ⟨y1, hy1⟩ := ys_at hyl (i := 1) (by decide)
  rw [hy0] at h0
  rw [hy1] at h1
  obtain ⟨kd, e0, _, w0⟩ := DataW.trod_int Try.underlying5 h0
  obtain ⟨zs, m, _, _, _, hzl, hg⟩ := DataW.trod_struct Try.underlying31 h1
  have g0 : DataW.trod enc Try.prog w base spare held m 3 (([c1, c2, c3, c4].drop 0).take (Try.prog.cellsOf 3)) = zs[0]? := hg 0 _ rfl
  have g1 : DataW.trod enc Try.prog w base spare held m 3 (([c1, c2, c3, c4].drop 1).take (Try.prog.cellsOf 3)) = zs[1]? := hg 1 _ rfl
  have g2 : DataW.trod enc Try.prog w base spare held m 3 (([c1, c2, c3, c4].drop 2).take (Try.prog.cellsOf 3)) = zs[2]? := hg 2 _ rfl
  have g3 : DataW.trod enc Try.prog w base spare held m 9 (([c1, c2, c3, c4].drop 3).take (Try.prog.cellsOf 9)) = zs[3]? := hg 3 _ rfl
  rw [cells3] at g0 g1 g2
  rw [cells9] at g3
  obtain ⟨z0, hz0⟩ := ys_at hzl (i := 0) (by decide)
  obtain ⟨z1, hz1⟩ := ys_at hzl (i := 1) (by decide)
  obtain ⟨z2, hz2⟩ := ys_at hzl (i := 2) (by decide)
  obtain ⟨z3, hz3⟩ := ys_at hzl (i := 3) (by decide)
  rw [hz0] at g0
  rw [hz1] at g1
  rw [hz2] at g2
  rw [hz3] at g3
  obtain ⟨id, e1, _, w1⟩ := DataW.trod_int Try.underlying3 g0
  obtain ⟨nn, e2, _, w2⟩ := DataW.trod_int Try.underlying3 g1
  obtain ⟨of, e3, _, w3⟩ := DataW.trod_int Try.underlying3 g2
  obtain ⟨t, e4, _, w4⟩ := DataW.trod_string Try.underlying9 g3
  simp at e0 e1 e2 e3 e4
  subst e0 e1 e2 e3 e4
  exact ⟨(kd, id, nn, of, t), rfl, w0, w1⟩
theorem open_acts {a : Option Addr} {len cap : Nat} {fuel : Nat} {x : DataW H × List MemPlace} (h : DataW.trod enc Try.prog w base spare held fuel 35 [.slice a len cap] = some x) :
    ∃ Z, IsActs w a len Z ∧ len ≤ maxLen ∧ ∀ z ∈ Z, (Lit.int .u8 z.1).wf = true ∧ (Lit.int .i64 z.2.1).wf = true := by
  rcases Deep.open_slice Try.underlying35 h with ⟨hcs, _⟩ | ⟨b, l, c, m, n, D, Pl, hcs, _, hl, hcm, hm, _, hi⟩
  · simp at hcs
    obtain ⟨rfl, rfl, rfl⟩ := hcs
    exact ⟨[], ⟨rfl, .inl rfl⟩, Nat.zero_le _, by simp⟩
  · simp at hcs
    obtain ⟨rfl, rfl, rfl⟩ := hcs
    have hlm : len ≤ m := by rw [hm]; split <;> omega
    have hz : ∀ i, i < len → ∃ z : AC, (∀ j, j < 5 → w.cell? (b.add (i * 5 + j)) = (actC z)[j]?) ∧ (Lit.int .u8 z.1).wf = true ∧ (Lit.int .i64 z.2.1).wf = true := fun i hil => by
      obtain ⟨cs', hc, ht⟩ := hi i (by omega)
      rw [cells48] at hc
      obtain ⟨_, hcl, hat⟩ := World.cells?_some hc
      obtain ⟨z, rfl, w0, w1⟩ := open_act ht
      refine ⟨z, fun j hj => ?_, w0, w1⟩
      rw [← Deep.add_add]
      exact hat j hj
    obtain ⟨f, hf⟩ : ∃ f : Nat → AC, ∀ i, i < len → (∀ j, j < 5 → w.cell? (b.add (i * 5 + j)) = (actC (f i))[j]?) ∧ (Lit.int .u8 (f i).1).wf = true ∧ (Lit.int .i64 (f i).2.1).wf = true :=
      ⟨fun i => if h : i < len then Classical.choose (hz i h) else (0, 0, 0, 0, ⟨#[]⟩), fun i h => by simp only [dif_pos h]; exact Classical.choose_spec (hz i h)⟩
    refine ⟨(List.range len).map f, ⟨by simp, ?_⟩, by omega, fun z hzm => ?_⟩
    · by_cases h0 : len = 0
      · exact .inl h0
      · refine .inr ⟨b, rfl, ?_, fun i z hzi j hj => ?_⟩
        · have h1 := (hf 0 (by omega)).1 0 (by omega)
          have h2 := World.block_lt_of_cell? w _ h1
          rwa [block_add] at h2
        · have hil : i < len := by have := (List.getElem?_eq_some_iff.1 hzi).1; simpa using this
          rw [List.getElem?_map, List.getElem?_range hil] at hzi
          cases hzi
          exact (hf i hil).1 j hj
    · obtain ⟨i, hi', rfl⟩ := List.mem_map.1 hzm
      exact (hf i (List.mem_range.1 hi')).2
end
theorem plays_walk (most opn : Int) (a : Option Addr) (len cap : Nat) (Z : List AC) (w : World) (hz : IsActs w a len Z) (hlen : len ≤ 9223372036854775807) (hwf : ∀ z ∈ Z, (0 ≤ z.1 ∧ z.1 ≤ 255) ∧ -9223372036854775808 ≤ z.2.1 ∧ z.2.1 ≤ 9223372036854775807) :
    Calls Try.prog 4 #[.int .i64 most, .int .i64 opn, .slice a len cap] w fun e w' => e = .returned (.bool true) ∧ Below w.heap.size w w' := by
  by_cases c1 : (60 : Int) < (len : Int)
  · exact plays_long most opn a len cap w hlen c1
  · by_cases g : 0 ≤ most ∧ most ≤ 1073741824 ∧ 1 ≤ opn ∧ opn ≤ 32
    · exact plays_loop most opn a len cap Z w hz hwf c1 ⟨g.1, g.2.1⟩ g.2.2
    · exact plays_nil most opn a len cap w hlen c1 g
theorem own : ownKnob Try.prog.godebug = none := by kernel_rfl
theorem laidOut : laidOutB Try.prog = true := by kernel_rfl

set_option maxRecDepth 100000 in
theorem lifted (os : Os) (started : os.Started) (H : Type) (enc : TypeId × Value → H) :
    ReturnsInHanded {} Try.checked os 4 .any (Rows.partsPlaysSpec.pre6 enc Try.prog Try.f4 Rows.partsPlaysRow.domain false) (Rows.partsPlaysSpec.post enc Try.prog Try.f4 false true false false) := by
  refine returnsInHanded_of_change (C := Try.checked) own started (by kernel_rfl) Try.func4
    (ChangeSpec.witness6 (enc := enc) (C := Try.checked) false ⟨#[], #[.int .i64 0, .int .i64 0, .slice none 0 0], []⟩ 8 (by kernel_rfl) (by kernel_rfl) (by kernel_rfl) (by kernel_rfl)) ?_
  intro W base args ds gs before hval0 hW hcnd _
  have hval : ∀ (j : Nat) t v, Try.f4.params[j]? = some t → args[j]? = some v → Value.okWide Try.prog W .any base t v := hval0
  have hW' := hW
  obtain ⟨p, q, hA0, hV, rfl, hfz, hnd⟩ := hW
  have hA : DataW.TrodAll enc Try.prog W 0 (fun _ => true) true Try.f4.params.toList args.toList ds p := hA0
  rw [Try.params4] at hA hval
  obtain ⟨v0, vs0, d0, ds0, p0, q0, hargs, rfl, rfl, h0, r0⟩ := trodAll_cons hA
  obtain ⟨v1, vs1, d1, ds1, p1, q1, rfl, rfl, rfl, h1, r1⟩ := trodAll_cons r0
  obtain ⟨v2, vs2, d2, ds2, p2, q2, rfl, rfl, rfl, h2, r2⟩ := trodAll_cons r1
  obtain ⟨rfl, rfl, rfl⟩ := trodAll_nil r2
  obtain rfl : args = #[v0, v1, v2] := by cases args; simp_all
  obtain ⟨rfl, rfl⟩ := trodVars_none hV
  obtain ⟨a0, rfl, rfl, rfl, w0⟩ := open_int Try.underlying3 (hval 0 3 v0 rfl rfl) h0
  obtain ⟨a1, rfl, rfl, rfl, w1⟩ := open_int Try.underlying3 (hval 1 3 v1 rfl rfl) h1
  obtain ⟨a2, len2, cap2, rfl⟩ := okWide_slice Try.underlying35 (hval 2 35 v2 rfl rfl)
  have k2 := h2
  have lt2 : ∀ x ∈ p2, x.block < W.heap.size := by obtain ⟨m, hm⟩ := k2; exact DataW.trod_lt m _ _ _ hm
  obtain ⟨Z, hZ, hml, hzw⟩ : ∃ Z, IsActs W a2 len2 Z ∧ len2 ≤ maxLen ∧ ∀ z ∈ Z, (Lit.int .u8 z.1).wf = true ∧ (Lit.int .i64 z.2.1).wf = true := by
    obtain ⟨fuel, hf⟩ := h2
    exact open_acts (by simpa [Value.cells] using hf)
  clear hA0 hval0
  refine (plays_walk a0 a1 a2 len2 cap2 Z W hZ (by unfold maxLen at hml; exact hml) (fun z hz => ⟨wf_u8 (hzw z hz).1, wf_i64 (hzw z hz).2⟩)).mono fun e W' ⟨he, bel⟩ => ?_
  subst he
  exact ⟨_, rfl, _, _, _, [], _, [], hW', trodAll_mk1 (shut_bool Try.underlying4 _), (trodAll_cons_mk (shut_int Try.underlying3 w0) (trodAll_cons_mk (shut_int Try.underlying3 w1) (trodAll_cons_mk (Below.trod laidOut (by kernel_rfl) (of_decide_eq_true (by kernel_rfl)) k2 bel lt2) trodAll_mk0))), rfl, bel.frame _, fun h => by cases h⟩

theorem over : Rows.partsPlaysRow.holds Try.pinned (OpenSpec.ofChange Rows.partsPlaysSpec) :=
  OpenClaim.holds_of_wide 4 Try.f4 rfl rfl rfl rfl rfl rfl rfl ⟨rfl, rfl, rfl, rfl, rfl⟩ rfl rfl rfl rfl rfl (by kernel_rfl) Try.func4 (by kernel_rfl)
    (of_decide_eq_true (by kernel_rfl)) (by unfold Func.isWrapper; first | (rw [if_pos (by decide +kernel)]; kernel_rfl) | (rw [if_neg (by decide +kernel)]; exact ⟨rfl, rfl⟩))
    (fun os started H enc _ => lifted os started H enc)

/-- ████ THE STATEMENT ████ -/
theorem proved : Rows.PartsPlaysSaid :=
  over
#print axioms proved
end Go.Proofs.Ytoclbcpfiacoaaa.partsPlays
