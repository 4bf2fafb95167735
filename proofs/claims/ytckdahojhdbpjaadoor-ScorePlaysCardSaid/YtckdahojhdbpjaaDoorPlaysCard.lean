/- ScorePlays: whatever the limits and whatever is done, the statement returns true, and its arguments read afterwards as they read before.
   Conditions: none beyond the card's own: the package-level table score.points holds what the program's text lays (the tie is given). -/
import Derived.Test.YtckdahojhdbpjaaDoorPly3
import Derived.Test.YtckdahojhdbpjaaDoorCards
import Derived.Test.YtckdahojhdbpjaaDoorTie
import Derived.WalkKit
import Derived.ProofKit
import Derived.OpenShut
import Derived.ChangeOld
import Derived.Deep.DeepHandedRow
import Derived.Lib.LaidTab
import Derived.SliceStrings
import Derived.Deep.Slices
namespace Go.Proofs.YtckdahojhdbpjaaDoor.scorePlays
open Go.ChangeShapes Go.WideShapes Go.ChangeAt Go.RowKit
set_option linter.unusedVariables false

theorem u8_of {n : Int} (h : (Lit.int .u8 n).wf = true) : 0 ≤ n ∧ n ≤ 255 := by simpa [Lit.wf, IntKind.min, IntKind.max, IntKind.signed, IntKind.bits] using h
theorem cells45 : Tryd.prog.cellsOf 45 = 4 := by kernel_rfl
theorem cells5 : Tryd.prog.cellsOf 5 = 1 := by kernel_rfl
theorem cells9 : Tryd.prog.cellsOf 9 = 1 := by kernel_rfl
theorem cells2 : Tryd.prog.cellsOf 2 = 1 := by kernel_rfl
theorem cells27 : Tryd.prog.cellsOf 27 = 1 := by kernel_rfl
theorem four {α : Type} : ∀ {l : List α}, l.length = 4 → ∃ a b c d, l = [a, b, c, d]
  | [a, b, c, d], _ => ⟨a, b, c, d, rfl⟩
section
variable {H : Type} {enc : TypeId × Value → H} {w : World} {base : Nat} {spare : Nat → Bool} {held : Bool}
theorem ys_at {α : Type} {ys : List α} {n i : Nat} (hl : ys.length = n) (hi : i < n) : ∃ y, ys[i]? = some y := ⟨_, List.getElem?_eq_getElem (by omega)⟩
theorem open_act {fuel : Nat} {cs : List Value} {x : DataW H × List MemPlace} (h : DataW.trod enc Tryd.prog w base spare held fuel 45 cs = some x) :
    ∃ z : AC, cs = actC z ∧ (Lit.int .u8 z.1).wf = true ∧ z.2.1.size ≤ maxLen := by
  obtain ⟨ys, n, _, _, hlen, hyl, hf⟩ := DataW.trod_struct Tryd.underlying45 h
  rw [cells45] at hlen
  obtain ⟨c0, c1, c2, c3, rfl⟩ := four hlen
  have h0 : DataW.trod enc Tryd.prog w base spare held n 5 (([c0, c1, c2, c3].drop 0).take (Tryd.prog.cellsOf 5)) = ys[0]? := hf 0 _ rfl
  have h1 : DataW.trod enc Tryd.prog w base spare held n 9 (([c0, c1, c2, c3].drop 1).take (Tryd.prog.cellsOf 9)) = ys[1]? := hf 1 _ rfl
  have h2 : DataW.trod enc Tryd.prog w base spare held n 2 (([c0, c1, c2, c3].drop 2).take (Tryd.prog.cellsOf 2)) = ys[2]? := hf 2 _ rfl
  have h3 : DataW.trod enc Tryd.prog w base spare held n 27 (([c0, c1, c2, c3].drop 3).take (Tryd.prog.cellsOf 27)) = ys[3]? := hf 3 _ rfl
  rw [cells5] at h0
  rw [cells9] at h1
  rw [cells2] at h2
  rw [cells27] at h3
  obtain ⟨y0, hy0⟩ := ys_at hyl (i := 0) (by decide)
  obtain ⟨y1, hy1⟩ := ys_at hyl (i := 1) (by decide)
  obtain ⟨y2, hy2⟩ := ys_at hyl (i := 2) (by decide)
  obtain ⟨y3, hy3⟩ := ys_at hyl (i := 3) (by decide)
  rw [hy0] at h0
  rw [hy1] at h1
  rw [hy2] at h2
  rw [hy3] at h3
  obtain ⟨kd, e0, _, w0⟩ := DataW.trod_int Tryd.underlying5 h0
  obtain ⟨t, e1, _, w1⟩ := DataW.trod_string Tryd.underlying9 h1
  obtain ⟨nw, e2, _, w2⟩ := DataW.trod_int Tryd.underlying2 h2
  obtain ⟨er, e3, _, w3⟩ := DataW.trod_int Tryd.underlying27 h3
  simp at e0 e1 e2 e3
  subst e0 e1 e2 e3
  exact ⟨(kd, t, nw, er), rfl, w0, w1⟩
theorem open_acts {a : Option Addr} {len cap : Nat} {fuel : Nat} {x : DataW H × List MemPlace} (h : DataW.trod enc Tryd.prog w base spare held fuel 37 [.slice a len cap] = some x) :
    ∃ Z, IsActs w a len Z ∧ len ≤ maxLen ∧ ∀ z ∈ Z, (Lit.int .u8 z.1).wf = true ∧ z.2.1.size ≤ maxLen := by
  rcases Deep.open_slice Tryd.underlying37 h with ⟨hcs, _⟩ | ⟨b, l, c, m, n, D, Pl, hcs, _, hl, hcm, hm, _, hi⟩
  · simp at hcs
    obtain ⟨rfl, rfl, rfl⟩ := hcs
    exact ⟨[], ⟨rfl, .inl rfl⟩, Nat.zero_le _, by simp⟩
  · simp at hcs
    obtain ⟨rfl, rfl, rfl⟩ := hcs
    have hlm : len ≤ m := by rw [hm]; split <;> omega
    have hz : ∀ i, i < len → ∃ z : AC, (∀ j, j < 4 → w.cell? (b.add (i * 4 + j)) = (actC z)[j]?) ∧ (Lit.int .u8 z.1).wf = true ∧ z.2.1.size ≤ maxLen := fun i hil => by
      obtain ⟨cs', hc, ht⟩ := hi i (by omega)
      rw [cells45] at hc
      obtain ⟨_, hcl, hat⟩ := World.cells?_some hc
      obtain ⟨z, rfl, w0, w1⟩ := open_act ht
      refine ⟨z, fun j hj => ?_, w0, w1⟩
      rw [← Deep.add_add]
      exact hat j hj
    obtain ⟨f, hf⟩ : ∃ f : Nat → AC, ∀ i, i < len → (∀ j, j < 4 → w.cell? (b.add (i * 4 + j)) = (actC (f i))[j]?) ∧ (Lit.int .u8 (f i).1).wf = true ∧ (f i).2.1.size ≤ maxLen :=
      ⟨fun i => if h : i < len then Classical.choose (hz i h) else (0, ⟨#[]⟩, 0, 0), fun i h => by simp only [dif_pos h]; exact Classical.choose_spec (hz i h)⟩
    refine ⟨(List.range len).map f, ⟨by simp, ?_⟩, by omega, fun z hzm => ?_⟩
    · by_cases h0 : len = 0
      · exact .inl h0
      · refine .inr ⟨b, rfl, ?_, fun i z hzi j hj => ?_⟩
        · have h1 := (hf 0 (by omega)).1 0 (by omega)
          have h2 := World.block_lt_of_cell? w _ h1
          rwa [add_block] at h2
        · have hil : i < len := by have := (List.getElem?_eq_some_iff.1 hzi).1; simpa using this
          rw [List.getElem?_map, List.getElem?_range hil] at hzi
          cases hzi
          exact (hf i hil).1 j hj
    · obtain ⟨i, hi', rfl⟩ := List.mem_map.1 hzm
      exact (hf i (List.mem_range.1 hi')).2
end
theorem plays_walk (lim hal ban : Int) (a : Option Addr) (len cap : Nat) (Z : List AC) (w : World) (hT : Tab w) (h0 : 0 < w.heap.size) (hz : IsActs w a len Z) (hlen : len ≤ 9223372036854775807) (hwf : ∀ z ∈ Z, (0 ≤ z.1 ∧ z.1 ≤ 255)) (hsz : ∀ z ∈ Z, z.2.1.size ≤ 9223372036854775807) :
    Calls Tryd.prog 5 #[.int .i64 lim, .int .i64 hal, .int .i64 ban, .slice a len cap] w fun e w' => e = .returned (.bool true) ∧ Below w.heap.size w w' := by
  by_cases c1 : (80 : Int) < (len : Int)
  · exact plays_long lim hal ban a len cap w hT h0 hlen c1
  · cases hr : rightB lim hal ban with
    | true => exact plays_loop lim hal ban a len cap Z w hT h0 hz hwf hsz c1 hr
    | false => exact plays_nil lim hal ban a len cap w hT h0 hlen c1 hr
theorem own : ownKnob Tryd.prog.godebug = none := by kernel_rfl
theorem laidOut : laidOutB Tryd.prog = true := by kernel_rfl
theorem gTab : Tryd.prog.globalNamed "hatchway/score.points" = some 0 := by kernel_rfl
theorem gTabType : (Tryd.prog.globals[0]?).map (·.type) = some 71 := by kernel_rfl
theorem cells71 : Tryd.prog.cellsOf 71 = 13 := by kernel_rfl
theorem cells3 : Tryd.prog.cellsOf 3 = 1 := by kernel_rfl

theorem table {W : World} (h : laidMetH Tryd.prog Rows.scorePlaysRow.laid W) : Lib.TabIs Tryd.prog W "hatchway/score.points" .i64 tabZ :=
  Lib.tabIs_of_head (rest := []) gTab gTabType Tryd.underlying71 Tryd.underlying3 cells3 cells71 h
theorem tab_of {W : World} (h : laidMetH Tryd.prog Rows.scorePlaysRow.laid W) : Tab W := fun i hi => by
  have := (table h).cell gTab i (by simpa [tabZ] using hi)
  simpa using this

/-- WHAT THE WALK GIVES, FOR EVERY ARGUMENT AND EVERY WORLD THAT HOLDS THE TABLE. -/
theorem contract (H : Type) (enc : TypeId × Value → H) (W : World) (base : Nat) (args : Array Value) (ds gs : List (DataW H)) (before : List MemPlace)
    (hval : ∀ (j : Nat) t v, Tryd.f5.params[j]? = some t → args[j]? = some v → Value.okWide Tryd.prog W .any base t v)
    (hW : DataW.Whole enc Tryd.prog Tryd.f5.params.toList Rows.scorePlaysSpec.vars false W args.toList ds gs before) (hL : laidMetH Tryd.prog Rows.scorePlaysRow.laid W) :
    Calls Tryd.prog 5 args W fun e W' => ∃ v, e = .returned v ∧ Rows.scorePlaysSpec.post enc Tryd.prog Tryd.f5 false true false false W args v W' := by
  have hW' := hW
  obtain ⟨p, q, hA0, hV, rfl, hfz, hnd⟩ := hW
  have hA : DataW.TrodAll enc Tryd.prog W 0 (fun _ => true) true Tryd.f5.params.toList args.toList ds p := hA0
  rw [Tryd.params5] at hA hval
  obtain ⟨v0, vs0, d0, ds0, p0, q0, hargs, rfl, rfl, h0, r0⟩ := trodAll_cons hA
  obtain ⟨v1, vs1, d1, ds1, p1, q1, rfl, rfl, rfl, h1, r1⟩ := trodAll_cons r0
  obtain ⟨v2, vs2, d2, ds2, p2, q2, rfl, rfl, rfl, h2, r2⟩ := trodAll_cons r1
  obtain ⟨v3, vs3, d3, ds3, p3, q3, rfl, rfl, rfl, h3, r3⟩ := trodAll_cons r2
  obtain ⟨rfl, rfl, rfl⟩ := trodAll_nil r3
  obtain rfl : args = #[v0, v1, v2, v3] := by cases args; simp_all
  obtain ⟨rfl, rfl⟩ := trodVars_none hV
  obtain ⟨a0, rfl, rfl, rfl, w0⟩ := open_int Tryd.underlying3 (hval 0 3 v0 rfl rfl) h0
  obtain ⟨a1, rfl, rfl, rfl, w1⟩ := open_int Tryd.underlying2 (hval 1 2 v1 rfl rfl) h1
  obtain ⟨a2, rfl, rfl, rfl, w2⟩ := open_int Tryd.underlying2 (hval 2 2 v2 rfl rfl) h2
  obtain ⟨a3, len3, cap3, rfl⟩ := okWide_slice Tryd.underlying37 (hval 3 37 v3 rfl rfl)
  have k3 := h3
  have lt3 : ∀ x ∈ p3, x.block < W.heap.size := by obtain ⟨m, hm⟩ := k3; exact DataW.trod_lt m _ _ _ hm
  obtain ⟨Z, hZ, hml, hzw⟩ : ∃ Z, IsActs W a3 len3 Z ∧ len3 ≤ maxLen ∧ ∀ z ∈ Z, (Lit.int .u8 z.1).wf = true ∧ z.2.1.size ≤ maxLen := by
    obtain ⟨fuel, hf⟩ := h3
    exact open_acts (by simpa [Value.cells] using hf)
  clear hA0
  have hT := tab_of hL
  have hw0 : 0 < W.heap.size := World.block_lt_of_cell? W _ (hT 0 (by omega))
  refine (plays_walk a0 a1 a2 a3 len3 cap3 Z W hT hw0 hZ (by unfold maxLen at hml; exact hml) (fun z hz => u8_of (hzw z hz).1) (fun z hz => by have := (hzw z hz).2; unfold maxLen at this; exact this)).mono fun e W' ⟨he, bel⟩ => ?_
  subst he
  exact ⟨_, rfl, _, _, _, [], _, [], hW', trodAll_mk1 (shut_bool Tryd.underlying4 _), (trodAll_cons_mk (shut_int Tryd.underlying3 w0) (trodAll_cons_mk (shut_int Tryd.underlying2 w1) (trodAll_cons_mk (shut_int Tryd.underlying2 w2) (trodAll_cons_mk (Below.trod laidOut (by kernel_rfl) (of_decide_eq_true (by kernel_rfl)) k3 bel lt3) trodAll_mk0)))), rfl, bel.frame _, fun h => by cases h⟩

/-- A WORLD FOR THE WITNESS: the settled one, the table (block 0) holding what its initialiser lays. -/
noncomputable def laidWorld (os : Os) : World :=
  { World.holding Tryd.prog os ⟨#[], #[], []⟩ with heap := (World.holding Tryd.prog os ⟨#[], #[], []⟩).heap.modify 0 fun
      | .cells _ t frozen => .cells #[.int .i64 0, .int .i64 0, .int .i64 0, .int .i64 20, .int .i64 50, .int .i64 50, .int .i64 50, .int .i64 0, .int .i64 0, .int .i64 100, .int .i64 10, .int .i64 1, .int .i64 20] t frozen
      | o => o }
def wit : Array Value := #[.int .i64 0, .int .i64 0, .int .i64 0, .slice none 0 0]
theorem laid_met (os : Os) : laidMet Tryd.prog Rows.scorePlaysRow.laid ((laidWorld os).forCall (fun _ _ => 0) ⟨#[], wit, []⟩).memory :=
  laidMet_of_run' 8 (by kernel_rfl) (by kernel_rfl)
theorem reads (os : Os) {H : Type} (enc : TypeId × Value → H) : ∃ places, DataW.whole enc Tryd.prog ((laidWorld os).forCall (fun _ _ => 0) ⟨#[], wit, []⟩).memory Tryd.f5.params.toList Rows.scorePlaysSpec.vars false wit.toList 8 = some ([.lit (.int .i64 0), .lit (.int .i64 0), .lit (.int .i64 0), .nil], [], places) :=
  ⟨[], by kernel_rfl⟩

set_option maxRecDepth 100000 in
theorem lifted (os : Os) (started : os.Started) (H : Type) (enc : TypeId × Value → H) (F : Stop.Interp) :
    ReturnsInHanded {} Tryd.checked os 5 .any ((OpenSpec.ofChange Rows.scorePlaysSpec).preRow enc Tryd.prog Tryd.f5 Rows.scorePlaysRow.domain false Rows.scorePlaysRow.laid) (((OpenSpec.ofChange Rows.scorePlaysSpec).at F).post enc Tryd.prog Tryd.f5 false true false false) := by
  obtain ⟨places, hx⟩ := reads os enc
  refine returnsInHanded_of_row (C := Tryd.checked) (s := OpenSpec.ofChange Rows.scorePlaysSpec) own started (by kernel_rfl) Tryd.func5
    (witness_row_at (enc := enc) (C := Tryd.checked) false (laidWorld os) wit rfl (by kernel_rfl) (by kernel_rfl) (by kernel_rfl)
      (OpenSpec.preRow_of_cond 8 hx (by kernel_rfl) (fun k hk => by cases hk) (by kernel_rfl) (laid_met os))) ?_
  intro W base args ds gs before hval hW _ _ _ hL _ _
  exact contract H enc W base args ds gs before hval hW hL

theorem said : Rows.ScorePlaysSaid :=
  OpenClaim.holds_of_cond 5 Tryd.f5 rfl rfl rfl rfl rfl rfl rfl ⟨rfl, rfl, rfl, rfl, rfl⟩ rfl rfl rfl rfl rfl (by kernel_rfl) Tryd.func5 (by kernel_rfl)
    (of_decide_eq_true (by kernel_rfl)) (by unfold Func.isWrapper; first | (rw [if_pos (by decide +kernel)]; kernel_rfl) | (rw [if_neg (by decide +kernel)]; exact ⟨rfl, rfl⟩))
    (fun os started H enc _ F => by rw [OpenClaim.pre_eq_preRow]; exact lifted os started H enc F)

/-- No parameter wants a stand-in; the program's own looks are off: what the card asks. -/
theorem plain (f : FuncId) (fn : Func) (hf : Tryd.pinned.checked.prog.funcNamed "hatchway/hatchwaylaw29.ScorePlays" = some f) (hfn : Tryd.pinned.checked.prog.funcs[f]? = some fn) :
    false = Tryd.pinned.checked.prog.looks [] ∧ ∀ (j : Nat) t, fn.params[j]? = some t → Tryd.pinned.checked.prog.wantsStandIn t = false := by
  obtain rfl : f = 5 := Option.some.inj ((show Tryd.prog.funcNamed "hatchway/hatchwaylaw29.ScorePlays" = some 5 by kernel_rfl).symm.trans hf) |>.symm
  obtain rfl : fn = Tryd.f5 := (Option.some.inj (Tryd.func5.symm.trans hfn)).symm
  refine ⟨by kernel_rfl, fun j t ht => ?_⟩
  rw [Tryd.params5] at ht
  have hm : t ∈ #[3, 2, 2, 37] := Array.mem_of_getElem? ht
  have hcase : t = 3 ∨ t = 2 ∨ t = 37 := by
    simp at hm
    omega
  rcases hcase with rfl | rfl | rfl
  · exact (show Tryd.prog.wantsStandIn 3 = false by kernel_rfl)
  · exact (show Tryd.prog.wantsStandIn 2 = false by kernel_rfl)
  · exact (show Tryd.prog.wantsStandIn 37 = false by kernel_rfl)

/-- ████ THE CARD ████ -/
theorem card : Rows.ScorePlaysCardSaid :=
  Claim7.holds_tied_plain_at .later [] _ _ _ _ said (fun _ h => by cases h) (by kernel_rfl) (fun _ h => by cases h) scorePlays_row_tie rfl ⟨rfl, rfl⟩ (by kernel_rfl) rfl plain (by kernel_rfl)
#print axioms card
end Go.Proofs.YtckdahojhdbpjaaDoor.scorePlays
