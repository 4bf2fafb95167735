/- hexes.Dump of at most sixteen bytes; the document's example. -/
import Derived.Test.YtlmddmkobhkndaaLine
namespace Go.Proofs.Ytlmddmkobhkndaa
set_option linter.unusedVariables false
set_option linter.unusedSimpArgs false
open Go.RowKit Go.Shelf
attribute [local go_sem] Oper.semAt_some

theorem bf_kept {A A' : World} {row : Option Nat} {B b M : Nat} {bs : List Value} (h : Lib.IsBuilderF 42 5 B b bs A) (hg : A.grownBy A' row) (hr : ∀ r, row = some r → M ≤ r ∧ ∃ o : Obj, A.heap[r]? = some o ∧ o.isCells = false) : Lib.IsBuilderF 42 5 B b bs A' := by
  have one : ∀ p, Lib.BuilderAtF 42 5 B b p bs A → Lib.BuilderAtF 42 5 B b p bs A' := by
    rintro p ⟨hB, v, hb, hown, hne⟩
    refine ⟨hB, v, ?_, hown.kept hg ?_, hne⟩
    · rw [hg.block b (bk_lt hb) (fun e => by
        obtain ⟨_, o, ho, hc⟩ := hr b e.symm
        rw [hb] at ho; cases ho; cases hc)]
      exact hb
    · rcases hown.2 with ⟨rfl, _⟩ | ⟨g, cap, cur, fz, rfl, _, hgb, _⟩
      · exact .inl rfl
      · refine .inr fun e' => ?_
        obtain ⟨_, o, ho, hc⟩ := hr g (by simpa [Value.ownBlock] using e'.symm)
        rw [hgb] at ho; cases ho; cases hc
  exact h.elim (fun x => .inl (one _ x)) (fun x => .inr (one _ x))
theorem bf_put {A : World} {B b j : Nat} {t : TypeId} {u v : Value} {bs : List Value} (h : Lib.IsBuilderF 42 5 B b bs A) (hb : Boxed A j t u) (ht : t ≠ 42) (ht5 : t ≠ 5) : Lib.IsBuilderF 42 5 B b bs (A.setCell ⟨j, 0, none⟩ v) := by
  have hg := grownBy_setCell' A j v
  have one : ∀ p, Lib.BuilderAtF 42 5 B b p bs A → Lib.BuilderAtF 42 5 B b p bs (A.setCell ⟨j, 0, none⟩ v) := by
    rintro p ⟨hB, x, hbk, hown, hne⟩
    refine ⟨hB, x, ?_, hown.kept hg ?_, hne⟩
    · rw [hg.block b (bk_lt hbk) (fun e => by
        obtain rfl : b = j := Option.some.inj e
        rw [show A.heap[b]? = _ from hb] at hbk
        cases hbk)]
      exact hbk
    · rcases hown.2 with ⟨rfl, _⟩ | ⟨g, cap, cur, fz, rfl, _, hgb, _⟩
      · exact .inl rfl
      · refine .inr fun e' => ?_
        obtain rfl : g = j := by simpa [Value.ownBlock] using e'
        rw [show A.heap[g]? = _ from hb] at hgb
        cases hgb; exact ht5 rfl
  exact h.elim (fun x => .inl (one _ x)) (fun x => .inr (one _ x))
theorem others_boxed {A A' : World} {b j : Nat} {t : TypeId} {v : Value} (h : Lib.OthersKept 5 (some b) A A') (hb : Boxed A j t v) (hj : j ≠ b) (ht : t ≠ 5) : Boxed A' j t v :=
  h j _ hb (fun e => hj (Option.some.inj e)) (fun c fz e => by cases e; exact ht rfl)
theorem others_keeps {A A' : World} {b : Nat} {c : Array Value} {tb : TypeId} {fz : Nat × Nat} (h : Lib.OthersKept 5 (some b) A A') (hsz : A.heap.size ≤ A'.heap.size) (hb : A.heap[b]? = some (.cells c tb fz)) : KeepsOthers A A' :=
  ⟨hsz, fun k o hk ho => h k o hk (fun e => by obtain rfl : k = b := Option.some.inj e; rw [hb] at hk; cases hk; cases ho) (fun c fz e => by subst e; cases ho)⟩
theorem bf_block {A : World} {B b : Nat} {bs : List Value} (h : Lib.IsBuilderF 42 5 B b bs A) : ∃ c, A.heap[b]? = some (.cells c 42 (0, 0)) := by
  rcases h with ⟨_, v, hb, _⟩ | ⟨_, v, hb, _⟩ <;> exact ⟨_, hb⟩
theorem strCells_str (l : List UInt8) : Lib.strCells (str l) = Lib.byteCells l := by simp [Lib.strCells, Lib.byteCells, str]
theorem lineL_len (l : List UInt8) (h : l.length ≤ 16) : (lineL l).length ≤ 1000 := by
  unfold lineL
  have : ∀ l : List UInt8, (l.flatMap (fun b => 32 :: hex2 b)).length = 3 * l.length := by
    intro l
    induction l with
    | nil => rfl
    | cons b l ih => rw [List.flatMap_cons, List.length_append, ih]; simp [hex2]; omega
  simp only [List.length_append, this, List.length_map, List.length_cons, List.length_nil]
  omega
set_option maxRecDepth 100000 in
set_option maxHeartbeats 2000000 in
theorem dump16 (s : ByteArray) (hs1 : 1 ≤ s.size) (hs : s.size ≤ 16) (w : World) : Calls Try.prog 16 #[.string s] w fun e w' => e = .returned (.string (str (lineL (lst s)))) ∧ Below w.heap.size w w' := by
  refine (callsIn_wide (n := 6)).1 ?_
  refine callsIn_of_wp_marks Try.func16 rfl trivial ?_ rfl
  simp only [Try.ntmps16, List.size_toArray, List.length_cons, List.length_nil, Nat.reduceAdd, Nat.reduceSub, Array.replicate_succ, Array.replicate_zero, List.push_toArray, List.append_toArray, List.nil_append, List.cons_append]
  have HL := sh (size_lst s)
  have HF0 : Lib.IsBuilderF 42 5 w.heap.size w.heap.size (Lib.byteCells []) (w.alloc (.cells #[.pointer none, .slice none 0 0] 42)) := Lib.IsBuilderF.of (Lib.fresh_isBuilder 42 5 w)
  obtain ⟨cap, w3, hcv, hsz3, hb3, hcell3, hcap, hcapm⟩ := conv_bytes (P := Try.prog) Try.underlying9 Try.underlying40 Try.underlying5 ((w.alloc (.cells #[.pointer none, .slice none 0 0] 42)).alloc (.cells #[.int .i64 0] 3)) s
  simp only [World.size_alloc] at hsz3 hb3 hcell3
  gi_wp2_with (refine ⟨trivial, ?_⟩; gi_at_call 19; refine (chunk_call Fence.wide _ trivial rfl _ _ _ 16 (by decide) _).mono ?_; rintro e w' ⟨rfl, rfl⟩)
  have hg3 : World.grownBy ((w.alloc (.cells #[.pointer none, .slice none 0 0] 42)).alloc (.cells #[.int .i64 0] 3)) w3 none := ⟨hb3.os, hb3.tape, hb3.output, hb3.size, fun k hk _ => hb3.block k (by simpa using hk)⟩
  have hF3 : Lib.IsBuilderF 42 5 w.heap.size w.heap.size (Lib.byteCells []) w3 := bf_kept (M := 0) (HF0.alloc _) hg3 (fun r e => by cases e)
  have bA : Boxed w3 (w.heap.size + 1) 3 (.int .i64 0) := (by have h := Boxed.new (w.alloc (.cells #[.pointer none, .slice none 0 0] 42)) 3 (.int .i64 0); rw [World.size_alloc] at h; exact h : Boxed ((w.alloc (.cells #[.pointer none, .slice none 0 0] 42)).alloc (.cells #[.int .i64 0] 3)) (w.heap.size + 1) 3 (.int .i64 0)).kept hg3 (by simp)
  have hBw : Below w.heap.size w w3 := (((Below.refl _ w).alloc (Nat.le_refl _) _).alloc (by simp) _).trans (hb3.mono (by omega))
  have bS := Boxed.new w3 40 (.slice (some ⟨w.heap.size + 1 + 1, 0, none⟩) s.size cap)
  have bN := Boxed.new (w3.alloc (.cells #[.slice (some ⟨w.heap.size + 1 + 1, 0, none⟩) s.size cap] 40)) 3 (.int .i64 16)
  rw [World.size_alloc] at bN
  rw [hsz3] at bS bN
  obtain ⟨W0, hW0⟩ : ∃ W0, (w3.alloc (.cells #[.slice (some ⟨w.heap.size + 1 + 1, 0, none⟩) s.size cap] 40)).alloc (.cells #[.int .i64 16] 3) = W0 := ⟨_, rfl⟩
  have hsz0 : W0.heap.size = w.heap.size + 1 + 1 + 1 + 1 + 1 := by rw [← hW0]; simp; omega
  have cF : Lib.IsBuilderF 42 5 w.heap.size w.heap.size (Lib.byteCells []) W0 := by rw [← hW0]; exact (hF3.alloc _).alloc _
  have cA : Boxed W0 (w.heap.size + 1) 3 (.int .i64 0) := by rw [← hW0]; exact (bA.alloc _).alloc _
  have cS : Boxed W0 (w.heap.size + 1 + 1 + 1) 40 (.slice (some ⟨w.heap.size + 1 + 1, 0, none⟩) s.size cap) := by rw [← hW0]; exact bS.alloc _
  have cN : Boxed W0 (w.heap.size + 1 + 1 + 1 + 1) 3 (.int .i64 16) := by rw [← hW0]; exact bN
  have cB : ∀ j b, (lst s)[j]? = some b → W0.cell? ⟨w.heap.size + 1 + 1, j, none⟩ = some (.int .u8 (b.toNat : Int)) := fun j b hj => by
    rw [← hW0]
    exact ((((Below.refl _ w3).alloc (Nat.le_refl _) _).alloc (by simp) _).cell (p := ⟨w.heap.size + 1 + 1, j, none⟩) (by simp; omega)).trans (hcell3 j b hj)
  have hBW0 : Below w.heap.size w W0 := by rw [← hW0]; exact (hBw.alloc (by omega) _).alloc (by simp; omega) _
  rw [hW0]
  clear bA bS bN hBw hcell3 hb3 hcv hg3 hF3 HF0 hW0
  generalize hN : w.heap.size = N at *
  refine wpIn_rangeFunc_ownG rfl (by decide) (gf := 37) (lb := #[.pointer (some ⟨N + 1 + 1 + 1, 0, none⟩), .pointer (some ⟨N + 1 + 1 + 1 + 1, 0, none⟩)]) rfl trivial (enters_of Try.func37 (by kernel_rfl) rfl)
    (chunk_stops Fence.wide _ trivial rfl (by decide) (N + 1 + 1 + 1) (N + 1 + 1 + 1 + 1) (N + 1 + 1 + 1) (N + 1 + 1 + 1 + 1 + 1) (N + 1 + 1) s.size cap 16 (by decide) (by decide) (by omega) hcap (by omega) (by omega) (by omega) (by omega) 1 (fun k hk => by omega) W0 (by omega) cS.cell cN.cell)
    kpC_t (kpC_b (by omega)) (Below.refl _ _) (fun _ => rfl)
    (fun pre W => ((strt pre = [] ∧ Lib.IsBuilderF 42 5 N N (Lib.byteCells []) W ∧ Boxed W (N + 1) 3 (.int .i64 0) ∧ (∀ j b, (lst s)[j]? = some b → W.cell? ⟨N + 1 + 1, j, none⟩ = some (.int .u8 (b.toNat : Int)))) ∨ (∃ x, strt pre = [x] ∧ Lib.IsBuilderF 42 5 N N (Lib.byteCells (lineL ((lst s).drop x))) W)) ∧
      (Boxed W (N + 1 + 1 + 1) 40 (.slice (some ⟨N + 1 + 1, 0, none⟩) s.size cap) ∧ Boxed W (N + 1 + 1 + 1 + 1) 3 (.int .i64 16)) ∧ N + 1 + 1 + 1 + 1 + 1 ≤ W.heap.size ∧ Below N w W)
    (fun c pre W => False)
    ?hI ?hIx ?h0
    (fun x => { tmps := #[.string s, undef, .string ⟨#[]⟩, .pointer (some ⟨N, 0, none⟩), .pointer (some ⟨N + 1, 0, none⟩), .slice (some ⟨N + 1 + 1, x.1, none⟩) (min 16 (s.size - x.1)) (min 16 (s.size - x.1)), .string s, .slice (some ⟨N + 1 + 1, 0, none⟩) s.size cap,
      .func (.func 37) #[] #[.pointer (some ⟨N + 1 + 1 + 1, 0, none⟩), .pointer (some ⟨N + 1 + 1 + 1 + 1, 0, none⟩)], .slice (some ⟨N + 1 + 1, x.1, none⟩) (min 16 (s.size - x.1)) (min 16 (s.size - x.1)), undef, undef, undef, undef, undef, undef, undef, undef, undef], defers := [] })
    ?assign ?body ?done ?stop
  case hI =>
    rintro pre A B row ⟨hor, ⟨b1, b2⟩, hN5, hB⟩ hg hr
    refine ⟨?_, ⟨bx b1 hg hr, bx b2 hg hr⟩, Nat.le_trans hN5 hg.size, hB.grown hg (by have := hB.size; omega) (fun k e => by have := (hr k e).1; omega)⟩
    rcases hor with ⟨e1, h1, h2, h3⟩ | ⟨x, e1, h1⟩
    · exact .inl ⟨e1, bf_kept h1 hg hr, bx h2 hg hr, fun j b hj => cell_kept (h3 j b hj) hg (fun r e => (hr r e).2)⟩
    · exact .inr ⟨x, e1, bf_kept h1 hg hr⟩
  case hIx => exact fun c pre A B row h _ _ => h
  case h0 => exact ⟨.inl ⟨strt_nil, cF, cA, cB⟩, ⟨cS, cN⟩, by omega, hBW0⟩
  case assign =>
    intro l x W K hK
    gi_wp2
    exact hK
  case body =>
    rintro l pre ⟨x, hx⟩ W ⟨hor, ⟨b1, b2⟩, hN5, hB⟩ hlen
    dsimp only
    rcases hor with ⟨e1, hF, hA, hcl⟩ | ⟨y, e1, _⟩
    · have hm : min 16 (s.size - x) = s.size - x := by omega
      rw [hm]
      have hca := hA.cell
      have hfa := hA.frozen
      have HLine := sh (fun W' hc hsz => line0 (N + 1 + 1) x (s.size - x) (s.size - x) ((lst s).drop x) (by rw [List.length_drop, ← HL.out]) (by omega) (Nat.le_refl _) W' hsz hc)
      have HCL := sh (show ∀ j b, ((lst s).drop x)[j]? = some b → W.cell? ⟨N + 1 + 1, x + j, none⟩ = some (.int .u8 (b.toNat : Int)) from fun j b hj => hcl (x + j) b (by rw [← hj, List.getElem?_drop]))
      have HLL := lineL_len ((lst s).drop x) (by rw [List.length_drop, ← HL.out]; omega)
      have HWS := sh (fun W' h hB => wstring N N (Lib.byteCells []) (str (lineL ((lst s).drop x))) W' h (by rw [size_str]; simp [Lib.byteCells]; omega) hB)
      rw [strCells_str] at HWS
      gi_wp2_with ((refine ⟨trivial, ?_⟩; gi_at_call 35; refine (CallsIn.inRound l (callsIn_wide.2 (HLine.out W HCL.out (by omega)))).mono ?_; clear HLine; rintro e w1 ⟨rfl, hb1⟩))
      refine ⟨trivial, ?_⟩
      have hg1 : W.grownBy w1 none := ⟨hb1.os, hb1.tape, hb1.output, hb1.size, fun k hk _ => hb1.block k hk⟩
      have hF1 := bf_kept (M := 0) hF hg1 (fun r e => by cases e)
      have hA1 := hA.kept hg1 (by simp)
      have b11 := b1.kept hg1 (by simp)
      have b21 := b2.kept hg1 (by simp)
      have hsz1 := hb1.size
      refine (CallsIn.inRound l (callsIn_wide.2 (HWS.out w1 hF1 (by omega)))).mono ?_
      rintro e w2 ⟨rfl, hb2, hb3, hk3⟩
      have hA2 := others_boxed hk3 hA1 (by omega) (by decide)
      have b12 := others_boxed hk3 b11 (by omega) (by decide)
      have b22 := others_boxed hk3 b21 (by omega) (by decide)
      obtain ⟨cc, hbb⟩ := bf_block hF1
      have hko := others_keeps hk3 hb3.size hbb
      have hca2 := hA2.cell
      have hfa2 := hA2.frozen
      gi_wp2
      have hko1 : KeepsOthers W w1 := ⟨hsz1, fun k o hk ho => (hg1.block k (bk_lt hk) (by simp)).trans hk⟩
      have hs2 := grownBy_setCell' w2 (N + 1) (.int .i64 ((s.size - x : Nat) : Int))
      have b13 := b12.kept hs2 (fun e => by have := Option.some.inj e; omega)
      have b23 := b22.kept hs2 (fun e => by have := Option.some.inj e; omega)
      have hsz2 := hb3.size
      refine ⟨((hko1.trans hko).trans (KeepsOthers.setCell _ _ _)).from _, ⟨Nat.le_trans hsz1 (Nat.le_trans hsz2 hs2.size), fun k h1 h2 => ?_⟩, .inr ⟨x, by rw [strt_snoc, e1]; rfl, bf_put (.inr hb2) hA2 (by decide) (by decide)⟩, ⟨b13, b23⟩, Nat.le_trans hN5 (Nat.le_trans hsz1 (Nat.le_trans hsz2 hs2.size)), ((hB.trans (hb1.mono (by omega))).trans hb3).setCell (p := ⟨N + 1, 0, none⟩) (Nat.le_succ _) _⟩
      rcases (show k = N + 1 + 1 + 1 ∨ k = N + 1 + 1 + 1 + 1 by omega) with rfl | rfl
      · exact Eq.trans b13 (Eq.symm b1)
      · exact Eq.trans b23 (Eq.symm b2)
    · exfalso
      have := congrArg List.length e1
      rw [strt_len] at this
      simp at this
      omega
  case done =>
    rintro D ys W hD ⟨k, hst, hkL⟩ ⟨hor, ⟨b1, b2⟩, hN5, hB⟩ hK
    have hst2 : Starts 16 k (strt ys) := hst
    unfold Starts at hst2
    rcases hor with ⟨e1, _⟩ | ⟨x, e1, hF⟩
    · exfalso
      rw [e1] at hst2
      have := congrArg List.length hst2
      simp at this
      omega
    · rw [e1] at hst2
      have hk1 := congrArg List.length hst2
      simp at hk1
      subst hk1
      have hx0 : x = 0 := by simpa using hst2
      subst hx0
      rw [List.drop_zero] at hF
      have HSt := sh (fun W' h hB' => Try.Builder_String_any_k N N (lineL (lst s)) W' h hB')
      gi_wp2_with (refine ⟨trivial, ?_⟩; gi_at_call 18; refine (callsIn_wide.2 (HSt.out W hF (by omega))).mono ?_; clear HSt; rintro e w1 ⟨rfl, _, hb1, hk1⟩)
      have hK1 : w1.heap[D]? = some (.deferred (some [])) := hk1 D _ hK (fun e => by have := Option.some.inj e; omega) (fun c fz e => by cases e)
      refine ⟨by simp, .inl ⟨_, _, rfl, run_takeDeferred hK1, ?_⟩⟩
      refine ⟨_, results_tmp rfl _ _ _, rfl, ?_⟩
      rw [hN]
      exact (hB.trans hb1).trans (belowK_b (w := W0) (by omega) _ D _ _ hD hK1 rfl rfl)
  case stop =>
    rintro D c pre W _ _ h _
    exact h.elim
end Go.Proofs.Ytlmddmkobhkndaa
