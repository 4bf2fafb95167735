/- hexes.Bytes: contract (a range over slices.Chunk). -/
import Derived.Test.YtlmddmkobhkndaaRBytes
import Derived.Test.YtlmddmkobhkndaaChunk
namespace Go.Proofs.Ytlmddmkobhkndaa
set_option linter.unusedVariables false
set_option linter.unusedSimpArgs false
open Go.RowKit Go.Shelf
attribute [local go_sem] Oper.semAt_some

theorem idxb (b : UInt8) (w : World) : Calls Try.prog 20 #[.string ⟨#[48, 49, 50, 51, 52, 53, 54, 55, 56, 57, 97, 98, 99, 100, 101, 102]⟩, .int .u8 (b.toNat : Int)] w fun e w' => e = .returned (.int .i64 (val b)) ∧ w' = w := by
  have h := Try.strings_IndexByte ⟨#[48, 49, 50, 51, 52, 53, 54, 55, 56, 57, 97, 98, 99, 100, 101, 102]⟩ (b.toNat : Int) w
  have e : (b.toNat : Int).toNat.toUInt8 = b := by
    rw [Int.toNat_natCast]
    exact UInt8.ofNat_toNat
  rw [e] at h
  exact h
set_option maxHeartbeats 1000000 in
theorem chunk_call (F : Fence) (n : Nat) (h : F.fn 19) (hro : F.round = none) (a : Option Addr) (len cap sz : Nat) (hsz : 1 ≤ sz) (w : World) :
    CallsIn F n Try.prog 19 #[.slice a len cap, .int .i64 (sz : Int)] w fun e w' => e = .returned (.func (.func 37) #[] #[.pointer (some ⟨w.heap.size, 0, none⟩), .pointer (some ⟨w.heap.size + 1, 0, none⟩)]) ∧ w' = (w.alloc (.cells #[.slice a len cap] 40)).alloc (.cells #[.int .i64 (sz : Int)] 3) := by
  refine callsIn_of_wp Try.func19 rfl h ?_ hro
  simp only [Try.ntmps19, List.size_toArray, List.length_cons, List.length_nil, Nat.reduceAdd, Nat.reduceSub, Array.replicate_succ, Array.replicate_zero, List.push_toArray, List.append_toArray, List.nil_append, List.cons_append]
  gi_wp2
  go_ret
  exact ⟨rfl, rfl⟩

theorem chunk_stops (F : Fence) (n : Nat) (h7 : F.fn 37) (hro : F.round = none) (hn : 1 ≤ n) (Bs Bn n1 n2 b L cap sz : Nat) (hsz : 1 ≤ sz) (hsz2 : sz ≤ 1000000) (hL : L ≤ 1000000) (hcap : L ≤ cap) (hs1 : n1 ≤ Bs) (hs2 : Bs < n2) (hm1 : n1 ≤ Bn) (hm2 : Bn < n2) (Nr : Nat) (hNr : ∀ k, k * sz < L → k < Nr) (w : World) (hw : n2 ≤ w.heap.size)
    (hBs : w.cell? ⟨Bs, 0, none⟩ = some (.slice (some ⟨b, 0, none⟩) L cap)) (hBn : w.cell? ⟨Bn, 0, none⟩ = some (.int .i64 (sz : Int))) :
    SeqStopsK F n Try.prog 37 #[.pointer (some ⟨Bs, 0, none⟩), .pointer (some ⟨Bn, 0, none⟩)] (fun x : {i : Nat // i < L} => #[Value.slice (some ⟨b, x.1, none⟩) (min sz (L - x.1)) (min sz (L - x.1))]) (KpC n1 n2)
      (fun ys => ∃ k, Starts sz k (ys.map (·.1)) ∧ L ≤ k * sz) (fun pre => ∃ k, Starts sz k (pre.map (·.1))) Nr w := fun l J Jx W hW hJ hJx hY h0 => by
  have h1 := (hW.cell (p := ⟨Bs, 0, none⟩) (by simp; omega)).trans hBs
  have h2 := (hW.cell (p := ⟨Bn, 0, none⟩) (by simp; omega)).trans hBn
  exact chunk1_in F n h7 hro hn l Bs Bn n1 n2 b L cap sz hsz hsz2 hL hcap hs1 hs2 hm1 hm2 Nr hNr J Jx _ hJ hY W h1 h2 h0

theorem ownsRow_low {W : World} {B B' : Nat} (h : B' ≤ B) {e : TypeId} {size : Nat} {v : Value} {n : Nat} {xs : List Value} (ho : W.ownsRow B e size v n xs) : W.ownsRow B' e size v n xs := by
  refine ⟨ho.1, ?_⟩
  rcases ho.2 with x | ⟨g, cap, cur, e1, hb, r⟩
  · exact .inl x
  · exact .inr ⟨g, cap, cur, e1, Nat.le_trans h hb, r⟩
/-- behind 'out = append(out, ..)', out in a box below n2, its row from n2 on -/
theorem appended2 {W w1 : World} {n₀ n2 B : Nat} {t e : TypeId} {size : Nat} {v v' : Value} {k m : Nat} {xs ys : List Value} {tmp : Obj}
    (hv : Boxed W B t v) (hte : t ≠ e) (hrow : W.ownsRow n2 e size v k xs) (hn2 : n2 ≤ W.heap.size) (h0 : n₀ ≤ B) (h02 : n₀ ≤ n2) (hB2 : B < n2)
    (hown' : w1.ownsRow n2 e size v' m ys) (hgrow : (W.alloc tmp).grownBy w1 v.ownBlock) :
    Boxed w1 B t v ∧ Boxed (w1.setCell ⟨B, 0, none⟩ v') B t v' ∧ (w1.setCell ⟨B, 0, none⟩ v').ownsRow n2 e size v' m ys ∧ KeepsOthers W (w1.setCell ⟨B, 0, none⟩ v') ∧ Below n₀ W (w1.setCell ⟨B, 0, none⟩ v') ∧
      (∀ j, j < n2 → j ≠ B → (w1.setCell ⟨B, 0, none⟩ v').heap[j]? = W.heap[j]?) := by
  obtain ⟨a1, a2, _, a4, a5⟩ := Boxed.appended hv hte (ownsRow_low h02 hrow) (Nat.le_trans h02 hn2) h0 (ownsRow_low h02 hown') hgrow
  refine ⟨a1, a2, hown'.kept (grownBy_setCell' w1 B v') (.inr (a1.not_row hte hown').symm), a4, a5, fun j hj hne => ?_⟩
  rw [(grownBy_setCell' w1 B v').block j (by have := hgrow.size; simp at this; omega) (fun e => hne (Option.some.inj e))]
  rw [hgrow.block j (by simp; omega) (fun e => by
    rcases hrow.2 with ⟨rfl, _⟩ | ⟨g, cap, cur, rfl, hb, _, _⟩
    · simp [Value.ownBlock] at e
    · have : j = g := by simpa [Value.ownBlock] using e
      omega)]
  exact Below.heap_alloc W tmp j (by omega)
theorem bx {A A' : World} {row : Option Nat} {B M : Nat} {t : TypeId} {v : Value} (h : Boxed A B t v) (hg : A.grownBy A' row) (hr : ∀ r, row = some r → M ≤ r ∧ ∃ o : Obj, A.heap[r]? = some o ∧ o.isCells = false) : Boxed A' B t v :=
  h.kept hg (fun e => by
    obtain ⟨_, o, ho, hc⟩ := hr B e.symm
    rw [show A.heap[B]? = _ from h] at ho; cases ho; cases hc)
def bat (s : ByteArray) (i : Nat) : UInt8 := ((lst s)[i]?).getD 0
def okAt (s : ByteArray) (i : Nat) : Prop := i + 1 < s.size ∧ okd (bat s i) (bat s (i + 1)) = true
def acc (s : ByteArray) (l : List Nat) : List UInt8 := l.map fun i => two (bat s i) (bat s (i + 1))
theorem unhex_step {s : ByteArray} {i : Nat} (h : okAt s i) : unhex ((lst s).drop i) = (unhex ((lst s).drop (i + 2))).map (two (bat s i) (bat s (i + 1)) :: ·) := by
  obtain ⟨h1, h2⟩ := h
  have e1 : i < (lst s).length := by rw [← size_lst]; omega
  have e2 : i + 1 < (lst s).length := by rw [← size_lst]; omega
  have g1 : bat s i = (lst s)[i] := by unfold bat; rw [List.getElem?_eq_getElem e1]; rfl
  have g2 : bat s (i + 1) = (lst s)[i + 1] := by unfold bat; rw [List.getElem?_eq_getElem e2]; rfl
  rw [List.drop_eq_getElem_cons e1, List.drop_eq_getElem_cons e2, unhex, ← g1, ← g2, if_pos h2]
theorem unhex_pre {s : ByteArray} : ∀ (k : Nat), (∀ i, i < k → okAt s (i * 2)) → unhex (lst s) = (unhex ((lst s).drop (k * 2))).map (acc s ((List.range k).map (· * 2)) ++ ·)
  | 0, _ => by simp [acc]
  | k + 1, h => by
    rw [unhex_pre k (fun i hi => h i (by omega)), unhex_step (h k (by omega)), Option.map_map, Nat.succ_mul]
    congr 1
    funext x
    simp [acc, List.range_succ]
theorem unhex_all {s : ByteArray} {k : Nat} {l : List Nat} (h : Starts 2 k l) (hok : ∀ i ∈ l, okAt s i) (hk : s.size ≤ k * 2) : unhex (lst s) = some (acc s l) := by
  unfold Starts at h
  subst h
  rw [unhex_pre k (fun i hi => hok _ (List.mem_map.2 ⟨i, List.mem_range.2 hi, rfl⟩)), List.drop_eq_nil_of_le (by rw [← size_lst]; exact hk)]
  simp [unhex]
theorem unhex_stop {s : ByteArray} {k : Nat} {l ini : List Nat} {last : Nat} (h : Starts 2 k l) (e : l = ini ++ [last]) (hok : ∀ i ∈ ini, okAt s i) (hlast : last < s.size) (hno : ¬ okAt s last) : unhex (lst s) = none := by
  unfold Starts at h
  cases k with
  | zero => rw [h] at e; simp at e
  | succ k =>
    rw [List.range_succ, List.map_append, e] at h
    obtain ⟨rfl, e5⟩ := List.append_inj' h rfl
    obtain rfl : last = k * 2 := by simpa using e5
    rw [unhex_pre k (fun i hi => hok _ (List.mem_map.2 ⟨i, List.mem_range.2 hi, rfl⟩))]
    have e1 : k * 2 < (lst s).length := by rw [← size_lst]; omega
    rw [List.drop_eq_getElem_cons e1]
    by_cases c : k * 2 + 1 < s.size
    · have e2 : k * 2 + 1 < (lst s).length := by rw [← size_lst]; omega
      have g1 : bat s (k * 2) = (lst s)[k * 2] := by unfold bat; rw [List.getElem?_eq_getElem e1]; rfl
      have g2 : bat s (k * 2 + 1) = (lst s)[k * 2 + 1] := by unfold bat; rw [List.getElem?_eq_getElem e2]; rfl
      rw [List.drop_eq_getElem_cons e2, unhex, ← g1, ← g2, if_neg (fun h2 => hno ⟨c, h2⟩)]; rfl
    · rw [List.drop_eq_nil_of_le (by rw [← size_lst]; omega)]; rfl
def strt {L : Nat} (l : List {i : Nat // i < L}) : List Nat := l.map (·.1)
theorem strt_snoc {L : Nat} (l : List {i : Nat // i < L}) (x : Nat) (hx : x < L) : strt (l ++ [⟨x, hx⟩]) = strt l ++ [x] := by unfold strt; rw [List.map_append]; rfl
theorem strt_len {L : Nat} (l : List {i : Nat // i < L}) : (strt l).length = l.length := List.length_map _
theorem strt_nil {L : Nat} : strt ([] : List {i : Nat // i < L}) = [] := rfl
set_option maxRecDepth 100000 in
set_option maxHeartbeats 2000000 in
theorem hbytes (s : ByteArray) (hs : s.size ≤ 1000000) (w : World) : Calls Try.prog 7 #[.string s] w fun e w' => e = .returned (unhexV (unhex (lst s))) ∧ Below w.heap.size w w' := by
  refine (callsIn_wide (n := 6)).1 ?_
  refine callsIn_of_wp_marks Try.func7 rfl trivial ?_ rfl
  simp only [Try.ntmps7, List.size_toArray, List.length_cons, List.length_nil, Nat.reduceAdd, Nat.reduceSub, Array.replicate_succ, Array.replicate_zero, List.push_toArray, List.append_toArray, List.nil_append, List.cons_append]
  obtain ⟨i0, hi0, hz0, hz1, hz2⟩ := info_parts info5
  have HL := sh (size_lst s)
  obtain ⟨cap, w3, hcv, hsz3, hb3, hcell3, hcap, hcapm⟩ := conv_bytes (P := Try.prog) Try.underlying9 Try.underlying40 Try.underlying5 (((w.alloc (.cells #[.string ⟨#[]⟩] 9)).alloc (.cells #[.int .i64 0] 24)).alloc (.cells #[.slice none 0 0] 40)) s
  simp only [World.size_alloc] at hsz3 hb3 hcell3
  gi_wp2_with (refine ⟨trivial, ?_⟩; gi_at_call 19; refine (chunk_call Fence.wide _ trivial rfl _ _ _ 2 (by decide) _).mono ?_; rintro e w' ⟨rfl, rfl⟩)
  have kb : ∀ {B : Nat} {t : TypeId} {v : Value} {X : World}, Boxed X B t v → Below (w.heap.size + 1 + 1 + 1) X w3 → B < w.heap.size + 1 + 1 + 1 → Boxed w3 B t v := fun h hb hB => (hb.block _ hB).trans h
  have bR1 : Boxed w3 w.heap.size 9 (.string ⟨#[]⟩) := kb (((Boxed.new w 9 (.string ⟨#[]⟩)).alloc (.cells #[.int .i64 0] 24)).alloc (.cells #[.slice none 0 0] 40)) hb3 (by omega)
  have bR2 : Boxed w3 (w.heap.size + 1) 24 (.int .i64 0) := kb ((by have h := Boxed.new (w.alloc (.cells #[.string ⟨#[]⟩] 9)) 24 (.int .i64 0); rw [World.size_alloc] at h; exact h : Boxed ((w.alloc (.cells #[.string ⟨#[]⟩] 9)).alloc (.cells #[.int .i64 0] 24)) (w.heap.size + 1) 24 (.int .i64 0)).alloc (.cells #[.slice none 0 0] 40)) hb3 (by omega)
  have bO : Boxed w3 (w.heap.size + 1 + 1) 40 (.slice none 0 0) := kb (by have h := Boxed.new ((w.alloc (.cells #[.string ⟨#[]⟩] 9)).alloc (.cells #[.int .i64 0] 24)) 40 (.slice none 0 0); rw [World.size_alloc, World.size_alloc] at h; exact h) hb3 (by omega)
  have hBw : Below w.heap.size w w3 := ((((Below.refl _ w).alloc (Nat.le_refl _) _).alloc (by simp) _).alloc (by simp; omega) _).trans (hb3.mono (by omega))
  have bS := Boxed.new w3 40 (.slice (some ⟨w.heap.size + 1 + 1 + 1, 0, none⟩) s.size cap)
  have bN := Boxed.new (w3.alloc (.cells #[.slice (some ⟨w.heap.size + 1 + 1 + 1, 0, none⟩) s.size cap] 40)) 3 (.int .i64 2)
  rw [World.size_alloc] at bN
  rw [hsz3] at bS bN
  obtain ⟨W0, hW0⟩ : ∃ W0, (w3.alloc (.cells #[.slice (some ⟨w.heap.size + 1 + 1 + 1, 0, none⟩) s.size cap] 40)).alloc (.cells #[.int .i64 2] 3) = W0 := ⟨_, rfl⟩
  have hsz0 : W0.heap.size = w.heap.size + 1 + 1 + 1 + 1 + 1 + 1 := by rw [← hW0]; simp; omega
  have cR1 : Boxed W0 w.heap.size 9 (.string ⟨#[]⟩) := by rw [← hW0]; exact (bR1.alloc _).alloc _
  have cR2 : Boxed W0 (w.heap.size + 1) 24 (.int .i64 0) := by rw [← hW0]; exact (bR2.alloc _).alloc _
  have cO : Boxed W0 (w.heap.size + 1 + 1) 40 (.slice none 0 0) := by rw [← hW0]; exact (bO.alloc _).alloc _
  have cS : Boxed W0 (w.heap.size + 1 + 1 + 1 + 1) 40 (.slice (some ⟨w.heap.size + 1 + 1 + 1, 0, none⟩) s.size cap) := by rw [← hW0]; exact bS.alloc _
  have cN : Boxed W0 (w.heap.size + 1 + 1 + 1 + 1 + 1) 3 (.int .i64 2) := by rw [← hW0]; exact bN
  have cB : ∀ j b, (lst s)[j]? = some b → W0.cell? ⟨w.heap.size + 1 + 1 + 1, j, none⟩ = some (.int .u8 (b.toNat : Int)) := fun j b hj => by
    rw [← hW0]
    exact ((((Below.refl _ w3).alloc (Nat.le_refl _) _).alloc (by simp) _).cell (p := ⟨w.heap.size + 1 + 1 + 1, j, none⟩) (by simp; omega)).trans (hcell3 j b hj)
  have hBW0 : Below w.heap.size w W0 := by rw [← hW0]; exact (hBw.alloc (by omega) _).alloc (by simp; omega) _
  rw [hW0]
  clear bR1 bR2 bO bS bN hBw hcell3 hb3 hcv kb hW0
  generalize hN : w.heap.size = N at *
  refine wpIn_rangeFunc_ownG rfl (by decide) (gf := 37) (lb := #[.pointer (some ⟨N + 1 + 1 + 1 + 1, 0, none⟩), .pointer (some ⟨N + 1 + 1 + 1 + 1 + 1, 0, none⟩)]) rfl trivial (enters_of Try.func37 (by kernel_rfl) rfl)
    (chunk_stops Fence.wide _ trivial rfl (by decide) (N + 1 + 1 + 1 + 1) (N + 1 + 1 + 1 + 1 + 1) (N + 1 + 1 + 1) (N + 1 + 1 + 1 + 1 + 1 + 1) (N + 1 + 1 + 1) s.size cap 2 (by decide) (by decide) hs hcap (by omega) (by omega) (by omega) (by omega) s.size (fun k hk => by omega) W0 (by omega) cS.cell cN.cell)
    kpC_t (kpC_b (by omega)) (Below.refl _ _) (fun _ => rfl)
    (fun pre W => (∃ v, Boxed W (N + 1 + 1) 40 v ∧ W.ownsRow (N + 1 + 1 + 1 + 1 + 1 + 1) 5 1 v (acc s (strt pre)).length (cellsB (acc s (strt pre))) ∧ True) ∧ (Boxed W N 9 (.string ⟨#[]⟩) ∧ Boxed W (N + 1) 24 (.int .i64 0)) ∧ (∀ j b, (lst s)[j]? = some b → W.cell? ⟨N + 1 + 1 + 1, j, none⟩ = some (.int .u8 (b.toNat : Int))) ∧ (∀ i ∈ strt pre, okAt s i) ∧ N + 1 + 1 + 1 + 1 + 1 + 1 ≤ W.heap.size ∧ Below N w W)
    (fun c pre W => c = .ret ∧ (Boxed W N 9 (.string ⟨#[]⟩) ∧ Boxed W (N + 1) 24 (.int .i64 3)) ∧ (∃ ini last, strt pre = ini ++ [last] ∧ (∀ i ∈ ini, okAt s i) ∧ ¬ okAt s last) ∧ Below N w W)
    ?hI ?hIx ?h0
    (fun x => { tmps := #[.string s, undef, .pointer (some ⟨N, 0, none⟩), .pointer (some ⟨N + 1, 0, none⟩), .pointer (some ⟨N + 1 + 1, 0, none⟩), .slice (some ⟨N + 1 + 1 + 1, x.1, none⟩) (min 2 (s.size - x.1)) (min 2 (s.size - x.1)), undef, undef, .string s, .slice (some ⟨N + 1 + 1 + 1, 0, none⟩) s.size cap,
      .func (.func 37) #[] #[.pointer (some ⟨N + 1 + 1 + 1 + 1, 0, none⟩), .pointer (some ⟨N + 1 + 1 + 1 + 1 + 1, 0, none⟩)], .slice (some ⟨N + 1 + 1 + 1, x.1, none⟩) (min 2 (s.size - x.1)) (min 2 (s.size - x.1)), undef, undef, undef, undef, undef, undef, undef, undef, undef, undef, undef, undef, undef, undef, undef, undef, undef, undef, undef, undef, undef, undef, undef, undef, undef, undef, undef, undef, undef, undef, undef, undef], defers := [] })
    ?assign ?body ?done ?stop
  case hI =>
    rintro pre A B row ⟨⟨v, bv, hown, _⟩, ⟨b1, b2⟩, hcl, hok, hN6, hB⟩ hg hr
    refine ⟨⟨v, bx bv hg hr, hown.kept hg ?_, trivial⟩, ⟨bx b1 hg hr, bx b2 hg hr⟩, fun j b hj => cell_kept (hcl j b hj) hg (fun r e => (hr r e).2), hok, Nat.le_trans hN6 hg.size, hB.grown hg (by have := hB.size; omega) (fun k e => by have := (hr k e).1; omega)⟩
    rcases hown.2 with ⟨rfl, _⟩ | ⟨g, cap, cur, rfl, _, hgb, _⟩
    · exact .inl rfl
    · refine .inr fun e' => ?_
      obtain ⟨_, o, ho, hc⟩ := hr g (by simpa [Value.ownBlock] using e'.symm)
      rw [hgb] at ho; cases ho; cases hc
  case hIx =>
    rintro c pre A B row ⟨e1, ⟨b1, b2⟩, e2, hB⟩ hg hr
    exact ⟨e1, ⟨bx b1 hg hr, bx b2 hg hr⟩, e2, hB.grown hg (by have := hB.size; omega) (fun k e => by have := (hr k e).1; omega)⟩
  case h0 => exact ⟨⟨_, cO, own_row_nil _ _ _ _, trivial⟩, ⟨cR1, cR2⟩, cB, (fun i hi => by rw [strt_nil] at hi; cases hi), by omega, hBW0⟩
  case assign =>
    intro l x W K hK
    gi_wp2
    exact hK
  case body =>
    rintro l pre ⟨x, hx⟩ W ⟨⟨v, bv, hown, _⟩, ⟨b1, b2⟩, hcl, hok, hN6, hB⟩ hlen
    dsimp only
    have hvc := bv.cell
    have hc1b := b1.cell
    have hf1b := b1.frozen
    have hc2b := b2.cell
    have hf2b := b2.frozen
    have hal : (acc s (strt pre)).length ≤ 1000000 := by unfold acc; rw [List.length_map, strt_len]; omega
    obtain ⟨h, hh⟩ : ∃ b, (lst s)[x]? = some b := ⟨_, List.getElem?_eq_getElem (by rw [← HL.out]; exact hx)⟩
    have hc1 := hcl x h hh
    have hbh : bat s x = h := by unfold bat; rw [hh]; rfl
    have h255 := h.toNat_lt
    obtain ⟨y, hy, hyr⟩ : ∃ y, val h = y ∧ (y = -1 ∨ (0 ≤ y ∧ y < 16)) := ⟨_, rfl, by rcases val_range h with e | ⟨v, e1, e2, _⟩ <;> omega⟩
    by_cases hx1 : x + 1 < s.size
    · have hm : min 2 (s.size - x) = 2 := by omega
      obtain ⟨l2, hl⟩ : ∃ b, (lst s)[x + 1]? = some b := ⟨_, List.getElem?_eq_getElem (by rw [← HL.out]; exact hx1)⟩
      have hc2 := hcl (x + 1) l2 hl
      have hbl : bat s (x + 1) = l2 := by unfold bat; rw [hl]; rfl
      have l255 := l2.toNat_lt
      obtain ⟨z, hz, hzr⟩ : ∃ z, val l2 = z ∧ (z = -1 ∨ (0 ≤ z ∧ z < 16)) := ⟨_, rfl, by rcases val_range l2 with e | ⟨v, e1, e2, _⟩ <;> omega⟩
      have HOK : Sh (okAt s x ↔ (0 ≤ y ∧ 0 ≤ z)) := ⟨by
        unfold okAt
        rw [hbh, hbl]
        unfold okd
        rw [hy, hz]
        simp [hx1]⟩
      rw [hm]
      by_cases hyz : 0 ≤ y ∧ 0 ≤ z
      · obtain ⟨oy, oz⟩ := hyz
        have hwr : IntKind.u8.wrap (16 * y + z) = 16 * y + z := by rw [wrap_u8 (by omega) (by omega)]
        have HST : Sh (cellsB (acc s (strt pre)) ++ [Value.int .u8 (16 * y + z)] = cellsB (acc s (strt (pre ++ [(⟨x, hx⟩ : {i : Nat // i < s.size})]))) ∧ (acc s (strt (pre ++ [(⟨x, hx⟩ : {i : Nat // i < s.size})]))).length = (acc s (strt pre)).length + 1) := ⟨by
          have e : acc s (strt (pre ++ [(⟨x, hx⟩ : {i : Nat // i < s.size})])) = acc s (strt pre) ++ [two h l2] := by
            unfold acc
            rw [strt_snoc, List.map_append, List.map_cons, List.map_nil, hbh, hbl]
          rw [e, cellsB_append]
          refine ⟨?_, by simp⟩
          congr 1
          show _ = [byteV (two h l2)]
          unfold two
          rw [hy, hz, byteV_ofNat _ (by omega)]
          congr 2; omega⟩
        have HOS := sh (HOK.out.2 ⟨oy, oz⟩)
        clear HOK hbh hbl hh hl
        gi_wp2_with (first
          | (refine ⟨trivial, ?_⟩; gi_at_call 20; refine (CallsIn.inRound l (callsIn_wide.2 (idxb _ _))).mono ?_; rintro e w' ⟨rfl, rfl⟩)
          | (gi_at_builtin; refine wpListIn_append_own _ rfl _ _ 40 rfl (N + 1 + 1 + 1 + 1 + 1 + 1) 5 i0 (.int .u8 0) 1 1 Try.underlying40 hi0 hz0 hz1 hz2 rfl (by decide) _ _ _ rfl (hown.alloc _) ⟨_, 0, none⟩ 1 1 [_] rfl rfl (cell_one _ _ _) (by simp [Value.oneCell']) (by unfold maxLen; omega) (by omega) (by simp; omega) ?_; intro v' w1 hown' hgrow _; obtain ⟨g', cap', rfl⟩ := ownsRow_succ hown'; obtain ⟨hv1, hv2, hr2, hk2, hb2, hj2⟩ := appended2 (n₀ := N) bv (by decide) hown hN6 (by omega) (by omega) (by omega) hown' hgrow; have hc9 := hv1.cell; have hf9 := hv1.frozen))
        refine ⟨hk2.from _, ⟨hb2.size, fun k h1 h2 => hj2 k (by omega) (by omega)⟩, ⟨_, hv2, by rw [HST.out.2, ← HST.out.1]; exact hr2, trivial⟩, ⟨(hj2 _ (by omega) (by omega)).trans b1, (hj2 _ (by omega) (by omega)).trans b2⟩, fun j b hj => ?_, fun i hi => ?_, Nat.le_trans hN6 hb2.size, hB.trans hb2⟩
        · have e := hcl j b hj
          unfold World.cell? at e ⊢
          rw [hj2 (N + 1 + 1 + 1) (by omega) (by omega)]
          exact e
        · rw [strt_snoc, List.mem_append] at hi
          rcases hi with hi | hi
          · exact hok i hi
          · have : i = x := by simpa using hi
            rw [this]; exact HOS.out
      · have HNO := sh (fun e => hyz (HOK.out.1 e))
        clear HOK hbh hbl hh hl
        by_cases oy : 0 ≤ y
        · have oz : ¬ 0 ≤ z := fun e => hyz ⟨oy, e⟩
          clear hyz
          gi_wp2_with (refine ⟨trivial, ?_⟩; gi_at_call 20; refine (CallsIn.inRound l (callsIn_wide.2 (idxb _ _))).mono ?_; rintro e w' ⟨rfl, rfl⟩)
          exact ⟨((KeepsOthers.setCell _ _ _).trans (KeepsOthers.setCell _ _ _)).from _, rfl, ⟨(b1.set _).kept (grownBy_setCell' _ _ _) (by simp), (b2.kept (grownBy_setCell' _ N _) (by simp)).set _⟩, ⟨strt pre, x, strt_snoc _ _ _, hok, HNO.out⟩, (hB.setCell (p := ⟨N, 0, none⟩) (Nat.le_refl _) _).setCell (p := ⟨N + 1, 0, none⟩) (Nat.le_succ _) _⟩
        · clear hyz
          gi_wp2_with (refine ⟨trivial, ?_⟩; gi_at_call 20; refine (CallsIn.inRound l (callsIn_wide.2 (idxb _ _))).mono ?_; rintro e w' ⟨rfl, rfl⟩)
          exact ⟨((KeepsOthers.setCell _ _ _).trans (KeepsOthers.setCell _ _ _)).from _, rfl, ⟨(b1.set _).kept (grownBy_setCell' _ _ _) (by simp), (b2.kept (grownBy_setCell' _ N _) (by simp)).set _⟩, ⟨strt pre, x, strt_snoc _ _ _, hok, HNO.out⟩, (hB.setCell (p := ⟨N, 0, none⟩) (Nat.le_refl _) _).setCell (p := ⟨N + 1, 0, none⟩) (Nat.le_succ _) _⟩
    · have hm : min 2 (s.size - x) = 1 := by omega
      have HNO := sh (show ¬ okAt s x from fun e => hx1 e.1)
      rw [hm]
      clear hbh hh
      gi_wp2_with (refine ⟨trivial, ?_⟩; gi_at_call 20; refine (CallsIn.inRound l (callsIn_wide.2 (idxb _ _))).mono ?_; rintro e w' ⟨rfl, rfl⟩)
      exact ⟨((KeepsOthers.setCell _ _ _).trans (KeepsOthers.setCell _ _ _)).from _, rfl, ⟨(b1.set _).kept (grownBy_setCell' _ _ _) (by simp), (b2.kept (grownBy_setCell' _ N _) (by simp)).set _⟩, ⟨strt pre, x, strt_snoc _ _ _, hok, HNO.out⟩, (hB.setCell (p := ⟨N, 0, none⟩) (Nat.le_refl _) _).setCell (p := ⟨N + 1, 0, none⟩) (Nat.le_succ _) _⟩
  case done =>
    rintro D ys W hD ⟨k, hst, hkL⟩ ⟨⟨v, bv, hown, _⟩, ⟨b1, b2⟩, hcl, hok, hN6, hB⟩ hK
    have HU := sh (unhex_all (show Starts 2 k (strt ys) from hst) hok hkL)
    have hvc := bv.cell
    have hc1b := b1.cell
    have hf1b := b1.frozen
    have hc2b := b2.cell
    have hf2b := b2.frozen
    have hcv := own_str (P := Try.prog) Try.underlying40 Try.underlying5 Try.underlying9 hown
    gi_wp2
    have hK1 := ((KeepsOthers.setCell W ⟨N, 0, none⟩ (.string (str (acc s (strt ys))))).trans (KeepsOthers.setCell _ ⟨N + 1, 0, none⟩ (.int .i64 0))).same D _ hK rfl
    refine ⟨by simp, .inl ⟨_, _, rfl, run_takeDeferred hK1, ?_⟩⟩
    have e1 := cell_kept ((b1.set (.string (str (acc s (strt ys))))).kept (grownBy_setCell' _ (N + 1) (.int .i64 0)) (by simp)).cell (grownBy_putObj' _ D (.deferred none)) (fun r e => by cases e; exact ⟨_, hK1, rfl⟩)
    have e2 := cell_kept (((b2.kept (grownBy_setCell' _ N (.string (str (acc s (strt ys))))) (by simp)).set (.int .i64 0))).cell (grownBy_putObj' _ D (.deferred none)) (fun r e => by cases e; exact ⟨_, hK1, rfl⟩)
    refine ⟨.tuple #[.string (str (acc s (strt ys))), .int .i64 0], ?_, by rw [HU.out]; rfl, ?_⟩
    · simp [results, Try.f7, go_sem, e1, e2]
    · rw [hN]
      exact ((hB.setCell (p := ⟨N, 0, none⟩) (Nat.le_refl _) _).setCell (p := ⟨N + 1, 0, none⟩) (Nat.le_succ _) _).trans (belowK_b (w := W0) (by omega) _ D _ _ hD hK1 rfl rfl)
  case stop =>
    rintro D c pre W hD ⟨k, hst⟩ ⟨rfl, ⟨b1, b2⟩, ⟨ini, last, e5, hok, hno⟩, hB⟩ hK
    have hll : last < s.size := by
      have hm : last ∈ strt pre := by rw [e5]; simp
      obtain ⟨x, _, rfl⟩ := List.mem_map.1 hm
      exact x.2
    have HU := sh (unhex_stop (show Starts 2 k (strt pre) from hst) e5 hok hll hno)
    gi_wp2
    refine ⟨by simp, .inl ⟨_, _, rfl, run_takeDeferred hK, ?_⟩⟩
    have e1 := cell_kept b1.cell (grownBy_putObj' _ D (.deferred none)) (fun r e => by cases e; exact ⟨_, hK, rfl⟩)
    have e2 := cell_kept b2.cell (grownBy_putObj' _ D (.deferred none)) (fun r e => by cases e; exact ⟨_, hK, rfl⟩)
    refine ⟨.tuple #[.string ⟨#[]⟩, .int .i64 3], ?_, by rw [HU.out]; rfl, ?_⟩
    · simp [results, Try.f7, go_sem, e1, e2]
    · rw [hN]
      exact hB.trans (belowK_b (w := W0) (by omega) _ D _ _ hD hK rfl rfl)
end Go.Proofs.Ytlmddmkobhkndaa
