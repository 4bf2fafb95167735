/- slices.Chunk called and ranged over; what an append in a round keeps. -/
import Derived.Test.YtoclbcpfiacoaaaChunk
namespace Go.Proofs.Ytoclbcpfiacoaaa
set_option linter.unusedVariables false
set_option linter.unusedSimpArgs false
open Go.RowKit Go.Shelf
attribute [local go_sem] Oper.semAt_some
set_option maxHeartbeats 1000000 in
theorem chunk_call (F : Fence) (n : Nat) (h : F.fn 33) (hro : F.round = none) (a : Option Addr) (len cap sz : Nat) (hsz : 1 ≤ sz) (w : World) :
    CallsIn F n Try.prog 33 #[.slice a len cap, .int .i64 (sz : Int)] w fun e w' => e = .returned (.func (.func 48) #[] #[.pointer (some ⟨w.heap.size, 0, none⟩), .pointer (some ⟨w.heap.size + 1, 0, none⟩)]) ∧ w' = (w.alloc (.cells #[.slice a len cap] 67)).alloc (.cells #[.int .i64 (sz : Int)] 3) := by
  refine callsIn_of_wp Try.func33 rfl h ?_ hro
  simp only [Try.ntmps33, List.size_toArray, List.length_cons, List.length_nil, Nat.reduceAdd, Nat.reduceSub, Array.replicate_succ, Array.replicate_zero, List.push_toArray, List.append_toArray, List.nil_append, List.cons_append]
  gi_wp2
  go_ret
  exact ⟨rfl, rfl⟩

theorem chunk_stops (F : Fence) (n : Nat) (h7 : F.fn 48) (hro : F.round = none) (hn : 1 ≤ n) (Bs Bn n1 n2 b L cap sz : Nat) (hsz : 1 ≤ sz) (hsz2 : sz ≤ 1000000) (hL : L ≤ 1000000) (hcap : L ≤ cap) (hs1 : n1 ≤ Bs) (hs2 : Bs < n2) (hm1 : n1 ≤ Bn) (hm2 : Bn < n2) (Nr : Nat) (hNr : ∀ k, k * sz < L → k < Nr) (w : World) (hw : n2 ≤ w.heap.size)
    (hBs : w.cell? ⟨Bs, 0, none⟩ = some (.slice (some ⟨b, 0, none⟩) L cap)) (hBn : w.cell? ⟨Bn, 0, none⟩ = some (.int .i64 (sz : Int))) :
    SeqStopsK F n Try.prog 48 #[.pointer (some ⟨Bs, 0, none⟩), .pointer (some ⟨Bn, 0, none⟩)] (fun x : {i : Nat // i < L} => #[Value.slice (some ⟨b, x.1, none⟩) (min sz (L - x.1)) (min sz (L - x.1))]) (KpC n1 n2)
      (fun ys => ∃ k, Starts sz k (ys.map (·.1)) ∧ L ≤ k * sz) (fun pre => ∃ k, Starts sz k (pre.map (·.1))) Nr w := fun l J Jx W hW hJ hJx hY h0 => by
  have h1 := (hW.cell (p := ⟨Bs, 0, none⟩) (by simp; omega)).trans hBs
  have h2 := (hW.cell (p := ⟨Bn, 0, none⟩) (by simp; omega)).trans hBn
  exact chunk1_in F n h7 hro hn l Bs Bn n1 n2 b L cap sz hsz hsz2 hL hcap hs1 hs2 hm1 hm2 Nr hNr J Jx _ hJ hY W h1 h2 h0

theorem ownsRow_low {W : World} {B B' : Nat} (h : B' ≤ B) {e : TypeId} {size : Nat} {v : Value} {n : Nat} {xs : List Value} (ho : W.ownsRow B e size v n xs) : W.ownsRow B' e size v n xs := by
  refine ⟨ho.1, ?_⟩
  rcases ho.2 with x | ⟨g, cap, cur, e1, hb, r⟩
  · exact .inl x
  · exact .inr ⟨g, cap, cur, e1, Nat.le_trans h hb, r⟩
/-- behind 'out = append(out, ..)', out in a box below n2, its row from n2 on -/
theorem appended2 {W w1 : World} {n₀ n2 B : Nat} {t e : TypeId} {size : Nat} {v v' : Value} {k m : Nat} {xs ys : List Value} {tmp : Obj}
    (hv : Boxed W B t v) (hte : t ≠ e) (hrow : W.ownsRow n2 e size v k xs) (hn2 : n2 ≤ W.heap.size) (h0 : n₀ ≤ B) (h02 : n₀ ≤ n2) (hB2 : B < n2)
    (hown' : w1.ownsRow n2 e size v' m ys) (hgrow : (W.alloc tmp).grownBy w1 v.ownBlock) :
    Boxed w1 B t v ∧ Boxed (w1.setCell ⟨B, 0, none⟩ v') B t v' ∧ (w1.setCell ⟨B, 0, none⟩ v').ownsRow n2 e size v' m ys ∧ KeepsOthers W (w1.setCell ⟨B, 0, none⟩ v') ∧ Below n₀ W (w1.setCell ⟨B, 0, none⟩ v') ∧
      (∀ j, j < n2 → j ≠ B → (w1.setCell ⟨B, 0, none⟩ v').heap[j]? = W.heap[j]?) := by
  obtain ⟨a1, a2, _, a4, a5⟩ := Boxed.appended hv hte (ownsRow_low h02 hrow) (Nat.le_trans h02 hn2) h0 (ownsRow_low h02 hown') hgrow
  refine ⟨a1, a2, hown'.kept (grownBy_setCell' w1 B v') (.inr (a1.not_row hte hown').symm), a4, a5, fun j hj hne => ?_⟩
  rw [(grownBy_setCell' w1 B v').block j (by have := hgrow.size; simp at this; omega) (fun e => hne (Option.some.inj e))]
  rw [hgrow.block j (by simp; omega) (fun e => by
    rcases hrow.2 with ⟨rfl, _⟩ | ⟨g, cap, cur, rfl, hb, _, _⟩
    · simp [Value.ownBlock] at e
    · have : j = g := by simpa [Value.ownBlock] using e
      omega)]
  exact Below.heap_alloc W tmp j (by omega)
theorem bx {A A' : World} {row : Option Nat} {B M : Nat} {t : TypeId} {v : Value} (h : Boxed A B t v) (hg : A.grownBy A' row) (hr : ∀ r, row = some r → M ≤ r ∧ ∃ o : Obj, A.heap[r]? = some o ∧ o.isCells = false) : Boxed A' B t v :=
  h.kept hg (fun e => by
    obtain ⟨_, o, ho, hc⟩ := hr B e.symm
    rw [show A.heap[B]? = _ from h] at ho; cases ho; cases hc)
def strt {L : Nat} (l : List {i : Nat // i < L}) : List Nat := l.map (·.1)
theorem strt_snoc {L : Nat} (l : List {i : Nat // i < L}) (x : Nat) (hx : x < L) : strt (l ++ [⟨x, hx⟩]) = strt l ++ [x] := by unfold strt; rw [List.map_append]; rfl
theorem strt_len {L : Nat} (l : List {i : Nat // i < L}) : (strt l).length = l.length := List.length_map _
theorem strt_nil {L : Nat} : strt ([] : List {i : Nat // i < L}) = [] := rfl
end Go.Proofs.Ytoclbcpfiacoaaa
