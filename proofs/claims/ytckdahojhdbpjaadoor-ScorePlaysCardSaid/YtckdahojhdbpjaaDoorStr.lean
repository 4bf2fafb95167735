/- Small lemmas on strings as lists of bytes, and on rows of bytes that a call made. No program in sight. -/
import Derived.Test.YtckdahojhdbpjaaDoorMem
import Derived.Laws.BytesArg
import Derived.Laws.IdiomStrings
import Derived.Lib.ConvBytes
import Derived.Laws.AppendOwn
namespace Go.Proofs.YtckdahojhdbpjaaDoor
set_option linter.unusedVariables false
set_option linter.unusedSimpArgs false
open Go.RowKit

def str (l : List UInt8) : ByteArray := ⟨l.toArray⟩
def lst (s : ByteArray) : List UInt8 := s.data.toList
theorem str_lst (s : ByteArray) : str (lst s) = s := rfl
theorem lst_str (l : List UInt8) : lst (str l) = l := by simp [str, lst]
theorem str_inj {a b : List UInt8} (h : str a = str b) : a = b := by rw [← lst_str a, ← lst_str b, h]
theorem size_str (l : List UInt8) : (str l).size = l.length := by simp [str, ByteArray.size]
theorem size_lst (s : ByteArray) : s.size = (lst s).length := by unfold lst; rw [Array.length_toList]; rfl
theorem str_append (a b : List UInt8) : str a ++ str b = str (a ++ b) := by
  apply ByteArray.ext
  simp [str]
theorem str_nil : str [] = ⟨#[]⟩ := rfl
theorem ret_str {a b : ByteArray} (h : a = b) : Ending.returned (.string a) = .returned (.string b) := by rw [h]
def byteV (b : UInt8) : Value := .int .u8 (b.toNat : Int)
def cellsB (l : List UInt8) : List Value := l.map byteV
theorem cellsB_length (l : List UInt8) : (cellsB l).length = l.length := by simp [cellsB]
theorem cellsB_append (a b : List UInt8) : cellsB (a ++ b) = cellsB a ++ cellsB b := by simp [cellsB]
theorem byteV_ofNat (n : Nat) (h : n < 256) : byteV (UInt8.ofNat n) = .int .u8 (n : Int) := by
  unfold byteV
  rw [UInt8.toNat_ofNat_of_lt' h]
theorem byteV_int {n : Int} (h0 : 0 ≤ n) (h1 : n < 256) : byteV (UInt8.ofNat n.toNat) = .int .u8 n := by
  rw [byteV_ofNat _ (by omega)]
  congr 1; omega
/-- a row of bytes that the call owns, made a string -/
theorem own_str {P : Program} {w : World} {base n : Nat} {e' src dst e : TypeId} {v : Value} {l : List UInt8} (hs : P.underlying src = some (.slice e)) (he : P.underlying e = some (.int .u8)) (hd : P.underlying dst = some .string)
    (h : w.ownsRow base e' 1 v n (cellsB l)) : (convert src dst v).run P w = .ok (.string (str l)) w := by
  have hl : l.length = n := by have := h.1; rw [cellsB_length] at this; omega
  rcases h.2 with ⟨rfl, rfl⟩ | ⟨g, cap, cur, rfl, _⟩
  · obtain rfl : l = [] := List.eq_nil_of_length_eq_zero hl
    exact run_convert_bytes_nil w src e hs he 0 0 dst hd
  · subst hl
    refine run_convert_bytes_back w src dst e _ cap l hs he hd (fun j hj => ?_)
    exact h.cells (g := g) rfl j (byteV l[j]) (by simp [cellsB, hj])
theorem own_row_nil (w : World) (base : Nat) (e : TypeId) (size : Nat) : w.ownsRow base e size (.slice none 0 0) 0 [] := ⟨by simp, .inl ⟨rfl, rfl⟩⟩
/-- behind an append onto a row of the call's own: what lies below base stands -/
theorem below_append {w0 w w1 : World} {base n : Nat} {e : TypeId} {size : Nat} {v : Value} {xs : List Value} (hb : Below base w0 w) (ho : w.ownsRow base e size v n xs) (hB : base ≤ w.heap.size) (hg : w.grownBy w1 v.ownBlock) : Below base w0 w1 := by
  refine hb.grown hg hB fun k hk => ?_
  rcases ho.2 with ⟨rfl, _⟩ | ⟨g, cap, cur, rfl, hb, _⟩
  · simp [Value.ownBlock] at hk
  · have : g = k := by simpa [Value.ownBlock] using hk
    omega
theorem cell_one (w : World) (o : Value) (e : TypeId) : ∀ j u, [o][j]? = some u → (w.alloc (.cells #[o] e)).cell? ((⟨w.heap.size, 0, none⟩ : Addr).add j) = some u := by
  intro j u h
  rcases j with _ | j
  · simp at h; subst h
    exact (Bk.made w e #[o]).cell 0
  · simp at h
theorem bcell {W w1 : World} (hb : Below W.heap.size W w1) : (∀ b o, b < W.heap.size → w1.cell? ⟨b, o, none⟩ = W.cell? ⟨b, o, none⟩) ∧ (∀ b o, b < W.heap.size → w1.frozen? ⟨b, o, none⟩ = W.frozen? ⟨b, o, none⟩) :=
  ⟨fun b o h => hb.cell (p := ⟨b, o, none⟩) h, fun b o h => hb.frozen (p := ⟨b, o, none⟩) h⟩
theorem wrap_u8 {x : Int} (h0 : 0 ≤ x) (h : x < 256) : IntKind.u8.wrap x = x := by
  simp only [IntKind.wrap, IntKind.bits, IntKind.signed]
  simp
  omega
theorem conv_one {P : Program} {src dst e : TypeId} (hs : P.underlying src = some (.slice e)) (he : P.underlying e = some (.int .u8)) (hd : P.underlying dst = some .string) (x : Int) (h0 : 0 ≤ x) (h1 : x < 256) :
    ∀ (W : World) (g c : Nat), W.cell? ⟨g, 0, none⟩ = some (.int .u8 x) → (convert src dst (.slice (some ⟨g, 0, none⟩) 1 c)).run P W = .ok (.string (str [UInt8.ofNat x.toNat])) W := by
  intro W g c hc
  have := run_convert_bytes_back (P := P) W src dst e ⟨g, 0, none⟩ c [UInt8.ofNat x.toNat] hs he hd (fun j hj => by
    have : j = 0 := by simpa using hj
    subst this
    have h2 := byteV_int h0 h1
    unfold byteV at h2
    rw [← h2] at hc
    exact hc)
  exact this
/-- '[]byte(s)': a new row that holds the bytes -/
theorem conv_bytes {P : Program} {src dst e : TypeId} (hs : P.underlying src = some .string) (hd : P.underlying dst = some (.slice e)) (he : P.underlying e = some (.int .u8)) (w : World) (s : ByteArray) :
    ∃ cap w1, (convert src dst (.string s)).run P w = .ok (.slice (some ⟨w.heap.size, 0, none⟩) s.size cap) w1 ∧ w1.heap.size = w.heap.size + 1 ∧ Below w.heap.size w w1 ∧
      (∀ j b, (lst s)[j]? = some b → w1.cell? ⟨w.heap.size, j, none⟩ = some (.int .u8 (b.toNat : Int))) ∧ s.size ≤ cap ∧ (s.size ≤ maxLen → cap ≤ maxLen) := by
  refine ⟨_, _, Lib.run_convert_string_bytes w src dst e s hs hd he, Lib.bytesWorld_size w e s, ⟨rfl, rfl, rfl, by rw [Lib.bytesWorld_size]; omega, fun k hk => Lib.bytesWorld_at_old w e s k hk⟩, fun j b hj => ?_, ?_, ?_⟩
  · have hjl : j < s.size := by rw [size_lst]; exact (List.getElem?_eq_some_iff.1 hj).1
    rw [Lib.bytesWorld_cell w e s j hjl]
    have : s.data.toList.getD j 0 = b := by
      rw [List.getD_eq_getElem?_getD]
      show ((lst s)[j]?).getD 0 = b
      rw [hj]; rfl
    rw [this]
  · exact grownCap_ge _ _ _ _
  · exact fun h => grownCap_le_maxLen _ _ _ _ h
end Go.Proofs.YtckdahojhdbpjaaDoor
