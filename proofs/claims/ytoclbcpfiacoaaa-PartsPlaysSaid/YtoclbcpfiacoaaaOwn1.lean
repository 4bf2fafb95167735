/- a map of one entry, known whole, reads as its datum -/
import Derived.Test.YtoclbcpfiacoaaaAlive2
import Derived.Maps.RangeWalk
import Derived.Maps.OwnSet
import Derived.Maps.StringElems
namespace Go.Proofs.Ytoclbcpfiacoaaa
set_option linter.unusedVariables false
set_option linter.unusedSimpArgs false
open Go.RowKit

theorem own_one {H : Type} {P : Program} {W : World} {mty kt et : TypeId} {T : Nat} {k : Int} {val : Value} {R : Value → Option (DataW H × List MemPlace)} {d : DataW H} {ps : List MemPlace} (hm : P.underlying mty = some (.map kt et)) (hk : P.underlying kt = some (.int .i64)) (hwf : (Lit.int .i64 k).wf = true)
    (hv : R val = some (d, ps)) (hW : W.heap[T]? = some (.map #[{ key := .int .i64 k, val := val, born := 0 }] 1)) : W.ownsMap P kt R T 1 ((DataW.map []).put (.int .i64 k) d) := by
  have h0 : (putO W T (.map #[] 0)).heap[T]? = some (.map #[] 0) := put_same hW
  have hown0 : (putO W T (.map #[] 0)).ownsMap P kt R T 0 (.map []) := by
    obtain ⟨es, c, hb, F, hs, hD⟩ := World.ownsMap_made (H := H) W P kt R
    have e := World.alloc_heap_new W (.map #[] 0)
    rw [e] at hb
    cases hb
    exact ⟨#[], 0, h0, F, Nat.le_refl _, hD⟩
  obtain ⟨w', hrun, hown, _⟩ := hown0.update (Maps.int_keyed hk) hm (by unfold maxLen; decide) (Maps.keyOf_int_mk hk hwf) hv
  have hu := upd_int (P := P) (w := putO W T (.map #[] 0)) (k := k) (val := val) hm hk h0 rfl
  rw [hrun] at hu
  cases hu
  obtain ⟨es, c, hb, F, hs, hD⟩ := hown
  have e : (putO (putO W T (.map #[] 0)) T (.map #[{ key := .int .i64 k, val := val, born := 0 }] 1)).heap[T]? = some (.map #[{ key := .int .i64 k, val := val, born := 0 }] 1) := put_same h0
  have e2 := e.symm.trans hb
  cases e2
  exact ⟨_, _, hW, F, hs, hD⟩
end Go.Proofs.Ytoclbcpfiacoaaa
