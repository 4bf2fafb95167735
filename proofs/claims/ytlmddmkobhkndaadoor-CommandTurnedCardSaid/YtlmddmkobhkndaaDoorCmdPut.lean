/- command.Put and the reference's Put: contracts over the loaded program. -/
import Derived.Test.YtlmddmkobhkndaaDoorCmd
namespace Go.Proofs.YtlmddmkobhkndaaDoor
set_option linter.unusedVariables false
set_option linter.unusedSimpArgs false
open Go.RowKit Go.Lib

def padL (l : List UInt8) : List UInt8 := l ++ List.replicate (12 - l.length) 0
theorem padL_snoc {l : List UInt8} (h : l.length < 12) : padL (l ++ [0]) = padL l := by
  unfold padL
  rw [List.append_assoc, List.length_append, show 12 - l.length = (12 - (l.length + [(0 : UInt8)].length)) + 1 by simp; omega, List.replicate_succ]
  rfl
theorem padL_len {l : List UInt8} (h : l.length ≤ 12) : (padL l).length = 12 := by unfold padL; simp; omega
theorem padL_all {l : List UInt8} (h : ¬ l.length < 12) : padL l = l := by unfold padL; rw [show 12 - l.length = 0 by omega]; simp

set_option maxHeartbeats 1000000 in
theorem rput (s : ByteArray) (hs : s.size ≤ maxLen) (w : World) : Calls Tryd.prog 13 #[.string s] w fun e w' => e = .returned (.string (str (padL (lst s)))) ∧ w = w' := by
  unfold maxLen at hs
  go_enter Tryd.func13, Tryd.ntmps13
  go_wp2
  go_loop [0] (fun v0 => ∃ (S : ByteArray), S.size ≤ 9223372036854775807 ∧ Sh (padL (lst S) = padL (lst s)) ∧ v0 = .string S) (fun v0 => match v0 with | .string S => 12 - S.size | _ => 0)
  case atStart => exact ⟨s, by omega, ⟨rfl⟩, rfl⟩
  case round =>
    obtain ⟨S, hS, HX, rfl⟩ := hrel
    by_cases c : S.size < 12
    · have HY : Sh (padL (lst (S ++ ⟨#[0]⟩)) = padL (lst s)) := ⟨by
        rw [← HX.out, ← padL_snoc (l := lst S) (by rw [← size_lst]; exact c)]
        congr 1⟩
      have hsz : (S ++ (⟨#[0]⟩ : ByteArray)).size = S.size + 1 := by rw [ByteArray.size_append]; rfl
      go_wp2
      go_round
      case rel => exact ⟨S ++ ⟨#[0]⟩, by omega, HY, rfl⟩
      case measure =>
        show 12 - (S ++ (⟨#[0]⟩ : ByteArray)).size < 12 - S.size
        rw [hsz]; omega
    · have HE : Sh (S = str (padL (lst s))) := ⟨by rw [← HX.out, padL_all (by rw [← size_lst]; exact c), str_lst]⟩
      go_wp2
      go_ret
      exact ⟨ret_str HE.out, rfl⟩

theorem below_setRow' {B g : Nat} {w0 w : World} (hb : Below B w0 w) (hBg : B ≤ g) (cs : Array Value) : Below B w0 (w.setRow g cs) :=
  hb.trans ⟨rfl, rfl, rfl, by simp [World.setRow], fun k hk => setRow_other w g k cs (by omega)⟩
/-- copying a string's bytes into a row that is known whole -/
theorem wpList_copy_str {P : Program} {w : World} {ops : Array Oper} {rest : List Oper} {o : Oper} {a : Act} {Q : Exit → Act → World → Prop} (hgd : o.guard = none) (d s : Operand) (dT sT : TypeId)
    (ho : o.op = .call { callee := .builtin .copy, args := #[d, s], argTypes := #[dT, sT] }) (elem : TypeId) (hu : P.underlying dT = some (.slice elem)) (hsz : (P.info? elem).map (·.size) = some 1)
    (g dLen dCap : Nat) (S : ByteArray) (hd : a.eval d = .slice (some ⟨g, 0, none⟩) dLen dCap) (hs : a.eval s = .string S)
    (cur : Array Value) (t : TypeId) (hg : w.heap[g]? = some (.cells cur t (0, 0))) (hn : S.size ≤ dLen) (hfit : S.size ≤ cur.size) (B : Nat) (w0 : World) (hb : Below B w0 w) (hBg : B ≤ g)
    (h : ∀ w', Bk w' g t (cellsB (lst S) ++ cur.toList.drop S.size).toArray → Below B w0 w' → wpList P ops Q rest (a.put o.dst (goInt S.size)) w') : wpList P ops Q (o :: rest) a w := by
  refine wpList_plain hgd fun K hK => ?_
  have hl : (cellsB (lst S)).length = S.size := by rw [cellsB_length, size_lst]
  have hst := run_storeCells_at P g 0 t (cellsB (lst S)) 0 cur w hg (by rw [hl]; omega) (fun v hv => by
    obtain ⟨b, _, rfl⟩ := List.mem_map.1 hv
    simp [byteV, Value.oneCell'])
  rw [hl] at hst
  have hmin : Nat.min S.size dLen = S.size := Nat.min_eq_left hn
  have hex : List.take S.size (List.map (fun b : UInt8 => Value.int .u8 (b.toNat : Int)) S.data.toList) = cellsB (lst S) := by
    rw [List.take_of_length_le (by rw [List.length_map, size_lst]; exact Nat.le_refl _)]
    rfl
  have hrun : (Builtin.copy_ #[dT, sT] o.type #[.slice (some ⟨g, 0, none⟩) dLen dCap, .string S]).run P w = .ok (goInt S.size) (w.setRow g (cellsB (lst S) ++ cur.toList.drop S.size).toArray) := by
    cases hq : P.info? elem with
    | none => simp [hq] at hsz
    | some i =>
      have hst' := hst
      simp only [Nat.zero_add, Nat.add_zero, List.take_zero, List.nil_append] at hst'
      simp [Builtin.copy_, run_underlying hu, Builtin.lenOf, Builtin.firstCells, sizeOf, typeInfo, hq, hmin, hex, hst']
  unfold Oper.wp
  simp [execOp, ho, resolve, invoke, builtin, hd, hs, hrun, Result.andThen]
  exact hK _ _ (h _ (setRow_heap w g _ _ t _ hg) (below_setRow' hb hBg _))
theorem info5 : (Tryd.prog.info? 5).map (·.size) = some 1 := by kernel_rfl
theorem zeros12 {s : ByteArray} (h : s.size ≤ 12) : cellsB (lst s) ++ List.drop s.size [Value.int .u8 0, .int .u8 0, .int .u8 0, .int .u8 0, .int .u8 0, .int .u8 0, .int .u8 0, .int .u8 0, .int .u8 0, .int .u8 0, .int .u8 0, .int .u8 0] = cellsB (padL (lst s)) := by
  unfold padL
  rw [cellsB_append]
  congr 1
  rw [show [Value.int .u8 0, .int .u8 0, .int .u8 0, .int .u8 0, .int .u8 0, .int .u8 0, .int .u8 0, .int .u8 0, .int .u8 0, .int .u8 0, .int .u8 0, .int .u8 0] = List.replicate 12 (Value.int .u8 0) from rfl, List.drop_replicate, ← size_lst]
  unfold cellsB
  rw [List.map_replicate]
  rfl
theorem conv_row12 {w : World} {g c : Nat} {t : TypeId} {l : List UInt8} (h : Bk w g t (cellsB l).toArray) (hl : l.length = 12) : (convert 28 9 (.slice (some ⟨g, 0, none⟩) 12 c)).run Tryd.prog w = .ok (.string (str l)) w := by
  rw [← hl]
  refine run_convert_bytes_back w 28 9 5 ⟨g, 0, none⟩ c l Tryd.underlying28 Tryd.underlying5 Tryd.underlying9 (fun j hj => ?_)
  have : (⟨g, 0, none⟩ : Addr).add j = ⟨g, j, none⟩ := by unfold Addr.add; split <;> simp_all
  rw [this, h.cell]
  simp [cellsB, byteV, hj]
def cput (l : List UInt8) : List UInt8 × Int := if mayL l then (padL l, 0) else ([], 11)
def cputV (x : List UInt8 × Int) : Value := .tuple #[.string (str x.1), .int .i64 x.2]
set_option maxHeartbeats 1000000 in
theorem cput_ok (s : ByteArray) (w : World) : Calls Tryd.prog 9 #[.string s] w fun e w' => e = .returned (cputV (cput (lst s))) ∧ Below w.heap.size w w' := by
  have hC := sh (cmay s)
  by_cases c : mayL (lst s) = true
  · have hlen : s.size ≤ 12 := by
      unfold mayL at c
      simp only [Bool.and_eq_true, decide_eq_true_eq] at c
      rw [size_lst]; exact c.2
    have HV : Sh (cputV (cput (lst s)) = .tuple #[.string (str (padL (lst s))), .int .i64 0]) := ⟨by unfold cput cputV; rw [if_pos c]⟩
    have hcs : Sh (cellsB (lst s) ++ List.drop s.size [Value.int .u8 0, .int .u8 0, .int .u8 0, .int .u8 0, .int .u8 0, .int .u8 0, .int .u8 0, .int .u8 0, .int .u8 0, .int .u8 0, .int .u8 0, .int .u8 0] = cellsB (padL (lst s))) := ⟨zeros12 hlen⟩
    have HL : Sh ((padL (lst s)).length = 12) := ⟨padL_len (by rw [← size_lst]; exact hlen)⟩
    generalize padL (lst s) = L at *
    rw [c] at hC
    clear c
    go_enter Tryd.func9, Tryd.ntmps9
    go_wp2_with (first
      | (go_at_call 10; refine (hC.out _).mono ?_; rintro e' w' ⟨rfl, hb⟩)
      | ((with_reducible show wpList _ _ _ _ _ _); refine wpList_copy_str (o := ⟨some 10, _, _, _, _, _⟩) rfl (.tmp 8) (.tmp 9) 28 9 rfl 5 Tryd.underlying28 info5 w'.heap.size 12 12 s rfl rfl _ _ (Bk.made w' _ _) hlen hlen w'.heap.size w' ((Below.refl _ w').alloc (Nat.le_refl _) _) (Nat.le_refl _) ?_; intro w2 hg2 hb2; have hg3 : Bk w2 w'.heap.size 30 (cellsB L).toArray := (by rw [← hcs.out]; exact hg2); have hcv := conv_row12 (c := 12) hg3 HL.out))
    go_ret2
    exact ⟨by rw [HV.out]; rfl, hb.trans (hb2.mono hb.size)⟩
  · have c' : mayL (lst s) = false := by simpa using c
    have HV : Sh (cputV (cput (lst s)) = .tuple #[.string ⟨#[]⟩, .int .i64 11]) := ⟨by unfold cput cputV; rw [if_neg c]; rfl⟩
    rw [c'] at hC
    clear c c'
    go_enter Tryd.func9, Tryd.ntmps9
    go_wp2_with (go_at_call 10; refine (hC.out _).mono ?_; rintro e' w' ⟨rfl, hb⟩)
    go_ret2
    exact ⟨by rw [HV.out]; rfl, hb⟩
end Go.Proofs.YtlmddmkobhkndaaDoor
