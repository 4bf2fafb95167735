/- parts.Cut: contract (a range over slices.Chunk). -/
import Derived.Test.YtoclbcpfiacoaaaChunkUse
import Derived.Test.YtoclbcpfiacoaaaArgs
import Derived.WalkSpells
import Derived.WalkLawsBesides
import Derived.OwnWalk
namespace Go.Proofs.Ytoclbcpfiacoaaa
set_option linter.unusedVariables false
set_option linter.unusedSimpArgs false
open Go.RowKit Go.Shelf
attribute [local go_sem] Oper.semAt_some

theorem within_ok (n a b : Int) (w : World) : Calls Try.prog 32 #[.int .i64 n, .int .i64 a, .int .i64 b] w fun e w' => e = .returned (.bool (decide (a ≤ n) && decide (n ≤ b))) ∧ w = w' := by
  by_cases c1 : a ≤ n <;> by_cases c2 : n ≤ b
  all_goals
    go_enter Try.func32, Try.ntmps32
    go_wp2
    go_ret
    exact ⟨by simp [c1, c2], rfl⟩
def pc (id of : Int) (i : Nat) (t : List UInt8) : List Value := [.int .i64 id, .int .i64 (i : Int), .int .i64 of, .string (str t)]
/-- the cells of n parts, their texts f -/
def pcs (id of : Int) (n : Nat) (f : Nat → List UInt8) : List Value := (List.range n).flatMap fun i => pc id of i (f i)
theorem pcs_snoc (id of : Int) (n : Nat) (f : Nat → List UInt8) : pcs id of (n + 1) f = pcs id of n f ++ pc id of n (f n) := by simp [pcs, List.range_succ]
theorem pcs_len (id of : Int) (n : Nat) (f : Nat → List UInt8) : (pcs id of n f).length = n * 4 := by
  induction n with
  | zero => rfl
  | succ n ih => rw [pcs_snoc, List.length_append, ih]; simp [pc]; omega
theorem pcs_congr {id of : Int} {f g : Nat → List UInt8} : ∀ {n : Nat}, (∀ i, i < n → f i = g i) → pcs id of n f = pcs id of n g
  | 0, _ => rfl
  | n + 1, h => by rw [pcs_snoc, pcs_snoc, pcs_congr (fun i hi => h i (by omega)), h n (by omega)]
/-- the i-th piece, and how many -/
def piece (sz : Nat) (l : List UInt8) (i : Nat) : List UInt8 := (l.drop (i * sz)).take sz
def pieces (sz : Nat) (n : Nat) : Nat := max ((n + sz - 1) / sz) 1
theorem info33 : (Try.prog.info? 33).map (fun i => (i.zero, i.size, i.bytes)) = some (some (.agg #[.int .i64 0, .int .i64 0, .int .i64 0, .string ⟨#[]⟩]), 4, 40) := by kernel_rfl
def txt (z : Nat) (s : ByteArray) (l : List Nat) (i : Nat) : List UInt8 := ((lst s).drop (l[i]?.getD 0)).take z
theorem txt_last {z : Nat} {s : ByteArray} {l : List Nat} {x n : Nat} (h : l.length = n) : txt z s (l ++ [x]) n = ((lst s).drop x).take z := by
  unfold txt; subst h; simp
theorem txt_old {z : Nat} {s : ByteArray} {l : List Nat} {x i : Nat} (h : i < l.length) : txt z s (l ++ [x]) i = txt z s l i := by
  unfold txt; rw [List.getElem?_append_left h]
theorem conv_off {g o : Nat} {l : List UInt8} {W : World} (c : Nat) (h : ∀ j b, l[j]? = some b → W.cell? ⟨g, o + j, none⟩ = some (.int .u8 (b.toNat : Int))) :
    (convert 67 9 (.slice (some ⟨g, o, none⟩) l.length c)).run Try.prog W = .ok (.string (str l)) W := by
  refine run_convert_bytes_back W 67 9 5 ⟨g, o, none⟩ c l Try.underlying67 Try.underlying5 Try.underlying9 (fun j hj => ?_)
  have : (⟨g, o, none⟩ : Addr).add j = ⟨g, o + j, none⟩ := by unfold Addr.add; split <;> simp_all
  rw [this]
  exact h j _ (List.getElem?_eq_getElem hj)
theorem cells_new (w : World) (xs : Array Value) (e : TypeId) : ∀ j u, xs.toList[j]? = some u → (w.alloc (.cells xs e)).cell? ((⟨w.heap.size, 0, none⟩ : Addr).add j) = some u := by
  intro j u h
  have : (⟨w.heap.size, 0, none⟩ : Addr).add j = ⟨w.heap.size, j, none⟩ := by unfold Addr.add; split <;> simp_all
  rw [this, (Bk.made w e xs).cell j, ← Array.getElem?_toList]
  exact h
set_option maxRecDepth 100000 in
set_option maxHeartbeats 2000000 in
theorem cut_bad (id sz : Int) (s : ByteArray) (hbad : ¬ (0 ≤ id ∧ id ≤ 2147483647 ∧ 1 ≤ sz ∧ sz ≤ 65536)) (w : World) : Calls Try.prog 10 #[.int .i64 id, .string s, .int .i64 sz] w fun e w' => e = .returned (.tuple #[.slice none 0 0, .int .i64 1]) ∧ Below w.heap.size w w' := by
  have H1 := sh (fun W => within_ok id 0 2147483647 W)
  have H2 := sh (fun W => within_ok sz 1 65536 W)
  by_cases c1 : 0 ≤ id ∧ id ≤ 2147483647
  · have e1 : (decide (0 ≤ id) && decide (id ≤ 2147483647)) = true := by simp [c1]
    have e2 : (decide (1 ≤ sz) && decide (sz ≤ 65536)) = false := by
      cases h : (decide (1 ≤ sz) && decide (sz ≤ 65536)) with
      | false => rfl
      | true => simp at h; exact absurd ⟨c1.1, c1.2, h.1, h.2⟩ hbad
    rw [e1] at H1
    rw [e2] at H2
    clear e1 e2 c1 hbad
    go_enter Try.func10, Try.ntmps10
    go_wp2_with (first
      | (go_at_call 32; refine (H1.out _).mono ?_; clear H1; rintro e' w1 ⟨rfl, rfl⟩)
      | (go_at_call 32; refine (H2.out _).mono ?_; clear H2; rintro e' w2 ⟨rfl, rfl⟩))
    go_ret2
    exact ⟨rfl, (Below.refl _ w).alloc (Nat.le_refl _) _⟩
  · have e1 : (decide (0 ≤ id) && decide (id ≤ 2147483647)) = false := by
      cases h : (decide (0 ≤ id) && decide (id ≤ 2147483647)) with
      | false => rfl
      | true => simp at h; exact absurd h c1
    rw [e1] at H1
    clear e1 c1 hbad H2
    go_enter Try.func10, Try.ntmps10
    go_wp2_with (go_at_call 32; refine (H1.out _).mono ?_; clear H1; rintro e' w1 ⟨rfl, rfl⟩)
    go_ret2
    exact ⟨rfl, (Below.refl _ w).alloc (Nat.le_refl _) _⟩
theorem div_fact (n z : Nat) (hz : 1 ≤ z) (hn : n ≤ 1000000) (hz2 : z ≤ 65536) : ∃ q : Nat, ((n : Int) + (z : Int) - 1).tdiv (z : Int) = (q : Int) ∧ q = (n + z - 1) / z := by
  refine ⟨(n + z - 1) / z, ?_, rfl⟩
  rw [Int.tdiv_eq_ediv_of_nonneg (by omega)]
  have : (n : Int) + (z : Int) - 1 = ((n + z - 1 : Nat) : Int) := by omega
  rw [this]
  exact (Int.natCast_ediv _ _).symm
set_option maxRecDepth 100000 in
set_option maxHeartbeats 2000000 in
theorem cut_empty (id : Int) (z : Nat) (hid : 0 ≤ id ∧ id ≤ 2147483647) (hz : 1 ≤ z) (hz2 : z ≤ 65536) (w : World) : Calls Try.prog 10 #[.int .i64 id, .string ⟨#[]⟩, .int .i64 (z : Int)] w fun e w' =>
    ∃ v, e = .returned (.tuple #[v, .int .i64 0]) ∧ w'.ownsRow w.heap.size 33 4 v 1 (pcs id 1 1 (piece z [])) ∧ Below w.heap.size w w' := by
  have e1 : (decide (0 ≤ id) && decide (id ≤ 2147483647)) = true := by simp [hid]
  have e2 : (decide (1 ≤ (z : Int)) && decide ((z : Int) ≤ 65536)) = true := by simp; omega
  have H1 := sh (fun W => within_ok id 0 2147483647 W)
  have H2 := sh (fun W => within_ok z 1 65536 W)
  rw [e1] at H1
  rw [e2] at H2
  obtain ⟨q, hq, hq2⟩ := div_fact 0 z hz (by omega) hz2
  have hq0 : q = 0 := by rw [hq2]; exact Nat.div_eq_of_lt (by omega)
  subst hq0
  have hq' : ((z : Int) - 1).tdiv (z : Int) = 0 := by
    have e : (z : Int) - 1 = ((0 : Nat) : Int) + (z : Int) - 1 := by omega
    rw [e]; exact hq
  clear e1 e2 hq2 hq
  go_enter Try.func10, Try.ntmps10
  go_wp2_with (first
    | (go_at_call 32; refine (H1.out _).mono ?_; clear H1; rintro e' w1 ⟨rfl, rfl⟩)
    | (go_at_call 32; refine (H2.out _).mono ?_; clear H2; rintro e' w2 ⟨rfl, rfl⟩))
  go_ret2
  have h := World.alloc_heap_new ((w.alloc (.cells #[.int .i64 id] 3)).alloc (.cells #[.int .i64 1] 3)) (.cells #[.int .i64 id, .int .i64 0, .int .i64 1, .string ⟨#[]⟩] 33)
  rw [World.size_alloc, World.size_alloc] at h
  exact ⟨_, rfl, ⟨by simp [pcs, pc], .inr ⟨w.heap.size + 1 + 1, 1, #[.int .i64 id, .int .i64 0, .int .i64 1, .string ⟨#[]⟩], rfl, by omega, h, Nat.le_refl _, by unfold maxLen; decide, rfl, by simp [pcs, pc, piece, str]⟩⟩, (((Below.refl _ w).alloc (Nat.le_refl _) _).alloc (by simp) _).alloc (by simp; omega) _⟩
set_option maxRecDepth 100000 in
set_option maxHeartbeats 2000000 in
theorem cut_many (id : Int) (z : Nat) (s : ByteArray) (hs : s.size ≤ 1000000) (hid : 0 ≤ id ∧ id ≤ 2147483647) (hz : 1 ≤ z) (hz2 : z ≤ 65536) (hmany : 1024 < (s.size + z - 1) / z) (w : World) : Calls Try.prog 10 #[.int .i64 id, .string s, .int .i64 (z : Int)] w fun e w' =>
    e = .returned (.tuple #[.slice none 0 0, .int .i64 4]) ∧ Below w.heap.size w w' := by
  have e1 : (decide (0 ≤ id) && decide (id ≤ 2147483647)) = true := by simp [hid]
  have e2 : (decide (1 ≤ (z : Int)) && decide ((z : Int) ≤ 65536)) = true := by simp; omega
  have H1 := sh (fun W => within_ok id 0 2147483647 W)
  have H2 := sh (fun W => within_ok z 1 65536 W)
  rw [e1] at H1
  rw [e2] at H2
  obtain ⟨q, hq, hq2⟩ := div_fact s.size z hz hs hz2
  have hq1 : (1024 : Int) < (q : Int) := by omega
  have hq0 : 1 ≤ q := by omega
  have hqb : q ≤ 1100000 := by rw [hq2]; exact Nat.le_trans (Nat.div_le_self _ _) (by omega)
  clear e1 e2 hq2 hmany
  go_enter Try.func10, Try.ntmps10
  go_wp2_with (first
    | (go_at_call 32; refine (H1.out _).mono ?_; clear H1; rintro e' w1 ⟨rfl, rfl⟩)
    | (go_at_call 32; refine (H2.out _).mono ?_; clear H2; rintro e' w2 ⟨rfl, rfl⟩))
  all_goals first
    | (exfalso; omega)
    | skip
  all_goals
    go_ret2
    exact ⟨rfl, ((Below.refl _ w).alloc (Nat.le_refl _) _).alloc (by simp) _⟩
set_option maxRecDepth 100000 in
set_option maxHeartbeats 2000000 in
theorem cut_ok (id : Int) (z : Nat) (s : ByteArray) (hs1 : 1 ≤ s.size) (hs : s.size ≤ 1000000) (hid : 0 ≤ id ∧ id ≤ 2147483647) (hz : 1 ≤ z) (hz2 : z ≤ 65536) (hfew : (s.size + z - 1) / z ≤ 1024) (w : World) : Calls Try.prog 10 #[.int .i64 id, .string s, .int .i64 (z : Int)] w fun e w' =>
    ∃ v, e = .returned (.tuple #[v, .int .i64 0]) ∧ w'.ownsRow w.heap.size 33 4 v ((s.size + z - 1) / z) (pcs id (((s.size + z - 1) / z : Nat) : Int) ((s.size + z - 1) / z) (piece z (lst s))) ∧ Below w.heap.size w w' := by
  have e1 : (decide (0 ≤ id) && decide (id ≤ 2147483647)) = true := by simp [hid]
  have e2 : (decide (1 ≤ (z : Int)) && decide ((z : Int) ≤ 65536)) = true := by simp; omega
  have H1 := sh (fun W => within_ok id 0 2147483647 W)
  have H2 := sh (fun W => within_ok z 1 65536 W)
  rw [e1] at H1
  rw [e2] at H2
  obtain ⟨q, hq, hq2⟩ := div_fact s.size z hz hs hz2
  rw [← hq2] at hfew ⊢
  have hq1 : 1 ≤ q := by rw [hq2]; exact (Nat.one_le_div_iff (by omega)).2 (by omega)
  have HQ := sh hq2
  have hne : (s.toList == []) = false := by
    rw [beq_eq_false_iff_ne, ByteArray.toList_eq]
    intro h
    have h3 := size_lst s
    unfold lst at h3
    rw [h] at h3
    have h4 : s.size = 0 := h3
    omega
  clear e1 e2 hq2
  refine (callsIn_wide (n := 6)).1 ?_
  refine callsIn_of_wp_marks Try.func10 rfl trivial ?_ rfl
  simp only [Try.ntmps10, List.size_toArray, List.length_cons, List.length_nil, Nat.reduceAdd, Nat.reduceSub, Array.replicate_succ, Array.replicate_zero, List.push_toArray, List.append_toArray, List.nil_append, List.cons_append]
  obtain ⟨cap, w3, hcv, hsz3, hb3, hcell3, hcap, hcapm⟩ := conv_bytes (P := Try.prog) Try.underlying9 Try.underlying67 Try.underlying5 (((w.alloc (.cells #[.int .i64 id] 3)).alloc (.cells #[.int .i64 (q : Int)] 3)).alloc (.cells #[.slice none 0 0] 23)) s
  simp only [World.size_alloc] at hsz3 hb3 hcell3
  obtain ⟨i0, hi0, hz0, hz1, hz2'⟩ := info_parts info33
  have HL := sh (size_lst s)
  gi_wp2_with (first
    | (refine ⟨trivial, ?_⟩; gi_at_call 32; refine (callsIn_wide.2 (H1.out _)).mono ?_; clear H1; rintro e' w1 ⟨rfl, rfl⟩)
    | (refine ⟨trivial, ?_⟩; gi_at_call 32; refine (callsIn_wide.2 (H2.out _)).mono ?_; clear H2; rintro e' w2 ⟨rfl, rfl⟩)
    | (refine ⟨trivial, ?_⟩; gi_at_call 33; refine (chunk_call Fence.wide _ trivial rfl _ _ _ z hz _).mono ?_; rintro e w' ⟨rfl, rfl⟩))
  have kb : ∀ {B : Nat} {t : TypeId} {v : Value} {X : World}, Boxed X B t v → Below (w.heap.size + 1 + 1 + 1) X w3 → B < w.heap.size + 1 + 1 + 1 → Boxed w3 B t v := fun h hb hB => (hb.block _ hB).trans h
  have bR1 : Boxed w3 w.heap.size 3 (.int .i64 id) := kb (((Boxed.new w 3 (.int .i64 id)).alloc (.cells #[.int .i64 (q : Int)] 3)).alloc (.cells #[.slice none 0 0] 23)) hb3 (by omega)
  have bR2 : Boxed w3 (w.heap.size + 1) 3 (.int .i64 (q : Int)) := kb ((by have h := Boxed.new (w.alloc (.cells #[.int .i64 id] 3)) 3 (.int .i64 (q : Int)); rw [World.size_alloc] at h; exact h : Boxed ((w.alloc (.cells #[.int .i64 id] 3)).alloc (.cells #[.int .i64 (q : Int)] 3)) (w.heap.size + 1) 3 (.int .i64 (q : Int))).alloc (.cells #[.slice none 0 0] 23)) hb3 (by omega)
  have bO : Boxed w3 (w.heap.size + 1 + 1) 23 (.slice none 0 0) := kb (by have h := Boxed.new ((w.alloc (.cells #[.int .i64 id] 3)).alloc (.cells #[.int .i64 (q : Int)] 3)) 23 (.slice none 0 0); rw [World.size_alloc, World.size_alloc] at h; exact h) hb3 (by omega)
  have hBw : Below w.heap.size w w3 := ((((Below.refl _ w).alloc (Nat.le_refl _) _).alloc (by simp) _).alloc (by simp; omega) _).trans (hb3.mono (by omega))
  have bS := Boxed.new w3 67 (.slice (some ⟨w.heap.size + 1 + 1 + 1, 0, none⟩) s.size cap)
  have bN := Boxed.new (w3.alloc (.cells #[.slice (some ⟨w.heap.size + 1 + 1 + 1, 0, none⟩) s.size cap] 67)) 3 (.int .i64 (z : Int))
  rw [World.size_alloc] at bN
  rw [hsz3] at bS bN
  obtain ⟨W0, hW0⟩ : ∃ W0, (w3.alloc (.cells #[.slice (some ⟨w.heap.size + 1 + 1 + 1, 0, none⟩) s.size cap] 67)).alloc (.cells #[.int .i64 (z : Int)] 3) = W0 := ⟨_, rfl⟩
  have hsz0 : W0.heap.size = w.heap.size + 1 + 1 + 1 + 1 + 1 + 1 := by rw [← hW0]; simp; omega
  have cR1 : Boxed W0 w.heap.size 3 (.int .i64 id) := by rw [← hW0]; exact (bR1.alloc _).alloc _
  have cR2 : Boxed W0 (w.heap.size + 1) 3 (.int .i64 (q : Int)) := by rw [← hW0]; exact (bR2.alloc _).alloc _
  have cO : Boxed W0 (w.heap.size + 1 + 1) 23 (.slice none 0 0) := by rw [← hW0]; exact (bO.alloc _).alloc _
  have cS : Boxed W0 (w.heap.size + 1 + 1 + 1 + 1) 67 (.slice (some ⟨w.heap.size + 1 + 1 + 1, 0, none⟩) s.size cap) := by rw [← hW0]; exact bS.alloc _
  have cN : Boxed W0 (w.heap.size + 1 + 1 + 1 + 1 + 1) 3 (.int .i64 (z : Int)) := by rw [← hW0]; exact bN
  have cB : ∀ j b, (lst s)[j]? = some b → W0.cell? ⟨w.heap.size + 1 + 1 + 1, j, none⟩ = some (.int .u8 (b.toNat : Int)) := fun j b hj => by
    rw [← hW0]
    exact ((((Below.refl _ w3).alloc (Nat.le_refl _) _).alloc (by simp) _).cell (p := ⟨w.heap.size + 1 + 1 + 1, j, none⟩) (by simp; omega)).trans (hcell3 j b hj)
  have hBW0 : Below w.heap.size w W0 := by rw [← hW0]; exact (hBw.alloc (by omega) _).alloc (by simp; omega) _
  rw [hW0]
  clear bR1 bR2 bO bS bN hBw hcell3 hb3 hcv kb hW0
  generalize hN : w.heap.size = N at *
  refine wpIn_rangeFunc_ownG rfl (by decide) (gf := 48) (lb := #[.pointer (some ⟨N + 1 + 1 + 1 + 1, 0, none⟩), .pointer (some ⟨N + 1 + 1 + 1 + 1 + 1, 0, none⟩)]) rfl trivial (enters_of Try.func48 (by kernel_rfl) rfl)
    (chunk_stops Fence.wide _ trivial rfl (by decide) (N + 1 + 1 + 1 + 1) (N + 1 + 1 + 1 + 1 + 1) (N + 1 + 1 + 1) (N + 1 + 1 + 1 + 1 + 1 + 1) (N + 1 + 1 + 1) s.size cap z hz (by omega) hs hcap (by omega) (by omega) (by omega) (by omega) s.size (fun k hk => Nat.lt_of_le_of_lt (Nat.le_mul_of_pos_right k hz) hk) W0 (by omega) cS.cell cN.cell)
    kpC_t (kpC_b (by omega)) (Below.refl _ _) (fun _ => rfl)
    (fun pre W => (∃ v, Boxed W (N + 1 + 1) 23 v ∧ W.ownsRow (N + 1 + 1 + 1 + 1 + 1 + 1) 33 4 v pre.length (pcs id q pre.length (txt z s (strt pre))) ∧ True) ∧ (Boxed W N 3 (.int .i64 id) ∧ Boxed W (N + 1) 3 (.int .i64 (q : Int))) ∧ (∀ j b, (lst s)[j]? = some b → W.cell? ⟨N + 1 + 1 + 1, j, none⟩ = some (.int .u8 (b.toNat : Int))) ∧ N + 1 + 1 + 1 + 1 + 1 + 1 ≤ W.heap.size ∧ Below N w W)
    (fun c pre W => False)
    ?hI ?hIx ?h0
    (fun x => { tmps := #[.int .i64 id, .string s, .int .i64 (z : Int), .pointer (some ⟨N, 0, none⟩), undef, undef, .slice none 0 0, .int .i64 0, .pointer (some ⟨N + 1, 0, none⟩), .pointer (some ⟨N + 1 + 1, 0, none⟩), .slice (some ⟨N + 1 + 1 + 1, x.1, none⟩) (min z (s.size - x.1)) (min z (s.size - x.1)), .int .i64 id, .bool true, .bool false, .bool false, .int .i64 (z : Int), .bool true, .bool false, .bool false, .string s, .int .i64 (s.size : Int), .int .i64 (z : Int), .int .i64 ((s.size : Int) + (z : Int)), .int .i64 ((s.size : Int) + (z : Int) - 1), .int .i64 (z : Int), .int .i64 (q : Int), .int .i64 (q : Int), .int .i64 (q : Int), .bool (decide ((1024 : Int) < (q : Int))), .string s, .bool false, undef, undef, undef, .string s, .slice (some ⟨N + 1 + 1 + 1, 0, none⟩) s.size cap, .int .i64 (z : Int), .func (.func 48) #[] #[.pointer (some ⟨N + 1 + 1 + 1 + 1, 0, none⟩), .pointer (some ⟨N + 1 + 1 + 1 + 1 + 1, 0, none⟩)], .slice (some ⟨N + 1 + 1 + 1, x.1, none⟩) (min z (s.size - x.1)) (min z (s.size - x.1)), undef, undef, undef, undef, undef, undef, undef, undef, undef, undef, undef], defers := [] })
    ?assign ?body ?done ?stop
  case hI =>
    rintro pre A B row ⟨⟨v, bv, hown, _⟩, ⟨b1, b2⟩, hcl, hN6, hB⟩ hg hr
    refine ⟨⟨v, bx bv hg hr, hown.kept hg ?_, trivial⟩, ⟨bx b1 hg hr, bx b2 hg hr⟩, fun j b hj => cell_kept (hcl j b hj) hg (fun r e => (hr r e).2), Nat.le_trans hN6 hg.size, hB.grown hg (by have := hB.size; omega) (fun k e => by have := (hr k e).1; omega)⟩
    rcases hown.2 with ⟨rfl, _⟩ | ⟨g, cap, cur, rfl, _, hgb, _⟩
    · exact .inl rfl
    · refine .inr fun e' => ?_
      obtain ⟨_, o, ho, hc⟩ := hr g (by simpa [Value.ownBlock] using e'.symm)
      rw [hgb] at ho; cases ho; cases hc
  case hIx => exact fun c pre A B row h _ _ => h
  case h0 => exact ⟨⟨_, cO, own_row_nil _ _ _ _, trivial⟩, ⟨cR1, cR2⟩, cB, by omega, hBW0⟩
  case assign =>
    intro l x W K hK
    gi_wp2
    exact hK
  case body =>
    rintro l pre ⟨x, hx⟩ W ⟨⟨v, bv, hown, _⟩, ⟨b1, b2⟩, hcl, hN6, hB⟩ hlen
    dsimp only
    have hvc := bv.cell
    have hc1b := b1.cell
    have hc2b := b2.cell
    obtain ⟨T, hT, hTl⟩ : ∃ T, ((lst s).drop x).take z = T ∧ T.length = min z (s.size - x) := ⟨_, rfl, by rw [List.length_take, List.length_drop, ← HL.out]⟩
    have hcv := conv_off (g := N + 1 + 1 + 1) (o := x) (l := T) (W := W) (min z (s.size - x)) (fun j b hj => hcl (x + j) b (by
      rw [← hT, List.getElem?_take] at hj
      split at hj
      · rw [List.getElem?_drop] at hj; exact hj
      · cases hj))
    rw [hTl] at hcv
    have hTs : (str T).size ≤ 1000000 := by rw [size_str, hTl]; omega
    have hPC := sh (show pcs id q pre.length (txt z s (strt pre)) ++ pc id q pre.length T = pcs id q (pre ++ [(⟨x, hx⟩ : {i : Nat // i < s.size})]).length (txt z s (strt (pre ++ [(⟨x, hx⟩ : {i : Nat // i < s.size})]))) from by
      rw [List.length_append]
      show _ = pcs id q (pre.length + 1) _
      rw [pcs_snoc, strt_snoc, txt_last (by rw [strt_len]), hT]
      congr 1
      exact pcs_congr fun i hi => (txt_old (by rw [strt_len]; exact hi)).symm)
    generalize min z (s.size - x) = m at *
    have hlen2 : pre.length ≤ 1000000 := by omega
    clear hT hTl
    obtain ⟨P, hP⟩ : ∃ P, str T = P := ⟨_, rfl⟩
    rw [hP] at hcv hTs
    unfold pc at hPC
    rw [hP] at hPC
    clear hP
    have hvf : v = .slice none 0 0 ∧ pre.length = 0 ∨ ∃ g cp, v = .slice (some ⟨g, 0, none⟩) pre.length cp := by
      rcases hown.2 with ⟨e, h⟩ | ⟨g, cp, cur, e, _⟩
      · exact .inl ⟨e, h⟩
      · exact .inr ⟨g, cp, e⟩
    obtain ⟨n, hn⟩ : ∃ n, n = pre.length := ⟨_, rfl⟩
    rw [← hn] at hown hPC hlen2 hvf
    have HN := sh hn
    clear hn hlen
    rcases hvf with ⟨rfl, rfl⟩ | ⟨g, cp, rfl⟩
    · gi_wp2_with (gi_at_builtin; refine wpListIn_append_own _ rfl _ _ 23 rfl (N + 1 + 1 + 1 + 1 + 1 + 1) 33 i0 (.agg #[.int .i64 0, .int .i64 0, .int .i64 0, .string ⟨#[]⟩]) 4 40 Try.underlying23 hi0 hz0 hz1 hz2' rfl (by decide) _ _ _ rfl (hown.alloc _) ⟨_, 0, none⟩ 1 1 [.int .i64 id, .int .i64 ((0 : Nat) : Int), .int .i64 (q : Int), .string P] rfl rfl (cells_new _ _ _) (by simp [Value.oneCell']) (by unfold maxLen; omega) (by omega) (by simp; omega) ?_; intro v' w1 hown' hgrow _; rw [hPC.out] at hown'; obtain ⟨g', cap', rfl⟩ := ownsRow_succ hown'; obtain ⟨hv1, hv2, hr2, hk2, hb2, hj2⟩ := appended2 (n₀ := N) bv (by decide) hown hN6 (by omega) (by omega) (by omega) hown' hgrow; have hc9 := hv1.cell; have hf9 := hv1.frozen)
      have el : (pre ++ [(⟨x, hx⟩ : {i : Nat // i < s.size})]).length = 0 + 1 := by rw [HN.out]; simp
      rw [el] at hr2
      refine ⟨hk2.from _, ⟨hb2.size, fun k h1 h2 => hj2 k (by omega) (by omega)⟩, ⟨_, hv2, by rw [el]; exact hr2, trivial⟩, ⟨(hj2 _ (by omega) (by omega)).trans b1, (hj2 _ (by omega) (by omega)).trans b2⟩, fun j b hj => ?_, Nat.le_trans hN6 hb2.size, hB.trans hb2⟩
      have e := hcl j b hj
      unfold World.cell? at e ⊢
      rw [hj2 (N + 1 + 1 + 1) (by omega) (by omega)]
      exact e
    · gi_wp2_with (gi_at_builtin; refine wpListIn_append_own _ rfl _ _ 23 rfl (N + 1 + 1 + 1 + 1 + 1 + 1) 33 i0 (.agg #[.int .i64 0, .int .i64 0, .int .i64 0, .string ⟨#[]⟩]) 4 40 Try.underlying23 hi0 hz0 hz1 hz2' rfl (by decide) _ _ _ rfl (hown.alloc _) ⟨_, 0, none⟩ 1 1 [.int .i64 id, .int .i64 ((n : Nat) : Int), .int .i64 (q : Int), .string P] rfl rfl (cells_new _ _ _) (by simp [Value.oneCell']) (by unfold maxLen; omega) (by omega) (by simp; omega) ?_; intro v' w1 hown' hgrow _; rw [hPC.out] at hown'; obtain ⟨g', cap', rfl⟩ := ownsRow_succ hown'; obtain ⟨hv1, hv2, hr2, hk2, hb2, hj2⟩ := appended2 (n₀ := N) bv (by decide) hown hN6 (by omega) (by omega) (by omega) hown' hgrow; have hc9 := hv1.cell; have hf9 := hv1.frozen)
      have el : (pre ++ [(⟨x, hx⟩ : {i : Nat // i < s.size})]).length = n + 1 := by rw [HN.out]; simp
      rw [el] at hr2
      refine ⟨hk2.from _, ⟨hb2.size, fun k h1 h2 => hj2 k (by omega) (by omega)⟩, ⟨_, hv2, by rw [el]; exact hr2, trivial⟩, ⟨(hj2 _ (by omega) (by omega)).trans b1, (hj2 _ (by omega) (by omega)).trans b2⟩, fun j b hj => ?_, Nat.le_trans hN6 hb2.size, hB.trans hb2⟩
      have e := hcl j b hj
      unfold World.cell? at e ⊢
      rw [hj2 (N + 1 + 1 + 1) (by omega) (by omega)]
      exact e
  case done =>
    rintro D ys W hD ⟨k, hst, hkL⟩ ⟨⟨v, bv, hown, _⟩, ⟨b1, b2⟩, hcl, hN6, hB⟩ hK
    have hst2 : Starts z k (strt ys) := hst
    have hyk : ys.length = k := by
      have h := congrArg List.length hst2
      rw [strt_len] at h
      simpa using h
    have hk1 : 1 ≤ k := by
      rcases Nat.eq_zero_or_pos k with e | e
      · subst e; omega
      · exact e
    have hkz : (k - 1) * z < s.size := by
      have hm : (k - 1) * z ∈ strt ys := by
        rw [show strt ys = _ from hst2]
        exact List.mem_map.2 ⟨k - 1, List.mem_range.2 (by omega), rfl⟩
      obtain ⟨x, _, e⟩ := List.mem_map.1 hm
      rw [← e]; exact x.2
    have hkq : q = k := by
      rw [HQ.out]
      have e : k * z = (k - 1) * z + z := by
        obtain ⟨k', rfl⟩ : ∃ k', k = k' + 1 := ⟨k - 1, by omega⟩
        rw [Nat.succ_mul]; rfl
      exact Nat.div_eq_of_lt_le (by omega) (by rw [Nat.succ_mul]; omega)
    have hpp : pcs id q ys.length (txt z s (strt ys)) = pcs id q q (piece z (lst s)) := by
      rw [hyk, ← hkq]
      refine pcs_congr fun i hi => ?_
      unfold txt piece
      rw [show strt ys = _ from hst2, List.getElem?_map, List.getElem?_range (by omega)]
      rfl
    rw [hpp, hyk, ← hkq] at hown
    have hvc := bv.cell
    clear hpp hst hst2 hkL hkz hk1 hyk hkq
    gi_wp2
    refine ⟨by simp, .inl ⟨_, _, rfl, run_takeDeferred hK, ?_⟩⟩
    refine ⟨_, results_tmp2 rfl _ _ _, ⟨v, rfl, ?_, ?_⟩⟩
    · rw [hN]
      refine ownsRow_low (by omega) (hown.kept (grownBy_putObj' W D _) ?_)
      rcases hown.2 with ⟨rfl, _⟩ | ⟨g, cap, cur, rfl, _, hgb, _⟩
      · exact .inl rfl
      · refine .inr fun e' => ?_
        obtain rfl : g = D := by simpa [Value.ownBlock] using e'
        rw [hgb] at hK; cases hK
    · rw [hN]
      exact hB.trans (belowK_b (w := W0) (by omega) _ D _ _ hD hK rfl rfl)
  case stop =>
    rintro D c pre W _ _ h _
    exact h.elim
end Go.Proofs.Ytoclbcpfiacoaaa
