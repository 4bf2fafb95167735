/- PartsBytes: Get of the reference. -/
import Derived.Test.YtoclbcpfiacoaaaPb3
namespace Go.Proofs.Ytoclbcpfiacoaaa
set_option linter.unusedVariables false
set_option linter.unusedSimpArgs false
open Go.RowKit

/-- what the reader has ahead of it -/
def RD.rest (r : RD) : ByteArray := r.s.extract r.at_ r.s.size
theorem rest_lst (r : RD) : lst r.rest = (lst r.s).drop r.at_ := by
  unfold RD.rest
  have h := extract_str (lst r.s) r.at_ r.s.size
  rw [str_lst] at h
  rw [h, lst_str, List.take_of_length_le]
  rw [List.length_drop, ← size_lst]; omega
theorem next10_lst (r : RD) : lst r.next10 = ((lst r.s).drop r.at_).take 10 := by
  unfold RD.next10
  have h := extract_str (lst r.s) r.at_ (r.at_ + min 10 (r.s.size - r.at_))
  rw [str_lst] at h
  rw [h, lst_str, Nat.add_sub_cancel_left]
  have hl : ((lst r.s).drop r.at_).length = r.s.size - r.at_ := by rw [List.length_drop, ← size_lst]
  generalize (lst r.s).drop r.at_ = l at *
  rcases Nat.le_total 10 (r.s.size - r.at_) with c | c
  · rw [Nat.min_eq_left c]
  · rw [Nat.min_eq_right c, List.take_of_length_le (by omega), List.take_of_length_le (by omega)]
theorem nxt_rest (r : RD) : nxt r.next10 = nxt r.rest := by
  unfold nxt
  rw [next10_lst, rest_lst]
  exact nx_take _ 0 0 (by omega)
theorem rest_size (r : RD) : r.rest.size = r.s.size - r.at_ := by rw [size_lst, rest_lst, List.length_drop, ← size_lst]
theorem rest_took (r : RD) (hr : r.ok) (j : Nat) (hj : j ≤ r.rest.size) : r.rest.extract j r.rest.size = (r.took j).rest := by
  have h : lst (r.rest.extract j r.rest.size) = lst (r.took j).rest := by
    have h1 := extract_str (lst r.rest) j r.rest.size
    rw [str_lst] at h1
    rw [h1, lst_str, List.take_of_length_le (by rw [List.length_drop, ← size_lst]; omega), rest_lst, rest_lst, List.drop_drop]
    rfl
  rw [← str_lst (r.rest.extract j r.rest.size), h, str_lst]
/-- one number more: the reader behind it, or the error that stays -/
theorem step_rest (r : RD) (hr : r.ok) (hf : r.f = 0) {m j : Nat} {e : Int} (hn : nxt r.rest = (m, j, e)) :
    (e = 0 ∧ j ≤ r.rest.size ∧ m < u64M ∧ r.lebR = (r.took j, m) ∧ r.rest.extract j r.rest.size = r.lebR.1.rest) ∨ (e ≠ 0 ∧ m = 0 ∧ j = 0 ∧ r.lebR = (⟨r.s, r.at_, e⟩, 0)) := by
  have hn' : nxt r.next10 = (m, j, e) := (nxt_rest r).trans hn
  rcases nxt_props hn with ⟨rfl, p2, p3, p4⟩ | ⟨p1, p2, p3⟩
  · have h := lebR_ok hf hn'
    exact .inl ⟨rfl, p3, p4, h, by rw [h]; exact rest_took r hr j p3⟩
  · exact .inr ⟨p1, p2, p3, lebR_err hf hn' p1⟩
theorem nxt_ex (s : ByteArray) : ∃ m j e, nxt s = (m, j, e) := ⟨_, _, _, rfl⟩
def getV (s : ByteArray) (r : RD) (x y z : Nat) : Array Value :=
  if r.f ≠ 0 then #[partV 0 0 0 ⟨#[]⟩, .int .i64 r.f]
  else if MayP (capN x : Nat) (capN y : Nat) (capN z : Nat) (s.extract r.at_ s.size) then #[partV (capN x : Nat) (capN y : Nat) (capN z : Nat) (s.extract r.at_ s.size), .int .i64 0]
  else #[partV 0 0 0 ⟨#[]⟩, .int .i64 3]
theorem parts_get (s : ByteArray) (hs : s.size ≤ maxLen) (r : RD) (x y z : Nat) (hg : get3 s = (r, x, y, z)) (w : World) :
    Calls Try.prog 29 #[.string s] w fun e w' => e = .returned (.tuple (getV s r x y z)) ∧ Below w.heap.size w w' := by
  unfold getV
  by_cases hf : r.f = 0
  · rw [if_neg (by simpa using hf)]
    by_cases hm : MayP (capN x : Nat) (capN y : Nat) (capN z : Nat) (s.extract r.at_ s.size)
    · rw [if_pos hm]; exact get_ok s hs r x y z hg hf hm w
    · rw [if_neg hm]; exact get_form s hs r x y z hg hf hm w
  · rw [if_pos hf]; exact get_fault s hs r x y z hg hf w
/-- the readers, one behind the other -/
def Rk (s : ByteArray) : Nat → RD
  | 0 => ⟨s, 0, 0⟩
  | k + 1 => (Rk s k).lebR.1
def Vk (s : ByteArray) (k : Nat) : Nat := (Rk s k).lebR.2
theorem Rk_ok (s : ByteArray) (hs : s.size ≤ 9223372036854775807) : ∀ k, (Rk s k).ok
  | 0 => ⟨Nat.zero_le _, hs⟩
  | k + 1 => lebR_ok' _ (Rk_ok s hs k)
theorem Rk_s (s : ByteArray) : ∀ k, (Rk s k).s = s
  | 0 => rfl
  | k + 1 => (lebR_s _).trans (Rk_s s k)
theorem Rk_bad (s : ByteArray) (k : Nat) (h : (Rk s k).f ≠ 0) : ∀ n, Rk s (k + n) = Rk s k
  | 0 => rfl
  | n + 1 => by
    have ih := Rk_bad s k h n
    show (Rk s (k + n)).lebR.1 = _
    rw [ih, lebR_bad h]
theorem get3_eq (s : ByteArray) : get3 s = (Rk s 3, Vk s 0, Vk s 1, Vk s 2) := rfl
/-- the array behind k rounds -/
def arr (s : ByteArray) : Nat → Array Value
  | 0 => #[.int .u64 0, .int .u64 0, .int .u64 0]
  | 1 => #[.int .u64 (Vk s 0 : Nat), .int .u64 0, .int .u64 0]
  | 2 => #[.int .u64 (Vk s 0 : Nat), .int .u64 (Vk s 1 : Nat), .int .u64 0]
  | _ => #[.int .u64 (Vk s 0 : Nat), .int .u64 (Vk s 1 : Nat), .int .u64 (Vk s 2 : Nat)]
theorem getV_bad (s : ByteArray) (k : Nat) (hk : k ≤ 2) (e : Int) (he : e ≠ 0) (h : (Rk s k).lebR = (⟨s, (Rk s k).at_, e⟩, 0)) (x y z : Nat) : getV s (Rk s 3) x y z = #[partV 0 0 0 ⟨#[]⟩, .int .i64 e] := by
  have h1 : Rk s (k + 1) = ⟨s, (Rk s k).at_, e⟩ := congrArg Prod.fst h
  have h3 := Rk_bad s (k + 1) (by rw [h1]; exact he) (2 - k)
  rw [show k + 1 + (2 - k) = 3 by omega] at h3
  unfold getV
  rw [h3, h1, if_pos he]
theorem may_no {x y z : Nat} {T : ByteArray} (h : 2147483647 < x ∨ 1024 < y ∨ 1024 < z) : ¬ MayP (capN x : Nat) (capN y : Nat) (capN z : Nat) T := by
  rintro ⟨m1, m2, m3, m4, m5, m6, m7, m8⟩
  unfold capN at m2 m4 m6
  split at m2 <;> split at m4 <;> split at m6 <;> omega
theorem getV_good (s : ByteArray) (x y z : Nat) (hf : (Rk s 3).f = 0) : (Rk s 3).rest = s.extract (Rk s 3).at_ s.size ∧
    (MayP (capN x : Nat) (capN y : Nat) (capN z : Nat) (Rk s 3).rest → getV s (Rk s 3) x y z = #[partV (capN x : Nat) (capN y : Nat) (capN z : Nat) (Rk s 3).rest, .int .i64 0]) ∧
    (¬ MayP (capN x : Nat) (capN y : Nat) (capN z : Nat) (Rk s 3).rest → getV s (Rk s 3) x y z = #[partV 0 0 0 ⟨#[]⟩, .int .i64 3]) := by
  have h : (Rk s 3).rest = s.extract (Rk s 3).at_ s.size := by unfold RD.rest; rw [Rk_s]
  unfold getV
  rw [← h, if_neg (by simpa using hf)]
  exact ⟨rfl, fun m => if_pos m, fun m => if_neg m⟩
set_option maxRecDepth 100000 in
set_option maxHeartbeats 4000000 in
theorem ref_get (s : ByteArray) (hs : s.size ≤ maxLen) (w : World) :
    Calls Try.prog 31 #[.string s] w fun e w' => e = .returned (.tuple (getV s (Rk s 3) (Vk s 0) (Vk s 1) (Vk s 2))) ∧ Below w.heap.size w w' := by
  have hs' : s.size ≤ 9223372036854775807 := hs
  have HO := sh (Rk_ok s hs')
  have hN0 := Bk.made w 31 #[.int .i64 0, .int .i64 0, .int .i64 0, .string ⟨#[]⟩]
  have hA0 := Bk.made (w.alloc (.cells #[.int .i64 0, .int .i64 0, .int .i64 0, .string ⟨#[]⟩] 31)) 107 #[.int .u64 0, .int .u64 0, .int .u64 0]
  rw [World.size_alloc] at hA0
  have hL0 := ((Below.refl _ w).alloc (Nat.le_refl _) (.cells #[.int .i64 0, .int .i64 0, .int .i64 0, .string ⟨#[]⟩] 31)).alloc (by simp) (.cells #[.int .u64 0, .int .u64 0, .int .u64 0] 107)
  have SN := sh (hN0.alloc (.cells #[.int .u64 0, .int .u64 0, .int .u64 0] 107))
  have SA := sh hA0
  have SL := sh hL0
  clear hN0 hA0 hL0
  go_enter Try.func31, Try.ntmps31
  go_wp2_with fail
  go_loopw [0, 5] (fun v0 v5 wr => ∃ k : Nat, k ≤ 3 ∧ v5 = .int .i64 (k : Int) ∧ v0 = .string (Rk s k).rest ∧ Sh ((Rk s k).f = 0) ∧ Sh (Bk wr w.heap.size 31 #[.int .i64 0, .int .i64 0, .int .i64 0, .string ⟨#[]⟩]) ∧ Sh (Bk wr (w.heap.size + 1) 107 (arr s k)) ∧ Sh (Below w.heap.size w wr)) (fun _ v5 _ => 3 - (intOf v5).toNat)
  case atStart => exact ⟨0, by omega, rfl, by rw [show (Rk s 0).rest = s from by rw [← str_lst (Rk s 0).rest, rest_lst]; exact str_lst s], sh rfl, SN, SA, SL⟩
  case round =>
    clear SN SA SL
    obtain ⟨k, hk, rfl, rfl, HF, SN, SA, SL⟩ := hrel
    have y0 := SN.out.free 0
    have y1 := SN.out.free 1
    have y2 := SN.out.free 2
    have y3 := SN.out.free 3
    have z0 := SA.out.free 0
    have z1 := SA.out.free 1
    have z2 := SA.out.free 2
    have r0 := SN.out.cell 0
    have r1 := SN.out.cell 1
    have r2 := SN.out.cell 2
    have r3 := SN.out.cell 3
    rcases (show k = 0 ∨ k = 1 ∨ k = 2 ∨ k = 3 by omega) with rfl | rfl | rfl | rfl
    · have a0 : wr.cell? ⟨w.heap.size + 1, 0, none⟩ = some (.int .u64 0) := SA.out.cell 0
      have a1 : wr.cell? ⟨w.heap.size + 1, 1, none⟩ = some (.int .u64 0) := SA.out.cell 1
      have a2 : wr.cell? ⟨w.heap.size + 1, 2, none⟩ = some (.int .u64 0) := SA.out.cell 2
      obtain ⟨m, j, e, hn⟩ : ∃ m j e, nxt (Rk s 0).rest = (m, j, e) := nxt_ex _
      have hz : (Rk s 0).rest.size ≤ 9223372036854775807 := by rw [rest_size, Rk_s]; omega
      have HX := sh (fun W => ref_next (Rk s 0).rest hz W)
      rw [hn] at HX
      simp only [nxV] at HX
      rcases step_rest (Rk s 0) (HO.out 0) HF.out hn with ⟨rfl, p2, p3, p4, p5⟩ | ⟨p1, p2, p3, p4⟩
      · have HV := sh (show Vk s 0 = m from congrArg Prod.snd p4)
        have HF' := sh (show (Rk s (0 + 1)).f = 0 by show (Rk s 0).lebR.1.f = 0; rw [p4]; exact HF.out)
        have HT := sh p5
        clear hn p4 p5 p3
        generalize (Rk s 0).rest = S at *
        go_wp2_with (go_at_call 47; refine (HX.out _).mono ?_; clear HX; rintro e' w2 ⟨rfl, rfl⟩)
        go_roundw
        case rel => exact ⟨1, by omega, by go_num, by rw [HT.out]; rfl, HF', sh (SN.out.far (by simp) _), sh (by have h := SA.out.put 0 (.int .u64 (m : Int)); rw [← HV.out] at h ⊢; exact h), sh (SL.out.setCell (by simp) _)⟩
        case measure => simp [intOf]
      · have HG := sh (getV_bad s 0 (by omega) e p1 (by rw [p4, Rk_s]) (Vk s 0) (Vk s 1) (Vk s 2))
        have eb : (e != 0) = true := by rw [bne_iff_ne]; exact p1
        obtain rfl := p2
        obtain rfl := p3
        clear p1 p4 hn
        generalize (Rk s 0).rest = S at *
        go_wp2_with (go_at_call 47; refine (HX.out _).mono ?_; clear HX; rintro e' w2 ⟨rfl, rfl⟩)
        have SE := (((SN.out.put 0 (.int .i64 0)).put 1 (.int .i64 0)).put 2 (.int .i64 0)).put 3 (.string ⟨#[]⟩)
        have e0 := SE.cell 0
        have e1 := SE.cell 1
        have e2 := SE.cell 2
        have e3 := SE.cell 3
        have SWE := (((SL.out.setCell (p := ⟨w.heap.size, 0, none⟩) (Nat.le_refl _) (.int .i64 0)).setCell (p := ⟨w.heap.size, 1, none⟩) (Nat.le_refl _) (.int .i64 0)).setCell (p := ⟨w.heap.size, 2, none⟩) (Nat.le_refl _) (.int .i64 0)).setCell (p := ⟨w.heap.size, 3, none⟩) (Nat.le_refl _) (.string ⟨#[]⟩)
        generalize ((((wr.setCell ⟨w.heap.size, 0, none⟩ (.int .i64 0)).setCell ⟨w.heap.size, 1, none⟩ (.int .i64 0)).setCell ⟨w.heap.size, 2, none⟩ (.int .i64 0)).setCell ⟨w.heap.size, 3, none⟩ (.string ⟨#[]⟩)) = W at *
        simp at e0 e1 e2 e3
        refine bodyPost_ret (v := .tuple #[partV 0 0 0 ⟨#[]⟩, .int .i64 e]) ?_ ?_ ⟨by rw [HG.out], SWE⟩
        · clear HG SWE SE HF HO SA SL
          simp [results, Try.results31, go_sem, e0, e1, e2, e3, partV]
        · rfl
    · have a0 : wr.cell? ⟨w.heap.size + 1, 0, none⟩ = some (.int .u64 (Vk s 0 : Nat)) := SA.out.cell 0
      have a1 : wr.cell? ⟨w.heap.size + 1, 1, none⟩ = some (.int .u64 0) := SA.out.cell 1
      have a2 : wr.cell? ⟨w.heap.size + 1, 2, none⟩ = some (.int .u64 0) := SA.out.cell 2
      obtain ⟨m, j, e, hn⟩ : ∃ m j e, nxt (Rk s 1).rest = (m, j, e) := nxt_ex _
      have hz : (Rk s 1).rest.size ≤ 9223372036854775807 := by rw [rest_size, Rk_s]; omega
      have HX := sh (fun W => ref_next (Rk s 1).rest hz W)
      rw [hn] at HX
      simp only [nxV] at HX
      rcases step_rest (Rk s 1) (HO.out 1) HF.out hn with ⟨rfl, p2, p3, p4, p5⟩ | ⟨p1, p2, p3, p4⟩
      · have HV := sh (show Vk s 1 = m from congrArg Prod.snd p4)
        have HF' := sh (show (Rk s (1 + 1)).f = 0 by show (Rk s 1).lebR.1.f = 0; rw [p4]; exact HF.out)
        have HT := sh p5
        clear hn p4 p5 p3
        generalize (Rk s 1).rest = S at *
        go_wp2_with (go_at_call 47; refine (HX.out _).mono ?_; clear HX; rintro e' w2 ⟨rfl, rfl⟩)
        go_roundw
        case rel => exact ⟨2, by omega, by go_num, by rw [HT.out]; rfl, HF', sh (SN.out.far (by simp) _), sh (by have h := SA.out.put 1 (.int .u64 (m : Int)); rw [← HV.out] at h ⊢; exact h), sh (SL.out.setCell (by simp) _)⟩
        case measure => simp [intOf]
      · have HG := sh (getV_bad s 1 (by omega) e p1 (by rw [p4, Rk_s]) (Vk s 0) (Vk s 1) (Vk s 2))
        have eb : (e != 0) = true := by rw [bne_iff_ne]; exact p1
        obtain rfl := p2
        obtain rfl := p3
        clear p1 p4 hn
        generalize (Rk s 1).rest = S at *
        go_wp2_with (go_at_call 47; refine (HX.out _).mono ?_; clear HX; rintro e' w2 ⟨rfl, rfl⟩)
        have SE := (((SN.out.put 0 (.int .i64 0)).put 1 (.int .i64 0)).put 2 (.int .i64 0)).put 3 (.string ⟨#[]⟩)
        have e0 := SE.cell 0
        have e1 := SE.cell 1
        have e2 := SE.cell 2
        have e3 := SE.cell 3
        have SWE := (((SL.out.setCell (p := ⟨w.heap.size, 0, none⟩) (Nat.le_refl _) (.int .i64 0)).setCell (p := ⟨w.heap.size, 1, none⟩) (Nat.le_refl _) (.int .i64 0)).setCell (p := ⟨w.heap.size, 2, none⟩) (Nat.le_refl _) (.int .i64 0)).setCell (p := ⟨w.heap.size, 3, none⟩) (Nat.le_refl _) (.string ⟨#[]⟩)
        generalize ((((wr.setCell ⟨w.heap.size, 0, none⟩ (.int .i64 0)).setCell ⟨w.heap.size, 1, none⟩ (.int .i64 0)).setCell ⟨w.heap.size, 2, none⟩ (.int .i64 0)).setCell ⟨w.heap.size, 3, none⟩ (.string ⟨#[]⟩)) = W at *
        simp at e0 e1 e2 e3
        refine bodyPost_ret (v := .tuple #[partV 0 0 0 ⟨#[]⟩, .int .i64 e]) ?_ ?_ ⟨by rw [HG.out], SWE⟩
        · clear HG SWE SE HF HO SA SL
          simp [results, Try.results31, go_sem, e0, e1, e2, e3, partV]
        · rfl
    · have a0 : wr.cell? ⟨w.heap.size + 1, 0, none⟩ = some (.int .u64 (Vk s 0 : Nat)) := SA.out.cell 0
      have a1 : wr.cell? ⟨w.heap.size + 1, 1, none⟩ = some (.int .u64 (Vk s 1 : Nat)) := SA.out.cell 1
      have a2 : wr.cell? ⟨w.heap.size + 1, 2, none⟩ = some (.int .u64 0) := SA.out.cell 2
      obtain ⟨m, j, e, hn⟩ : ∃ m j e, nxt (Rk s 2).rest = (m, j, e) := nxt_ex _
      have hz : (Rk s 2).rest.size ≤ 9223372036854775807 := by rw [rest_size, Rk_s]; omega
      have HX := sh (fun W => ref_next (Rk s 2).rest hz W)
      rw [hn] at HX
      simp only [nxV] at HX
      rcases step_rest (Rk s 2) (HO.out 2) HF.out hn with ⟨rfl, p2, p3, p4, p5⟩ | ⟨p1, p2, p3, p4⟩
      · have HV := sh (show Vk s 2 = m from congrArg Prod.snd p4)
        have HF' := sh (show (Rk s (2 + 1)).f = 0 by show (Rk s 2).lebR.1.f = 0; rw [p4]; exact HF.out)
        have HT := sh p5
        clear hn p4 p5 p3
        generalize (Rk s 2).rest = S at *
        go_wp2_with (go_at_call 47; refine (HX.out _).mono ?_; clear HX; rintro e' w2 ⟨rfl, rfl⟩)
        go_roundw
        case rel => exact ⟨3, by omega, by go_num, by rw [HT.out]; rfl, HF', sh (SN.out.far (by simp) _), sh (by have h := SA.out.put 2 (.int .u64 (m : Int)); rw [← HV.out] at h ⊢; exact h), sh (SL.out.setCell (by simp) _)⟩
        case measure => simp [intOf]
      · have HG := sh (getV_bad s 2 (by omega) e p1 (by rw [p4, Rk_s]) (Vk s 0) (Vk s 1) (Vk s 2))
        have eb : (e != 0) = true := by rw [bne_iff_ne]; exact p1
        obtain rfl := p2
        obtain rfl := p3
        clear p1 p4 hn
        generalize (Rk s 2).rest = S at *
        go_wp2_with (go_at_call 47; refine (HX.out _).mono ?_; clear HX; rintro e' w2 ⟨rfl, rfl⟩)
        have SE := (((SN.out.put 0 (.int .i64 0)).put 1 (.int .i64 0)).put 2 (.int .i64 0)).put 3 (.string ⟨#[]⟩)
        have e0 := SE.cell 0
        have e1 := SE.cell 1
        have e2 := SE.cell 2
        have e3 := SE.cell 3
        have SWE := (((SL.out.setCell (p := ⟨w.heap.size, 0, none⟩) (Nat.le_refl _) (.int .i64 0)).setCell (p := ⟨w.heap.size, 1, none⟩) (Nat.le_refl _) (.int .i64 0)).setCell (p := ⟨w.heap.size, 2, none⟩) (Nat.le_refl _) (.int .i64 0)).setCell (p := ⟨w.heap.size, 3, none⟩) (Nat.le_refl _) (.string ⟨#[]⟩)
        generalize ((((wr.setCell ⟨w.heap.size, 0, none⟩ (.int .i64 0)).setCell ⟨w.heap.size, 1, none⟩ (.int .i64 0)).setCell ⟨w.heap.size, 2, none⟩ (.int .i64 0)).setCell ⟨w.heap.size, 3, none⟩ (.string ⟨#[]⟩)) = W at *
        simp at e0 e1 e2 e3
        refine bodyPost_ret (v := .tuple #[partV 0 0 0 ⟨#[]⟩, .int .i64 e]) ?_ ?_ ⟨by rw [HG.out], SWE⟩
        · clear HG SWE SE HF HO SA SL
          simp [results, Try.results31, go_sem, e0, e1, e2, e3, partV]
        · rfl
    · have a0 : wr.cell? ⟨w.heap.size + 1, 0, none⟩ = some (.int .u64 (Vk s 0 : Nat)) := SA.out.cell 0
      have a1 : wr.cell? ⟨w.heap.size + 1, 1, none⟩ = some (.int .u64 (Vk s 1 : Nat)) := SA.out.cell 1
      have a2 : wr.cell? ⟨w.heap.size + 1, 2, none⟩ = some (.int .u64 (Vk s 2 : Nat)) := SA.out.cell 2
      have HG0 := sh (getV_good s (Vk s 0) (Vk s 1) (Vk s 2) HF.out)
      obtain ⟨G, HQ⟩ : ∃ G, Sh (getV s (Rk s 3) (Vk s 0) (Vk s 1) (Vk s 2) = G) := ⟨_, sh rfl⟩
      rw [HQ.out] at HG0
      generalize (Rk s 3).rest = T at HG0 ⊢
      generalize Vk s 0 = x at a0 HG0
      generalize Vk s 1 = y at a1 HG0
      generalize Vk s 2 = z at a2 HG0
      clear SA
      by_cases c1 : (2147483647 : Int) < (x : Int)
      · have HG := sh (HG0.out.2.2 (may_no (by omega)))
        clear HG0
        go_wp2_with fail
        have SE := (((SN.out.put 0 (.int .i64 0)).put 1 (.int .i64 0)).put 2 (.int .i64 0)).put 3 (.string ⟨#[]⟩)
        have e0 := SE.cell 0
        have e1 := SE.cell 1
        have e2 := SE.cell 2
        have e3 := SE.cell 3
        have SWE := (((SL.out.setCell (p := ⟨w.heap.size, 0, none⟩) (Nat.le_refl _) (.int .i64 0)).setCell (p := ⟨w.heap.size, 1, none⟩) (Nat.le_refl _) (.int .i64 0)).setCell (p := ⟨w.heap.size, 2, none⟩) (Nat.le_refl _) (.int .i64 0)).setCell (p := ⟨w.heap.size, 3, none⟩) (Nat.le_refl _) (.string ⟨#[]⟩)
        generalize ((((wr.setCell ⟨w.heap.size, 0, none⟩ (.int .i64 0)).setCell ⟨w.heap.size, 1, none⟩ (.int .i64 0)).setCell ⟨w.heap.size, 2, none⟩ (.int .i64 0)).setCell ⟨w.heap.size, 3, none⟩ (.string ⟨#[]⟩)) = W at *
        simp at e0 e1 e2 e3
        refine bodyPost_ret (v := .tuple #[partV 0 0 0 ⟨#[]⟩, .int .i64 3]) ?_ ?_ ⟨by rw [HQ.out, HG.out], SWE⟩
        · clear HG SWE SE HF HO SL
          simp [results, Try.results31, go_sem, e0, e1, e2, e3, partV]
        · rfl
      · by_cases c2 : (1024 : Int) < (y : Int)
        · have HG := sh (HG0.out.2.2 (may_no (by omega)))
          clear HG0
          go_wp2_with fail
          have SE := (((SN.out.put 0 (.int .i64 0)).put 1 (.int .i64 0)).put 2 (.int .i64 0)).put 3 (.string ⟨#[]⟩)
          have e0 := SE.cell 0
          have e1 := SE.cell 1
          have e2 := SE.cell 2
          have e3 := SE.cell 3
          have SWE := (((SL.out.setCell (p := ⟨w.heap.size, 0, none⟩) (Nat.le_refl _) (.int .i64 0)).setCell (p := ⟨w.heap.size, 1, none⟩) (Nat.le_refl _) (.int .i64 0)).setCell (p := ⟨w.heap.size, 2, none⟩) (Nat.le_refl _) (.int .i64 0)).setCell (p := ⟨w.heap.size, 3, none⟩) (Nat.le_refl _) (.string ⟨#[]⟩)
          generalize ((((wr.setCell ⟨w.heap.size, 0, none⟩ (.int .i64 0)).setCell ⟨w.heap.size, 1, none⟩ (.int .i64 0)).setCell ⟨w.heap.size, 2, none⟩ (.int .i64 0)).setCell ⟨w.heap.size, 3, none⟩ (.string ⟨#[]⟩)) = W at *
          simp at e0 e1 e2 e3
          refine bodyPost_ret (v := .tuple #[partV 0 0 0 ⟨#[]⟩, .int .i64 3]) ?_ ?_ ⟨by rw [HQ.out, HG.out], SWE⟩
          · clear HG SWE SE HF HO SL
            simp [results, Try.results31, go_sem, e0, e1, e2, e3, partV]
          · rfl
        · by_cases c3 : (1024 : Int) < (z : Int)
          · have HG := sh (HG0.out.2.2 (may_no (by omega)))
            clear HG0
            go_wp2_with fail
            have SE := (((SN.out.put 0 (.int .i64 0)).put 1 (.int .i64 0)).put 2 (.int .i64 0)).put 3 (.string ⟨#[]⟩)
            have e0 := SE.cell 0
            have e1 := SE.cell 1
            have e2 := SE.cell 2
            have e3 := SE.cell 3
            have SWE := (((SL.out.setCell (p := ⟨w.heap.size, 0, none⟩) (Nat.le_refl _) (.int .i64 0)).setCell (p := ⟨w.heap.size, 1, none⟩) (Nat.le_refl _) (.int .i64 0)).setCell (p := ⟨w.heap.size, 2, none⟩) (Nat.le_refl _) (.int .i64 0)).setCell (p := ⟨w.heap.size, 3, none⟩) (Nat.le_refl _) (.string ⟨#[]⟩)
            generalize ((((wr.setCell ⟨w.heap.size, 0, none⟩ (.int .i64 0)).setCell ⟨w.heap.size, 1, none⟩ (.int .i64 0)).setCell ⟨w.heap.size, 2, none⟩ (.int .i64 0)).setCell ⟨w.heap.size, 3, none⟩ (.string ⟨#[]⟩)) = W at *
            simp at e0 e1 e2 e3
            refine bodyPost_ret (v := .tuple #[partV 0 0 0 ⟨#[]⟩, .int .i64 3]) ?_ ?_ ⟨by rw [HQ.out, HG.out], SWE⟩
            · clear HG SWE SE HF HO SL
              simp [results, Try.results31, go_sem, e0, e1, e2, e3, partV]
            · rfl
          · have hx : capN x = x := by unfold capN; rw [if_neg (by omega)]
            have hy : capN y = y := by unfold capN; rw [if_neg (by omega)]
            have hz : capN z = z := by unfold capN; rw [if_neg (by omega)]
            rw [hx, hy, hz] at HG0
            have HM := sh (fun W => rmay x y z T W)
            have w1 : IntKind.i64.wrap (x : Int) = (x : Int) := IntWalk.i64_in _ (by omega)
            have w2 : IntKind.i64.wrap (y : Int) = (y : Int) := IntWalk.i64_in _ (by omega)
            have w3 : IntKind.i64.wrap (z : Int) = (z : Int) := IntWalk.i64_in _ (by omega)
            clear hx hy hz
            have SN2 := sh (SN.out.alloc (.cells #[.int .i64 (x : Nat), .int .i64 (y : Nat), .int .i64 (z : Nat), .string T] 31))
            have SP2 := sh (Bk.made wr 31 #[.int .i64 (x : Nat), .int .i64 (y : Nat), .int .i64 (z : Nat), .string T])
            have SL2 := sh (SL.out.alloc SL.out.size (.cells #[.int .i64 (x : Nat), .int .i64 (y : Nat), .int .i64 (z : Nat), .string T] 31))
            by_cases hm : MayP x y z T
            · have HG := sh (HG0.out.2.1 hm)
              rw [decide_eq_true hm] at HM
              clear HG0 hm
              go_wp2_with (go_at_call 28; refine (HM.out _).mono ?_; clear HM; rintro e' w5 ⟨rfl, hb5⟩; have SN5 := sh (SN2.out.below hb5 SN2.out.lt); have SP5 := sh (SP2.out.below hb5 SP2.out.lt); have SL5 := sh (SL2.out.trans (hb5.mono SL2.out.size)); have k0 := SP5.out.cell 0; have k1 := SP5.out.cell 1; have k2 := SP5.out.cell 2; have k3 := SP5.out.cell 3; have l0 := SN5.out.cell 0; have l1 := SN5.out.cell 1; have l2 := SN5.out.cell 2; have l3 := SN5.out.cell 3; have f0 := SN5.out.free 0; have f1 := SN5.out.free 1; have f2 := SN5.out.free 2; have f3 := SN5.out.free 3)
              have SE := (((SN5.out.put 0 (.int .i64 (x : Nat))).put 1 (.int .i64 (y : Nat))).put 2 (.int .i64 (z : Nat))).put 3 (.string T)
              have e0 := SE.cell 0
              have e1 := SE.cell 1
              have e2 := SE.cell 2
              have e3 := SE.cell 3
              have SWE := (((SL5.out.setCell (p := ⟨w.heap.size, 0, none⟩) (Nat.le_refl _) (.int .i64 (x : Nat))).setCell (p := ⟨w.heap.size, 1, none⟩) (Nat.le_refl _) (.int .i64 (y : Nat))).setCell (p := ⟨w.heap.size, 2, none⟩) (Nat.le_refl _) (.int .i64 (z : Nat))).setCell (p := ⟨w.heap.size, 3, none⟩) (Nat.le_refl _) (.string T)
              generalize ((((w5.setCell ⟨w.heap.size, 0, none⟩ (.int .i64 (x : Nat))).setCell ⟨w.heap.size, 1, none⟩ (.int .i64 (y : Nat))).setCell ⟨w.heap.size, 2, none⟩ (.int .i64 (z : Nat))).setCell ⟨w.heap.size, 3, none⟩ (.string T)) = W at *
              simp at e0 e1 e2 e3
              refine bodyPost_ret (v := .tuple #[partV (x : Nat) (y : Nat) (z : Nat) T, .int .i64 0]) ?_ ?_ ⟨by rw [HQ.out, HG.out], SWE⟩
              · clear HG SWE SE HF HO SL
                simp [results, Try.results31, go_sem, e0, e1, e2, e3, partV]
              · rfl
            · have HG := sh (HG0.out.2.2 hm)
              rw [decide_eq_false hm] at HM
              clear HG0 hm
              go_wp2_with (go_at_call 28; refine (HM.out _).mono ?_; clear HM; rintro e' w5 ⟨rfl, hb5⟩; have SN5 := sh (SN2.out.below hb5 SN2.out.lt); have SL5 := sh (SL2.out.trans (hb5.mono SL2.out.size)); have l0 := SN5.out.cell 0; have l1 := SN5.out.cell 1; have l2 := SN5.out.cell 2; have l3 := SN5.out.cell 3; have f0 := SN5.out.free 0; have f1 := SN5.out.free 1; have f2 := SN5.out.free 2; have f3 := SN5.out.free 3)
              have SE := (((SN5.out.put 0 (.int .i64 0)).put 1 (.int .i64 0)).put 2 (.int .i64 0)).put 3 (.string ⟨#[]⟩)
              have e0 := SE.cell 0
              have e1 := SE.cell 1
              have e2 := SE.cell 2
              have e3 := SE.cell 3
              have SWE := (((SL5.out.setCell (p := ⟨w.heap.size, 0, none⟩) (Nat.le_refl _) (.int .i64 0)).setCell (p := ⟨w.heap.size, 1, none⟩) (Nat.le_refl _) (.int .i64 0)).setCell (p := ⟨w.heap.size, 2, none⟩) (Nat.le_refl _) (.int .i64 0)).setCell (p := ⟨w.heap.size, 3, none⟩) (Nat.le_refl _) (.string ⟨#[]⟩)
              generalize ((((w5.setCell ⟨w.heap.size, 0, none⟩ (.int .i64 0)).setCell ⟨w.heap.size, 1, none⟩ (.int .i64 0)).setCell ⟨w.heap.size, 2, none⟩ (.int .i64 0)).setCell ⟨w.heap.size, 3, none⟩ (.string ⟨#[]⟩)) = W at *
              simp at e0 e1 e2 e3
              refine bodyPost_ret (v := .tuple #[partV 0 0 0 ⟨#[]⟩, .int .i64 3]) ?_ ?_ ⟨by rw [HQ.out, HG.out], SWE⟩
              · clear HG SWE SE HF HO SL
                simp [results, Try.results31, go_sem, e0, e1, e2, e3, partV]
              · rfl
end Go.Proofs.Ytoclbcpfiacoaaa
