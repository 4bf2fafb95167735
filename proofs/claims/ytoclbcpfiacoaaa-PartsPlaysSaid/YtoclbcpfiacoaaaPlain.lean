/- Package plain, and the reference's Put (layer 15): contracts over the loaded program. -/
import Derived.Test.YtoclbcpfiacoaaaCursor
namespace Go.Proofs.Ytoclbcpfiacoaaa
set_option linter.unusedVariables false
set_option linter.unusedSimpArgs false
open Go.RowKit

set_option maxHeartbeats 400000 in
set_option maxRecDepth 100000 in
theorem psize_ok (most : Int) (s : ByteArray) (hs : s.size ≤ maxLen) (n k : Nat) (hn : nxt s = (n, k, 0)) (h1 : (n : Int) ≤ most) (h2 : most ≤ 9223372036854775807) (w : World) :
    Calls Try.prog 41 #[.int .i64 most, .string s] w fun e w' => e = .returned (.tuple #[.int .i64 (n : Int), .int .i64 (k : Int), .int .i64 0]) ∧ Below w.heap.size w w' := by
  have HN0 := leb_next s hs
  rw [hn] at HN0
  simp only [nxV] at HN0
  have HN := sh HN0
  clear HN0 hn hs
  have hw : IntKind.u64.wrap most = most := wrap_u64 (by omega) (by unfold u64M; omega)
  have d1 : ¬ most < 0 := by omega
  have d2 : ¬ most < (n : Int) := by omega
  go_enter Try.func41, Try.ntmps41
  go_wp2_with (go_at_call 54; refine (HN.out _).mono ?_; rintro e' w2 ⟨rfl, hb2⟩)
  go_ret3
  exact ⟨rfl, hb2⟩
theorem ret_si {a b : ByteArray} {x : Int} (h : a = b) : Ending.returned (.tuple #[.string a, .int .i64 x]) = .returned (.tuple #[.string b, .int .i64 x]) := by rw [h]
theorem ret_sb {a b : ByteArray} {x y : Bool} (h : a = b) (h2 : x = y) : Ending.returned (.tuple #[.string a, .bool x]) = .returned (.tuple #[.string b, .bool y]) := by rw [h, h2]
def fr0 : Value := .agg #[.int .u64 0, .string ⟨#[]⟩, .string ⟨#[]⟩]
def frV (id : Nat) (body : ByteArray) : Value := .agg #[.int .u64 (id : Int), .string ⟨#[]⟩, .string body]
set_option maxHeartbeats 1000000 in
set_option maxRecDepth 100000 in
theorem pnext_ok (most : Int) (s : ByteArray) (hs : s.size ≤ maxLen) (n k : Nat) (hn : nxt s = (n, k, 0)) (h1 : (n : Int) ≤ most) (h2 : most ≤ 9223372036854775807) (hk : k + n ≤ s.size)
    (r1 : RD) (id : Nat) (hl : (RD.mk (s.extract k (k + n)) 0 0).lebR = (r1, id)) (hr1 : r1.ok) (hf : r1.f = 0) (w : World) :
    Calls Try.prog 26 #[.int .i64 most, .string s] w fun e w' => e = .returned (.tuple #[frV id (r1.s.extract r1.at_ r1.s.size), .int .i64 ((k : Int) + (n : Int)), .int .i64 0]) ∧ Below w.heap.size w w' := by
  have hs' : s.size ≤ 9223372036854775807 := hs
  have HP := sh (psize_ok most s hs n k hn h1 h2)
  have hr0 : (RD.mk (s.extract k (k + n)) 0 0).ok := ⟨Nat.zero_le _, by show (s.extract k (k + n)).size ≤ _; rw [ByteArray.size_extract]; omega⟩
  have HLR := sh (fun (g : Nat) (W : World) (hB : Bk W g 120 (RD.mk (s.extract k (k + n)) 0 0).cells) => leb_read g _ hr0 18446744073709551615 (by unfold u64M; omega) W hB)
  have HL2 := sh hl
  have HF := sh hf
  have d1 : ¬ (s.size : Int) - (k : Int) < (n : Int) := by omega
  clear hn hl hf h1 h2
  go_enter Try.func26, Try.ntmps26
  have B0 : Bk (w.alloc (.cells #[.int .u64 0, .string ⟨#[]⟩, .string ⟨#[]⟩] 63)) w.heap.size 63 #[.int .u64 0, .string ⟨#[]⟩, .string ⟨#[]⟩] := Bk.made _ _ _
  have hw0 : Below w.heap.size w (w.alloc (.cells #[.int .u64 0, .string ⟨#[]⟩, .string ⟨#[]⟩] 63)) := (Below.refl _ _).alloc (Nat.le_refl _) _
  have SB0 := sh B0
  have SW0 := sh hw0
  clear B0 hw0
  go_wp2_with fail
  refine (HP.out _).mono ?_
  rintro e' w2 ⟨rfl, hb2⟩
  have SB2 := sh (SB0.out.below hb2 SB0.out.lt)
  have SW2 := sh (SW0.out.trans (hb2.mono (by simp)))
  clear SB0 SW0
  go_wp2_with fail
  refine (cread _ _).mono ?_
  rintro e' w3 ⟨rfl, rfl⟩
  have SR3 := sh (Bk.made w2 120 (RD.mk (s.extract k (k + n)) 0 0).cells)
  have SB3 := sh (SB2.out.alloc (.cells (RD.mk (s.extract k (k + n)) 0 0).cells 120))
  have SW3 := sh (SW2.out.alloc SW2.out.size (.cells (RD.mk (s.extract k (k + n)) 0 0).cells 120))
  have hl2 := SB2.out.lt
  generalize w2.alloc (.cells (RD.mk (s.extract k (k + n)) 0 0).cells 120) = w3 at *
  clear SB2 SW2
  generalize w2.heap.size = g at *
  go_wp2_with fail
  refine (HLR.out _ _ SR3.out).mono ?_
  rw [HL2.out]
  rintro e' w4 ⟨rfl, hP4⟩
  go_wp2_with fail
  have SF4 := sh (Bk.made w4 63 #[.int .u64 (id : Int), .string ⟨#[]⟩, .string ⟨#[]⟩])
  have hg4 := hP4.bk.lt
  have SR4 := sh (hP4.bk.alloc (.cells #[.int .u64 (id : Int), .string ⟨#[]⟩, .string ⟨#[]⟩] 63))
  have SB4 := sh ((SB3.out.grown hP4.only (by simp; omega)).alloc (.cells #[.int .u64 (id : Int), .string ⟨#[]⟩, .string ⟨#[]⟩] 63))
  have SW4 := sh ((SW3.out.grown hP4.only SW3.out.size (by intro q hq; cases hq; omega)).alloc (by have := SW3.out.size; have := hP4.only.size; omega) (.cells #[.int .u64 (id : Int), .string ⟨#[]⟩, .string ⟨#[]⟩] 63))
  clear SB3 SW3 SR3 hP4
  have hB4 := SB4.out.lt
  generalize w4.alloc (.cells #[.int .u64 (id : Int), .string ⟨#[]⟩, .string ⟨#[]⟩] 63) = W4 at *
  generalize w4.heap.size = F at *
  refine (call_ok g r1 hr1 _ SR4.out HF.out).mono ?_
  rintro e' w5 ⟨rfl, hP5⟩
  have SF5 := SF4.out.grown hP5.only (by simp; omega)
  have SB5 := SB4.out.grown hP5.only (by simp; omega)
  have SR5 := sh hP5.bk
  have SW5 := sh (SW4.out.grown hP5.only SW4.out.size (by intro q hq; cases hq; omega))
  clear SF4 SB4 SR4 SW4 hP5
  have f0 : w5.cell? ⟨F, 0, none⟩ = some (.int .u64 (id : Int)) := SF5.cell 0
  have f1 : w5.cell? ⟨F, 1, none⟩ = some (.string ⟨#[]⟩) := SF5.cell 1
  have f2 : w5.cell? ⟨F, 2, none⟩ = some (.string ⟨#[]⟩) := SF5.cell 2
  have z2 := SF5.free 2
  have b0 : w5.cell? ⟨w.heap.size, 0, none⟩ = some (.int .u64 0) := SB5.cell 0
  have b1 : w5.cell? ⟨w.heap.size, 1, none⟩ = some (.string ⟨#[]⟩) := SB5.cell 1
  have b2 : w5.cell? ⟨w.heap.size, 2, none⟩ = some (.string ⟨#[]⟩) := SB5.cell 2
  have y0 := SB5.free 0
  have y1 := SB5.free 1
  have y2 := SB5.free 2
  have hFg : g ≠ F := by omega
  have hFw : w.heap.size ≠ F := by omega
  have SB5 := sh SB5
  clear SF5
  go_wp2_with fail
  refine (cfault g _ _ (SR5.out.far (by simpa using hFg) _)).mono ?_
  rintro e' w6 ⟨rfl, rfl⟩
  have hft : Sh (RD.f (RD.took r1 (r1.s.size - r1.at_)) = 0) := HF
  rw [hft.out]
  go_wp2_with fail
  have SE := ((((SB5.out.far (p := ⟨F, 2, none⟩) (by simpa using hFw) (.string (r1.s.extract r1.at_ r1.s.size))).put 0 (.int .u64 (id : Int))).put 1 (.string ⟨#[]⟩)).put 2 (.string (r1.s.extract r1.at_ r1.s.size)))
  have e0 := SE.cell 0
  have e1 := SE.cell 1
  have e2 := SE.cell 2
  have SWE := (((SW5.out.setCell (p := ⟨F, 2, none⟩) (by simp; omega) (.string (r1.s.extract r1.at_ r1.s.size))).setCell (p := ⟨w.heap.size, 0, none⟩) (Nat.le_refl _) (.int .u64 (id : Int))).setCell (p := ⟨w.heap.size, 1, none⟩) (Nat.le_refl _) (.string ⟨#[]⟩)).setCell (p := ⟨w.heap.size, 2, none⟩) (Nat.le_refl _) (.string (r1.s.extract r1.at_ r1.s.size))
  clear b0 b1 b2 f0 f1 f2
  generalize ((((w5.setCell ⟨F, 2, none⟩ (.string (r1.s.extract r1.at_ r1.s.size))).setCell ⟨w.heap.size, 0, none⟩ (.int .u64 (id : Int))).setCell ⟨w.heap.size, 1, none⟩ (.string ⟨#[]⟩)).setCell ⟨w.heap.size, 2, none⟩ (.string (r1.s.extract r1.at_ r1.s.size))) = W at *
  simp at e0 e1 e2
  exact bodyPost_ret (v := .tuple #[frV id (r1.s.extract r1.at_ r1.s.size), .int .i64 ((k : Int) + (n : Int)), .int .i64 0]) (by simp [results, Try.results26, go_sem, e0, e1, e2, frV]) rfl ⟨rfl, SWE⟩
set_option maxHeartbeats 1000000 in
set_option maxRecDepth 100000 in
theorem pnext_form (most : Int) (s : ByteArray) (hs : s.size ≤ maxLen) (n k : Nat) (hn : nxt s = (n, k, 0)) (h1 : (n : Int) ≤ most) (h2 : most ≤ 9223372036854775807) (hk : k + n ≤ s.size)
    (r1 : RD) (id : Nat) (hl : (RD.mk (s.extract k (k + n)) 0 0).lebR = (r1, id)) (hr1 : r1.ok) (hf : r1.f ≠ 0) (w : World) :
    Calls Try.prog 26 #[.int .i64 most, .string s] w fun e w' => e = .returned (.tuple #[fr0, .int .i64 0, .int .i64 3]) ∧ Below w.heap.size w w' := by
  have hs' : s.size ≤ 9223372036854775807 := hs
  have HP := sh (psize_ok most s hs n k hn h1 h2)
  have hr0 : (RD.mk (s.extract k (k + n)) 0 0).ok := ⟨Nat.zero_le _, by show (s.extract k (k + n)).size ≤ _; rw [ByteArray.size_extract]; omega⟩
  have HLR := sh (fun (g : Nat) (W : World) (hB : Bk W g 120 (RD.mk (s.extract k (k + n)) 0 0).cells) => leb_read g _ hr0 18446744073709551615 (by unfold u64M; omega) W hB)
  have HL2 := sh hl
  have HF := sh hf
  have hfb : (r1.f != 0) = true := by rw [bne_iff_ne]; exact hf
  have d1 : ¬ (s.size : Int) - (k : Int) < (n : Int) := by omega
  clear hn hl hf h1 h2
  go_enter Try.func26, Try.ntmps26
  have B0 : Bk (w.alloc (.cells #[.int .u64 0, .string ⟨#[]⟩, .string ⟨#[]⟩] 63)) w.heap.size 63 #[.int .u64 0, .string ⟨#[]⟩, .string ⟨#[]⟩] := Bk.made _ _ _
  have hw0 : Below w.heap.size w (w.alloc (.cells #[.int .u64 0, .string ⟨#[]⟩, .string ⟨#[]⟩] 63)) := (Below.refl _ _).alloc (Nat.le_refl _) _
  have SB0 := sh B0
  have SW0 := sh hw0
  clear B0 hw0
  go_wp2_with fail
  refine (HP.out _).mono ?_
  rintro e' w2 ⟨rfl, hb2⟩
  have SB2 := sh (SB0.out.below hb2 SB0.out.lt)
  have SW2 := sh (SW0.out.trans (hb2.mono (by simp)))
  clear SB0 SW0
  go_wp2_with fail
  refine (cread _ _).mono ?_
  rintro e' w3 ⟨rfl, rfl⟩
  have SR3 := sh (Bk.made w2 120 (RD.mk (s.extract k (k + n)) 0 0).cells)
  have SB3 := sh (SB2.out.alloc (.cells (RD.mk (s.extract k (k + n)) 0 0).cells 120))
  have SW3 := sh (SW2.out.alloc SW2.out.size (.cells (RD.mk (s.extract k (k + n)) 0 0).cells 120))
  have hl2 := SB2.out.lt
  generalize w2.alloc (.cells (RD.mk (s.extract k (k + n)) 0 0).cells 120) = w3 at *
  clear SB2 SW2
  generalize w2.heap.size = g at *
  go_wp2_with fail
  refine (HLR.out _ _ SR3.out).mono ?_
  rw [HL2.out]
  rintro e' w4 ⟨rfl, hP4⟩
  go_wp2_with fail
  have SF4 := sh (Bk.made w4 63 #[.int .u64 (id : Int), .string ⟨#[]⟩, .string ⟨#[]⟩])
  have hg4 := hP4.bk.lt
  have SR4 := sh (hP4.bk.alloc (.cells #[.int .u64 (id : Int), .string ⟨#[]⟩, .string ⟨#[]⟩] 63))
  have SB4 := sh ((SB3.out.grown hP4.only (by simp; omega)).alloc (.cells #[.int .u64 (id : Int), .string ⟨#[]⟩, .string ⟨#[]⟩] 63))
  have SW4 := sh ((SW3.out.grown hP4.only SW3.out.size (by intro q hq; cases hq; omega)).alloc (by have := SW3.out.size; have := hP4.only.size; omega) (.cells #[.int .u64 (id : Int), .string ⟨#[]⟩, .string ⟨#[]⟩] 63))
  clear SB3 SW3 SR3 hP4
  have hB4 := SB4.out.lt
  generalize w4.alloc (.cells #[.int .u64 (id : Int), .string ⟨#[]⟩, .string ⟨#[]⟩] 63) = W4 at *
  generalize w4.heap.size = F at *
  refine (call_bad g r1 hr1 _ SR4.out HF.out).mono ?_
  rintro e' w5 ⟨rfl, hP5⟩
  have SF5 := SF4.out.grown hP5.only (by simp; omega)
  have SB5 := SB4.out.grown hP5.only (by simp; omega)
  have SR5 := sh hP5.bk
  have SW5 := sh (SW4.out.grown hP5.only SW4.out.size (by intro q hq; cases hq; omega))
  clear SF4 SB4 SR4 SW4 hP5
  have f0 : w5.cell? ⟨F, 0, none⟩ = some (.int .u64 (id : Int)) := SF5.cell 0
  have f1 : w5.cell? ⟨F, 1, none⟩ = some (.string ⟨#[]⟩) := SF5.cell 1
  have f2 : w5.cell? ⟨F, 2, none⟩ = some (.string ⟨#[]⟩) := SF5.cell 2
  have z2 := SF5.free 2
  have b0 : w5.cell? ⟨w.heap.size, 0, none⟩ = some (.int .u64 0) := SB5.cell 0
  have b1 : w5.cell? ⟨w.heap.size, 1, none⟩ = some (.string ⟨#[]⟩) := SB5.cell 1
  have b2 : w5.cell? ⟨w.heap.size, 2, none⟩ = some (.string ⟨#[]⟩) := SB5.cell 2
  have y0 := SB5.free 0
  have y1 := SB5.free 1
  have y2 := SB5.free 2
  have hFg : g ≠ F := by omega
  have hFw : w.heap.size ≠ F := by omega
  have SB5 := sh SB5
  clear SF5
  go_wp2_with fail
  refine (cfault g _ _ (SR5.out.far (by simpa using hFg) _)).mono ?_
  rintro e' w6 ⟨rfl, rfl⟩
  go_wp2_with fail
  have SE := ((((SB5.out.far (p := ⟨F, 2, none⟩) (by simpa using hFw) (.string ⟨#[]⟩)).put 0 (.int .u64 0)).put 1 (.string ⟨#[]⟩)).put 2 (.string ⟨#[]⟩))
  have e0 := SE.cell 0
  have e1 := SE.cell 1
  have e2 := SE.cell 2
  have SWE := (((SW5.out.setCell (p := ⟨F, 2, none⟩) (by simp; omega) (.string ⟨#[]⟩)).setCell (p := ⟨w.heap.size, 0, none⟩) (Nat.le_refl _) (.int .u64 0)).setCell (p := ⟨w.heap.size, 1, none⟩) (Nat.le_refl _) (.string ⟨#[]⟩)).setCell (p := ⟨w.heap.size, 2, none⟩) (Nat.le_refl _) (.string ⟨#[]⟩)
  clear b0 b1 b2 f0 f1 f2
  generalize ((((w5.setCell ⟨F, 2, none⟩ (.string ⟨#[]⟩)).setCell ⟨w.heap.size, 0, none⟩ (.int .u64 0)).setCell ⟨w.heap.size, 1, none⟩ (.string ⟨#[]⟩)).setCell ⟨w.heap.size, 2, none⟩ (.string ⟨#[]⟩)) = W at *
  simp at e0 e1 e2
  exact bodyPost_ret (v := .tuple #[fr0, .int .i64 0, .int .i64 3]) (by simp [results, Try.results26, go_sem, e0, e1, e2, fr0]) rfl ⟨rfl, SWE⟩

/-- the body of a frame: the number, the text -/
def inL (id : Nat) (body : List UInt8) : List UInt8 := lebL id ++ body
def putL (id : Nat) (body : List UInt8) : List UInt8 := lebL (inL id body).length ++ inL id body
set_option maxHeartbeats 1000000 in
set_option maxRecDepth 100000 in
theorem pput_ok (id : Nat) (hid : id < u64M) (body : ByteArray) (hb : (inL id (lst body)).length ≤ 65536) (w : World) :
    Calls Try.prog 24 #[.int .u64 (id : Int), .string body] w fun e w' => e = .returned (.tuple #[.string (str (putL id (lst body))), .int .i64 0]) ∧ Below w.heap.size w w' := by
  have hl : (inL id (lst body)).length = (lebL id).length + body.size := by unfold inL; rw [List.length_append, ← size_lst]
  have hl10 := leb_len10 hid
  have hbs : body.size ≤ 65536 := by omega
  have hN : (inL id (lst body)).length < u64M := by unfold u64M; omega
  have hN10 := leb_len10 hN
  obtain ⟨N, hNN⟩ : ∃ N, (inL id (lst body)).length = N := ⟨_, rfl⟩
  have HE := sh (show str (putL id (lst body)) = str (lebL N) ++ str (lebL id) ++ body by unfold putL; rw [hNN, ← str_append, inL, ← str_append, str_lst, ByteArray.append_assoc])
  rw [hNN] at hN hb hl hN10
  have hs1 : (str (lebL N)).size ≤ 10 := by rw [size_str]; exact hN10
  have hs2 : (str (lebL id)).size ≤ 10 := by rw [size_str]; exact hl10
  have hadd : ((lebL id).length : Int) + (body.size : Int) = (N : Int) := by omega
  have hwr : IntKind.u64.wrap (N : Int) = (N : Int) := wrap_u64 (by omega) (by unfold u64M; omega)
  have hle : ¬ (65536 : Int) < (N : Int) := by omega
  have H1 := sh (leb_size id hid)
  have H2 := sh (leb_put N hN)
  have H3 := sh (leb_put id hid)
  have HL := sh hl
  clear hNN hl hN hid hN10 hl10
  generalize (lebL id).length = q at *
  generalize str (lebL N) = S1 at *
  generalize str (lebL id) = S2 at *
  go_enter Try.func24, Try.ntmps24
  go_wp2_with fail
  refine (H1.out _).mono ?_
  rintro e' w' ⟨rfl, rfl⟩
  go_wp2_with fail
  refine (H2.out _).mono ?_
  rintro e' w2 ⟨rfl, hb2⟩
  go_wp2_with fail
  refine (H3.out _).mono ?_
  rintro e' w3 ⟨rfl, hb3⟩
  go_wp2_with fail
  go_ret2
  exact ⟨ret_si HE.out.symm, hb2.trans (hb3.mono hb2.size)⟩
set_option maxHeartbeats 1000000 in
set_option maxRecDepth 100000 in
theorem pput_over (id : Nat) (hid : id < u64M) (body : ByteArray) (hbM : body.size ≤ 1000000) (hb : 65536 < (inL id (lst body)).length) (w : World) :
    Calls Try.prog 24 #[.int .u64 (id : Int), .string body] w fun e w' => e = .returned (.tuple #[.string ⟨#[]⟩, .int .i64 5]) ∧ w = w' := by
  have hl : (inL id (lst body)).length = (lebL id).length + body.size := by unfold inL; rw [List.length_append, ← size_lst]
  have hl10 := leb_len10 hid
  have hle : (65536 : Int) < ((lebL id).length : Int) + (body.size : Int) := by omega
  have hle10 : ((lebL id).length : Int) ≤ 10 := by omega
  have H1 := sh (leb_size id hid)
  clear hl hid hb hl10
  generalize (lebL id).length = q at *
  go_enter Try.func24, Try.ntmps24
  go_wp2_with (go_at_call 38; refine (H1.out _).mono ?_; rintro e' w' ⟨rfl, rfl⟩)
  go_ret2
  exact ⟨rfl, rfl⟩
set_option maxHeartbeats 1000000 in
set_option maxRecDepth 100000 in
theorem refput (id : Nat) (hid : id < u64M) (body : ByteArray) (hbM : body.size ≤ 1000000) (w : World) :
    Calls Try.prog 25 #[.int .u64 (id : Int), .string body] w fun e w' => e = .returned (.tuple #[.string (str (putL id (lst body))), .bool (decide (((inL id (lst body)).length : Int) ≤ 65536))]) ∧ Below w.heap.size w w' := by
  have hl : (inL id (lst body)).length = (lebL id).length + body.size := by unfold inL; rw [List.length_append, ← size_lst]
  have hl10 := leb_len10 hid
  have hN : (inL id (lst body)).length < u64M := by unfold u64M; omega
  have hN10 := leb_len10 hN
  obtain ⟨N, hNN⟩ : ∃ N, (inL id (lst body)).length = N := ⟨_, rfl⟩
  have HE := sh (show str (putL id (lst body)) = str (lebL N) ++ (str (lebL id) ++ body) by unfold putL; rw [hNN, ← str_append, inL, ← str_append, str_lst])
  rw [hNN] at hN hN10 hl
  have hsz : (str (lebL id) ++ body).size = N := by rw [ByteArray.size_append, size_str]; omega
  have hs2 : (str (lebL id)).size ≤ 10 := by rw [size_str]; exact hl10
  have hs1 : (str (lebL N)).size ≤ 10 := by rw [size_str]; exact hN10
  have hNM : N ≤ 1000010 := by omega
  have H2 := sh (ref_put N hN)
  have H3 := sh (ref_put id hid)
  have hwr : IntKind.u64.wrap (N : Int) = (N : Int) := wrap_u64 (by omega) (by unfold u64M; omega)
  rw [hNN]
  clear hNN hl hN hid hN10 hl10
  generalize str (lebL N) = S1 at *
  generalize str (lebL id) = S2 at *
  have HSI := sh (show (S2.size : Int) + (body.size : Int) = (N : Int) by rw [ByteArray.size_append] at hsz; omega)
  have hTsz : S2.size + body.size ≤ 1000010 := by rw [ByteArray.size_append] at hsz; omega
  clear hsz
  go_enter Try.func25, Try.ntmps25
  go_wp2_with fail
  refine (H3.out _).mono ?_
  rintro e' w2 ⟨rfl, hb2⟩
  go_wp2_with fail
  rw [HSI.out]
  refine (H2.out _).mono ?_
  rintro e' w3 ⟨rfl, hb3⟩
  go_wp2_with fail
  go_ret2
  exact ⟨ret_sb HE.out.symm (by rw [HSI.out]), hb2.trans (hb3.mono hb2.size)⟩

/-! ### the plain law: what is put is told again -/
theorem nx_take : ∀ (l : List UInt8) (k n : Nat), k ≤ 9 → nx k n (l.take (10 - k)) = nx k n l
  | [], k, n, hk => by simp
  | b :: r, k, n, hk => by
    have hb255 := b.toNat_lt
    rw [show 10 - k = (9 - k) + 1 by omega, List.take_succ_cons]
    by_cases c : (k = 9 ∧ 1 < b.toNat) ∨ (b.toNat = 0 ∧ 0 < k)
    · rw [nx_err c, nx_err c]
    · by_cases d : b.toNat < 128
      · rw [nx_done c d, nx_done c d]
      · rw [nx_more c d, nx_more c d]
        have h := nx_take r (k + 1) (n + b.toNat % 128 * 128 ^ k) (by omega)
        rw [show 10 - (k + 1) = 9 - k by omega] at h
        exact h
/-- a number's bytes, whatever stands behind them, begin with that number -/
theorem nx_leb : ∀ (k n m : Nat) (rest : List UInt8), k ≤ 9 → n < 128 ^ k → n + m * 128 ^ k < u64M → (k = 0 ∨ 0 < m) → nx k n (lebL m ++ rest) = (n + m * 128 ^ k, k + (lebL m).length, 0)
  | k, n, m, rest, hk, hn, hM, h0 => by
    have h9 : k = 9 → m ≤ 1 := by
      intro e
      subst e
      have h3 : (128 : Nat) ^ 9 = 9223372036854775808 := by decide
      rw [h3] at hM
      unfold u64M at hM
      omega
    by_cases c : m < 128
    · rw [lebL_lo c]
      have hb : (UInt8.ofNat m).toNat = m := UInt8.toNat_ofNat_of_lt' (by show m < 256; omega)
      rw [List.singleton_append, nx_done (by rw [hb]; omega) (by rw [hb]; exact c), hb, Nat.mod_eq_of_lt c]
      rfl
    · have hb : (UInt8.ofNat (m % 128 + 128)).toNat = m % 128 + 128 := UInt8.toNat_ofNat_of_lt' (by show m % 128 + 128 < 256; omega)
      rw [lebL_hi c, List.cons_append, nx_more (by rw [hb]; omega) (by rw [hb]; omega), hb]
      have e1 : (m % 128 + 128) % 128 = m % 128 := by omega
      rw [e1]
      have hdm := Nat.div_add_mod m 128
      have hp : n + m % 128 * 128 ^ k + m / 128 * 128 ^ (k + 1) = n + m * 128 ^ k := by
        rw [Nat.pow_succ]
        conv => rhs; rw [← hdm]
        rw [Nat.add_mul, Nat.mul_comm (128 ^ k) 128, ← Nat.mul_assoc, Nat.mul_comm (m / 128) 128]
        omega
      have hlt : n + m % 128 * 128 ^ k < 128 ^ (k + 1) := by
        have h1 : m % 128 * 128 ^ k ≤ 127 * 128 ^ k := Nat.mul_le_mul_right _ (by omega)
        rw [Nat.pow_succ]
        omega
      rw [nx_leb (k + 1) _ (m / 128) rest (by omega) hlt (by rw [hp]; exact hM) (by omega), hp]
      simp only [List.length_cons]
      congr 2
      omega
  termination_by k n m => m
theorem nxt_leb (m : Nat) (hm : m < u64M) (rest : List UInt8) : nxt (str (lebL m ++ rest)) = (m, (lebL m).length, 0) := by
  unfold nxt
  rw [lst_str, nx_leb 0 0 m rest (by omega) (by simp) (by simpa using hm) (.inl rfl)]
  simp
theorem extract_str (l : List UInt8) (i j : Nat) : (str l).extract i j = str ((l.drop i).take (j - i)) := by
  apply ByteArray.ext
  simp only [str, ByteArray.data_extract]
  apply Array.ext'
  simp [List.extract_eq_take_drop]
theorem rd_leb (m : Nat) (hm : m < u64M) (rest : List UInt8) : (RD.mk (str (lebL m ++ rest)) 0 0).lebR = (⟨str (lebL m ++ rest), (lebL m).length, 0⟩, m) := by
  have hx : (RD.mk (str (lebL m ++ rest)) 0 0).next10 = str ((lebL m ++ rest).take 10) := by
    unfold RD.next10
    rw [extract_str, size_str]
    simp only [List.drop_zero]
    congr 1
    generalize lebL m ++ rest = l
    rcases Nat.le_total 10 l.length with h | h
    · rw [show 0 + min 10 (l.length - 0) - 0 = 10 by omega]
    · rw [show 0 + min 10 (l.length - 0) - 0 = l.length by omega, List.take_of_length_le (Nat.le_refl _), List.take_of_length_le h]
  have hn : nxt (RD.mk (str (lebL m ++ rest)) 0 0).next10 = (m, (lebL m).length, 0) := by
    rw [hx]
    unfold nxt
    rw [lst_str]
    have h1 := nx_take (lebL m ++ rest) 0 0 (by omega)
    rw [show 10 - 0 = 10 by rfl] at h1
    rw [h1]
    have h2 := nxt_leb m hm rest
    unfold nxt at h2
    rwa [lst_str] at h2
  rw [lebR_ok rfl hn]
  simp [RD.took]
end Go.Proofs.Ytoclbcpfiacoaaa
