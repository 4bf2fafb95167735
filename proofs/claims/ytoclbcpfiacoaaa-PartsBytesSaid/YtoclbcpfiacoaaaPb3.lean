/- PartsBytes: Get of the program. -/
import Derived.Test.YtoclbcpfiacoaaaPb2
namespace Go.Proofs.Ytoclbcpfiacoaaa
set_option linter.unusedVariables false
set_option linter.unusedSimpArgs false
open Go.RowKit

def capN (n : Nat) : Nat := if 2147483648 < n then 2147483648 else n
theorem lebR_all (r : RD) (hr : r.ok) : r.lebR.1.ok ∧ r.lebR.2 < u64M := by
  by_cases hf : r.f = 0
  · obtain ⟨m, j, e, hn⟩ : ∃ m j e, nxt r.next10 = (m, j, e) := ⟨_, _, _, rfl⟩
    have hsz := next10_size r hr
    rcases nxt_props hn with ⟨rfl, p2, p3, p4⟩ | ⟨p1, rfl, rfl⟩
    · rw [lebR_ok hf hn]
      exact ⟨⟨by show r.at_ + j ≤ r.s.size; have := hr.1; omega, hr.2⟩, p4⟩
    · rw [lebR_err hf hn p1]
      exact ⟨hr, by show 0 < u64M; unfold u64M; omega⟩
  · rw [lebR_bad hf]
    exact ⟨hr, by show 0 < u64M; unfold u64M; omega⟩
theorem lebR_s (r : RD) : r.lebR.1.s = r.s := by
  unfold RD.lebR
  split
  · split <;> rfl
  · rfl
theorem lebR_bd (r : RD) (hr : r.ok) : r.lebR.2 < u64M := (lebR_all r hr).2
theorem lebR_ok' (r : RD) (hr : r.ok) : r.lebR.1.ok := (lebR_all r hr).1
set_option maxHeartbeats 1000000 in
set_option maxRecDepth 100000 in
theorem next46 (c g : Nat) (r : RD) (hr : r.ok) (w : World) (hc : Bk w c 102 #[.pointer (some ⟨g, 0, none⟩)]) (h : Bk w g 120 r.cells) :
    Calls Try.prog 46 #[.pointer (some ⟨c, 0, none⟩)] w fun e w' => e = .returned (.int .i64 (capN r.lebR.2 : Nat)) ∧ RP g w r.lebR.1 w' := by
  have H := sh h
  have c0 := hc.cell 0
  have hb := lebR_bd r hr
  have HL := sh (fun W hB => leb_read g r hr 18446744073709551615 (by unfold u64M; omega) W hB)
  obtain ⟨q, hq⟩ : ∃ q, r.lebR = q := ⟨_, rfl⟩
  rw [hq] at HL hb ⊢
  have HE := sh (show capN q.2 = if 2147483648 < q.2 then 2147483648 else q.2 from rfl)
  have hb' : (q.2 : Int) < 18446744073709551616 := by unfold u64M at hb; omega
  clear hc h hr hq hb
  by_cases c1 : (2147483648 : Int) < (q.2 : Int)
  · have c2 : ¬ (q.2 : Int) < 2147483648 := by omega
    have E : capN q.2 = 2147483648 := by rw [HE.out, if_pos (by omega)]
    have E2 := sh E
    clear E
    go_enter Try.func46, Try.ntmps46
    go_wp2_with (go_at_call 45; refine (HL.out _ H.out).mono ?_; rintro e' w2 ⟨rfl, hP⟩)
    go_ret
    exact ⟨ret_int (by rw [E2.out]; rfl), hP⟩
  · have E : capN q.2 = q.2 := by rw [HE.out, if_neg (by omega)]
    have E2 := sh E
    clear E
    by_cases c2 : (q.2 : Int) < 2147483648
    all_goals
      go_enter Try.func46, Try.ntmps46
      go_wp2_with (go_at_call 45; refine (HL.out _ H.out).mono ?_; rintro e' w2 ⟨rfl, hP⟩)
      go_ret
      exact ⟨ret_int (by rw [E2.out]), hP⟩
/-- what lies in memory while a part is got -/
structure GS (w : World) (N g c : Nat) (r : RD) (W : World) : Prop where
  res : Bk W N 33 #[.int .i64 0, .int .i64 0, .int .i64 0, .string ⟨#[]⟩]
  rd : Bk W g 120 r.cells
  cp : Bk W c 102 #[.pointer (some ⟨g, 0, none⟩)]
  bel : Below N w W
section
variable {w W W' : World} {N g c : Nat} {r r' : RD}
theorem GS.step (h : GS w N g c r W) (h1 : N < g) (hp : RP g W r' W') : GS w N g c r' W' :=
  ⟨h.res.grown hp.only (by simp; omega), hp.bk, h.cp.grown hp.only (fun e => h.cp.ne h.rd (by decide) (Option.some.inj e)), h.bel.grown hp.only (by have := h.res.lt; omega) (by intro q hq; cases hq; omega)⟩
theorem GS.alloc (h : GS w N g c r W) (o : Obj) : GS w N g c r (W.alloc o) := ⟨h.res.alloc o, h.rd.alloc o, h.cp.alloc o, h.bel.alloc (by have := h.res.lt; omega) o⟩
theorem GS.far (h : GS w N g c r W) {p : Addr} (v : Value) (h1 : p.block ≠ N) (h2 : p.block ≠ g) (h3 : p.block ≠ c) (h4 : N ≤ p.block) : GS w N g c r (W.setCell p v) :=
  ⟨h.res.far h1.symm v, h.rd.far h2.symm v, h.cp.far h3.symm v, h.bel.setCell h4 v⟩
theorem GS.below (h : GS w N g c r W) (hb : Below W.heap.size W W') : GS w N g c r W' :=
  ⟨h.res.below hb h.res.lt, h.rd.below hb h.rd.lt, h.cp.below hb h.cp.lt, h.bel.trans (hb.mono (by have := h.res.lt; omega))⟩
end
def get3 (s : ByteArray) : RD × Nat × Nat × Nat :=
  ((RD.mk s 0 0).lebR.1.lebR.1.lebR.1, (RD.mk s 0 0).lebR.2, (RD.mk s 0 0).lebR.1.lebR.2, (RD.mk s 0 0).lebR.1.lebR.1.lebR.2)
def partV (a b c : Int) (t : ByteArray) : Value := .agg #[.int .i64 a, .int .i64 b, .int .i64 c, .string t]
set_option maxHeartbeats 2000000 in
set_option maxRecDepth 100000 in
theorem get_fault (s : ByteArray) (hs : s.size ≤ maxLen) (r : RD) (x y z : Nat) (hg : get3 s = (r, x, y, z)) (hf : r.f ≠ 0) (w : World) :
    Calls Try.prog 29 #[.string s] w fun e w' => e = .returned (.tuple #[partV 0 0 0 ⟨#[]⟩, .int .i64 r.f]) ∧ Below w.heap.size w w' := by
  have hs' : s.size ≤ 9223372036854775807 := hs
  have o0 : (RD.mk s 0 0).ok := ⟨Nat.zero_le _, hs'⟩
  unfold get3 at hg
  obtain ⟨q1, e1⟩ : ∃ q, (RD.mk s 0 0).lebR = q := ⟨_, rfl⟩
  have o1 := lebR_ok' _ o0
  have H1 := sh (fun c g W hc hB => next46 c g (RD.mk s 0 0) o0 W hc hB)
  rw [e1] at hg o1 H1
  obtain ⟨q2, e2⟩ : ∃ q, q1.1.lebR = q := ⟨_, rfl⟩
  have o2 := lebR_ok' _ o1
  have H2 := sh (fun c g W hc hB => next46 c g q1.1 o1 W hc hB)
  rw [e2] at hg o2 H2
  obtain ⟨q3, e3⟩ : ∃ q, q2.1.lebR = q := ⟨_, rfl⟩
  have o3 := lebR_ok' _ o2
  have H3 := sh (fun c g W hc hB => next46 c g q2.1 o2 W hc hB)
  rw [e3] at hg o3 H3
  simp only [Prod.mk.injEq] at hg
  obtain ⟨rfl, rfl, rfl, rfl⟩ := hg
  have HF := sh hf
  have HA := sh (fun g W hB => call_bad g q3.1 o3 W hB hf)
  have HFa := sh (fun g W hB => cfault g q3.1 W hB)
  have hfb : (q3.1.f != 0) = true := by rw [bne_iff_ne]; exact hf
  clear e1 e2 e3 o0 o1 o2 o3 hf
  have hG0 : GS w w.heap.size (w.heap.size + 1) (w.heap.size + 1 + 1) ⟨s, 0, 0⟩ (((w.alloc (.cells #[.int .i64 0, .int .i64 0, .int .i64 0, .string ⟨#[]⟩] 33)).alloc (.cells (RD.mk s 0 0).cells 120)).alloc (.cells #[.pointer (some ⟨w.heap.size + 1, 0, none⟩)] 102)) := by
    refine ⟨((Bk.made w 33 _).alloc _).alloc _, ?_, ?_, (((Below.refl _ w).alloc (Nat.le_refl _) _).alloc (by simp) _).alloc (by simp; omega) _⟩
    · have h := Bk.made (w.alloc (.cells #[.int .i64 0, .int .i64 0, .int .i64 0, .string ⟨#[]⟩] 33)) 120 (RD.mk s 0 0).cells
      rw [World.size_alloc] at h
      exact h.alloc _
    · have h := Bk.made ((w.alloc (.cells #[.int .i64 0, .int .i64 0, .int .i64 0, .string ⟨#[]⟩] 33)).alloc (.cells (RD.mk s 0 0).cells 120)) 102 #[.pointer (some ⟨w.heap.size + 1, 0, none⟩)]
      rw [World.size_alloc, World.size_alloc] at h
      exact h
  have SG0 := sh hG0
  clear hG0
  go_enter Try.func29, Try.ntmps29
  go_wp2_with (go_at_call 42; refine (cread _ _).mono ?_; rintro e' w3 ⟨rfl, rfl⟩)
  generalize (((w.alloc (.cells #[.int .i64 0, .int .i64 0, .int .i64 0, .string ⟨#[]⟩] 33)).alloc (.cells (RD.mk s 0 0).cells 120)).alloc (.cells #[.pointer (some ⟨w.heap.size + 1, 0, none⟩)] 102)) = W0 at *
  generalize hN : w.heap.size = N at *
  refine (H1.out _ _ _ SG0.out.cp SG0.out.rd).mono ?_
  rintro e' W1 ⟨rfl, hP1⟩
  have SG1 := sh (SG0.out.step (by omega) hP1)
  clear SG0 hP1 H1 W0
  go_wp2_with fail
  refine (H2.out _ _ _ SG1.out.cp SG1.out.rd).mono ?_
  rintro e' W2 ⟨rfl, hP2⟩
  have SG2 := sh (SG1.out.step (by omega) hP2)
  clear SG1 hP2 H2 W1
  go_wp2_with fail
  refine (H3.out _ _ _ SG2.out.cp SG2.out.rd).mono ?_
  rintro e' W3 ⟨rfl, hP3⟩
  have SG3 := sh (SG2.out.step (by omega) hP3)
  clear SG2 hP3 H3 W2
  have SP4 := sh (Bk.made W3 33 #[.int .i64 (capN q1.2 : Nat), .int .i64 (capN q2.2 : Nat), .int .i64 (capN q3.2 : Nat), .string ⟨#[]⟩])
  have SG4 := sh (SG3.out.alloc (.cells #[.int .i64 (capN q1.2 : Nat), .int .i64 (capN q2.2 : Nat), .int .i64 (capN q3.2 : Nat), .string ⟨#[]⟩] 33))
  have k0 := SG4.out.cp.cell 0
  have hFg := SG3.out.rd.lt
  have hFc := SG3.out.cp.lt
  go_wp2_with fail
  have hcF : N + 1 + 1 ≠ W3.heap.size := by omega
  have hgF : N + 1 ≠ W3.heap.size := by omega
  have hNF : N ≠ W3.heap.size := by omega
  have hNl : N < W3.heap.size := by omega
  generalize W3.alloc (.cells #[.int .i64 (capN q1.2 : Nat), .int .i64 (capN q2.2 : Nat), .int .i64 (capN q3.2 : Nat), .string ⟨#[]⟩] 33) = W4 at *
  generalize W3.heap.size = F at *
  clear SG3 hFg hFc k0
  refine (HA.out _ _ SG4.out.rd).mono ?_
  rintro e' W5 ⟨rfl, hP5⟩
  have SP5 := sh (SP4.out.grown hP5.only (fun e => hgF (Option.some.inj e).symm))
  have SG5 := sh (SG4.out.step (by omega) hP5)
  clear SP4 SG4 hP5 HA
  have k5 := SG5.out.cp.cell 0
  have f3 := SP5.out.free 3
  have y0 := SG5.out.res.free 0
  have y1 := SG5.out.res.free 1
  have y2 := SG5.out.res.free 2
  have y3 := SG5.out.res.free 3
  have r0 := SG5.out.res.cell 0
  have r1 := SG5.out.res.cell 1
  have r2 := SG5.out.res.cell 2
  have r3 := SG5.out.res.cell 3
  have t0 := SP5.out.cell 0
  have t1 := SP5.out.cell 1
  have t2 := SP5.out.cell 2
  have t3 := SP5.out.cell 3
  go_wp2_with fail
  refine (HFa.out _ _ (SG5.out.rd.far (by simpa using hgF) _)).mono ?_
  rintro e' W6 ⟨rfl, rfl⟩
  go_wp2_with fail
  have SE := ((((SG5.out.res.far (p := ⟨F, 3, none⟩) (by simpa using hNF) (.string ⟨#[]⟩)).put 0 (.int .i64 0)).put 1 (.int .i64 0)).put 2 (.int .i64 0)).put 3 (.string ⟨#[]⟩)
  have e0 := SE.cell 0
  have e1 := SE.cell 1
  have e2 := SE.cell 2
  have e3 := SE.cell 3
  have SWE := ((((SG5.out.bel.setCell (p := ⟨F, 3, none⟩) (by simp; omega) (.string ⟨#[]⟩)).setCell (p := ⟨N, 0, none⟩) (Nat.le_refl _) (.int .i64 0)).setCell (p := ⟨N, 1, none⟩) (Nat.le_refl _) (.int .i64 0)).setCell (p := ⟨N, 2, none⟩) (Nat.le_refl _) (.int .i64 0)).setCell (p := ⟨N, 3, none⟩) (Nat.le_refl _) (.string ⟨#[]⟩)
  clear r0 r1 r2 r3 t0 t1 t2 t3
  generalize (((((W5.setCell ⟨F, 3, none⟩ (.string ⟨#[]⟩)).setCell ⟨N, 0, none⟩ (.int .i64 0)).setCell ⟨N, 1, none⟩ (.int .i64 0)).setCell ⟨N, 2, none⟩ (.int .i64 0)).setCell ⟨N, 3, none⟩ (.string ⟨#[]⟩)) = W at *
  simp at e0 e1 e2 e3
  exact bodyPost_ret (v := .tuple #[partV 0 0 0 ⟨#[]⟩, .int .i64 q3.1.f]) (by simp [results, Try.results29, go_sem, e0, e1, e2, e3, partV]) rfl ⟨rfl, by rw [hN]; exact SWE⟩
set_option maxHeartbeats 2000000 in
set_option maxRecDepth 100000 in
theorem get_form (s : ByteArray) (hs : s.size ≤ maxLen) (r : RD) (x y z : Nat) (hg : get3 s = (r, x, y, z)) (hf : r.f = 0) (hm : ¬ MayP (capN x : Nat) (capN y : Nat) (capN z : Nat) (s.extract r.at_ s.size)) (w : World) :
    Calls Try.prog 29 #[.string s] w fun e w' => e = .returned (.tuple #[partV 0 0 0 ⟨#[]⟩, .int .i64 3]) ∧ Below w.heap.size w w' := by
  have hs' : s.size ≤ 9223372036854775807 := hs
  have o0 : (RD.mk s 0 0).ok := ⟨Nat.zero_le _, hs'⟩
  unfold get3 at hg
  obtain ⟨q1, e1⟩ : ∃ q, (RD.mk s 0 0).lebR = q := ⟨_, rfl⟩
  have o1 := lebR_ok' _ o0
  have H1 := sh (fun c g W hc hB => next46 c g (RD.mk s 0 0) o0 W hc hB)
  rw [e1] at hg o1 H1
  obtain ⟨q2, e2⟩ : ∃ q, q1.1.lebR = q := ⟨_, rfl⟩
  have o2 := lebR_ok' _ o1
  have H2 := sh (fun c g W hc hB => next46 c g q1.1 o1 W hc hB)
  rw [e2] at hg o2 H2
  obtain ⟨q3, e3⟩ : ∃ q, q2.1.lebR = q := ⟨_, rfl⟩
  have o3 := lebR_ok' _ o2
  have H3 := sh (fun c g W hc hB => next46 c g q2.1 o2 W hc hB)
  rw [e3] at hg o3 H3
  simp only [Prod.mk.injEq] at hg
  obtain ⟨rfl, rfl, rfl, rfl⟩ := hg
  have HF := sh hf
  have HA := sh (fun g W hB => call_ok g q3.1 o3 W hB hf)
  have HFa := sh (fun g W hB => cfault g (q3.1.took (q3.1.s.size - q3.1.at_)) W hB)
  have hft : (q3.1.took (q3.1.s.size - q3.1.at_)).f = 0 := hf
  rw [hft] at HFa
  have hss := lebR_s (RD.mk s 0 0)
  have hss1 := lebR_s q1.1
  have hss2 := lebR_s q2.1
  rw [e1] at hss
  rw [e2] at hss1
  rw [e3] at hss2
  have hs3 : q3.1.s = s := hss2.trans (hss1.trans hss)
  have HS3 := sh hs3
  rw [hs3] at HA
  have HMy := sh (fun W => may_ok (capN q1.2 : Nat) (capN q2.2 : Nat) (capN q3.2 : Nat) (s.extract q3.1.at_ s.size) W)
  rw [decide_eq_false hm] at HMy
  clear hss hss1 hss2 hs3 hft hm
  clear e1 e2 e3 o0 o1 o2 o3 hf
  have hG0 : GS w w.heap.size (w.heap.size + 1) (w.heap.size + 1 + 1) ⟨s, 0, 0⟩ (((w.alloc (.cells #[.int .i64 0, .int .i64 0, .int .i64 0, .string ⟨#[]⟩] 33)).alloc (.cells (RD.mk s 0 0).cells 120)).alloc (.cells #[.pointer (some ⟨w.heap.size + 1, 0, none⟩)] 102)) := by
    refine ⟨((Bk.made w 33 _).alloc _).alloc _, ?_, ?_, (((Below.refl _ w).alloc (Nat.le_refl _) _).alloc (by simp) _).alloc (by simp; omega) _⟩
    · have h := Bk.made (w.alloc (.cells #[.int .i64 0, .int .i64 0, .int .i64 0, .string ⟨#[]⟩] 33)) 120 (RD.mk s 0 0).cells
      rw [World.size_alloc] at h
      exact h.alloc _
    · have h := Bk.made ((w.alloc (.cells #[.int .i64 0, .int .i64 0, .int .i64 0, .string ⟨#[]⟩] 33)).alloc (.cells (RD.mk s 0 0).cells 120)) 102 #[.pointer (some ⟨w.heap.size + 1, 0, none⟩)]
      rw [World.size_alloc, World.size_alloc] at h
      exact h
  have SG0 := sh hG0
  clear hG0
  go_enter Try.func29, Try.ntmps29
  go_wp2_with (go_at_call 42; refine (cread _ _).mono ?_; rintro e' w3 ⟨rfl, rfl⟩)
  generalize (((w.alloc (.cells #[.int .i64 0, .int .i64 0, .int .i64 0, .string ⟨#[]⟩] 33)).alloc (.cells (RD.mk s 0 0).cells 120)).alloc (.cells #[.pointer (some ⟨w.heap.size + 1, 0, none⟩)] 102)) = W0 at *
  generalize hN : w.heap.size = N at *
  refine (H1.out _ _ _ SG0.out.cp SG0.out.rd).mono ?_
  rintro e' W1 ⟨rfl, hP1⟩
  have SG1 := sh (SG0.out.step (by omega) hP1)
  clear SG0 hP1 H1 W0
  go_wp2_with fail
  refine (H2.out _ _ _ SG1.out.cp SG1.out.rd).mono ?_
  rintro e' W2 ⟨rfl, hP2⟩
  have SG2 := sh (SG1.out.step (by omega) hP2)
  clear SG1 hP2 H2 W1
  go_wp2_with fail
  refine (H3.out _ _ _ SG2.out.cp SG2.out.rd).mono ?_
  rintro e' W3 ⟨rfl, hP3⟩
  have SG3 := sh (SG2.out.step (by omega) hP3)
  clear SG2 hP3 H3 W2
  have SP4 := sh (Bk.made W3 33 #[.int .i64 (capN q1.2 : Nat), .int .i64 (capN q2.2 : Nat), .int .i64 (capN q3.2 : Nat), .string ⟨#[]⟩])
  have SG4 := sh (SG3.out.alloc (.cells #[.int .i64 (capN q1.2 : Nat), .int .i64 (capN q2.2 : Nat), .int .i64 (capN q3.2 : Nat), .string ⟨#[]⟩] 33))
  have k0 := SG4.out.cp.cell 0
  have hFg := SG3.out.rd.lt
  have hFc := SG3.out.cp.lt
  go_wp2_with fail
  have hcF : N + 1 + 1 ≠ W3.heap.size := by omega
  have hgF : N + 1 ≠ W3.heap.size := by omega
  have hNF : N ≠ W3.heap.size := by omega
  have hNl : N < W3.heap.size := by omega
  generalize W3.alloc (.cells #[.int .i64 (capN q1.2 : Nat), .int .i64 (capN q2.2 : Nat), .int .i64 (capN q3.2 : Nat), .string ⟨#[]⟩] 33) = W4 at *
  generalize W3.heap.size = F at *
  clear SG3 hFg hFc k0
  refine (HA.out _ _ SG4.out.rd).mono ?_
  rintro e' W5 ⟨rfl, hP5⟩
  have SP5 := sh (SP4.out.grown hP5.only (fun e => hgF (Option.some.inj e).symm))
  have SG5 := sh (SG4.out.step (by omega) hP5)
  clear SP4 SG4 hP5 HA
  have k5 := SG5.out.cp.cell 0
  have f3 := SP5.out.free 3
  have y0 := SG5.out.res.free 0
  have y1 := SG5.out.res.free 1
  have y2 := SG5.out.res.free 2
  have y3 := SG5.out.res.free 3
  have r0 := SG5.out.res.cell 0
  have r1 := SG5.out.res.cell 1
  have r2 := SG5.out.res.cell 2
  have r3 := SG5.out.res.cell 3
  have t0 := SP5.out.cell 0
  have t1 := SP5.out.cell 1
  have t2 := SP5.out.cell 2
  have t3 := SP5.out.cell 3
  go_wp2_with fail
  refine (HFa.out _ _ (by have h := SG5.out.rd.far (p := ⟨F, 3, none⟩) (by simpa using hgF) (.string (s.extract q3.1.at_ s.size)); rw [← HS3.out] at h ⊢; exact h)).mono ?_
  rintro e' W6 ⟨rfl, rfl⟩
  have SP6 := sh (SP5.out.put 3 (.string (s.extract q3.1.at_ s.size)))
  have SG6 := sh (SG5.out.far (p := ⟨F, 3, none⟩) (.string (s.extract q3.1.at_ s.size)) (by simp; omega) (by simp; omega) (by simp; omega) (by simp; omega))
  clear SP5 SG5 k5 f3 y0 y1 y2 y3 r0 r1 r2 r3
  generalize hT : s.extract q3.1.at_ s.size = T at *
  have HT := sh hT
  clear hT
  generalize W5.setCell ⟨F, 3, none⟩ (.string T) = W6 at *
  have t0 := SP6.out.cell 0
  have t1 := SP6.out.cell 1
  have t2 := SP6.out.cell 2
  have t3 := SP6.out.cell 3
  simp at t0 t1 t2 t3
  go_wp2_with fail
  refine (HMy.out _).mono ?_
  rintro e' W7 ⟨rfl, hb7⟩
  have SP7 := sh (SP6.out.below hb7 SP6.out.lt)
  have SG7 := sh (SG6.out.below hb7)
  clear SP6 SG6 hb7 t0 t1 t2 t3 HMy
  have y0 := SG7.out.res.free 0
  have y1 := SG7.out.res.free 1
  have y2 := SG7.out.res.free 2
  have y3 := SG7.out.res.free 3
  have r0 := SG7.out.res.cell 0
  have r1 := SG7.out.res.cell 1
  have r2 := SG7.out.res.cell 2
  have r3 := SG7.out.res.cell 3
  have t0 := SP7.out.cell 0
  have t1 := SP7.out.cell 1
  have t2 := SP7.out.cell 2
  have t3 := SP7.out.cell 3
  simp at t0 t1 t2 t3
  go_wp2_with fail
  have SE := (((SG7.out.res.put 0 (.int .i64 0)).put 1 (.int .i64 0)).put 2 (.int .i64 0)).put 3 (.string ⟨#[]⟩)
  have e0 := SE.cell 0
  have e1 := SE.cell 1
  have e2 := SE.cell 2
  have e3 := SE.cell 3
  have SWE := (((SG7.out.bel.setCell (p := ⟨N, 0, none⟩) (Nat.le_refl _) (.int .i64 0)).setCell (p := ⟨N, 1, none⟩) (Nat.le_refl _) (.int .i64 0)).setCell (p := ⟨N, 2, none⟩) (Nat.le_refl _) (.int .i64 0)).setCell (p := ⟨N, 3, none⟩) (Nat.le_refl _) (.string ⟨#[]⟩)
  clear r0 r1 r2 r3 t0 t1 t2 t3
  generalize ((((W7.setCell ⟨N, 0, none⟩ (.int .i64 0)).setCell ⟨N, 1, none⟩ (.int .i64 0)).setCell ⟨N, 2, none⟩ (.int .i64 0)).setCell ⟨N, 3, none⟩ (.string ⟨#[]⟩)) = W at *
  simp at e0 e1 e2 e3
  exact bodyPost_ret (v := .tuple #[partV 0 0 0 ⟨#[]⟩, .int .i64 3]) (by simp [results, Try.results29, go_sem, e0, e1, e2, e3, partV]) rfl ⟨rfl, by rw [hN]; exact SWE⟩
set_option maxHeartbeats 2000000 in
set_option maxRecDepth 100000 in
theorem get_ok (s : ByteArray) (hs : s.size ≤ maxLen) (r : RD) (x y z : Nat) (hg : get3 s = (r, x, y, z)) (hf : r.f = 0) (hm : MayP (capN x : Nat) (capN y : Nat) (capN z : Nat) (s.extract r.at_ s.size)) (w : World) :
    Calls Try.prog 29 #[.string s] w fun e w' => e = .returned (.tuple #[partV (capN x : Nat) (capN y : Nat) (capN z : Nat) (s.extract r.at_ s.size), .int .i64 0]) ∧ Below w.heap.size w w' := by
  have hs' : s.size ≤ 9223372036854775807 := hs
  have o0 : (RD.mk s 0 0).ok := ⟨Nat.zero_le _, hs'⟩
  unfold get3 at hg
  obtain ⟨q1, e1⟩ : ∃ q, (RD.mk s 0 0).lebR = q := ⟨_, rfl⟩
  have o1 := lebR_ok' _ o0
  have H1 := sh (fun c g W hc hB => next46 c g (RD.mk s 0 0) o0 W hc hB)
  rw [e1] at hg o1 H1
  obtain ⟨q2, e2⟩ : ∃ q, q1.1.lebR = q := ⟨_, rfl⟩
  have o2 := lebR_ok' _ o1
  have H2 := sh (fun c g W hc hB => next46 c g q1.1 o1 W hc hB)
  rw [e2] at hg o2 H2
  obtain ⟨q3, e3⟩ : ∃ q, q2.1.lebR = q := ⟨_, rfl⟩
  have o3 := lebR_ok' _ o2
  have H3 := sh (fun c g W hc hB => next46 c g q2.1 o2 W hc hB)
  rw [e3] at hg o3 H3
  simp only [Prod.mk.injEq] at hg
  obtain ⟨rfl, rfl, rfl, rfl⟩ := hg
  have HF := sh hf
  have HA := sh (fun g W hB => call_ok g q3.1 o3 W hB hf)
  have HFa := sh (fun g W hB => cfault g (q3.1.took (q3.1.s.size - q3.1.at_)) W hB)
  have hft : (q3.1.took (q3.1.s.size - q3.1.at_)).f = 0 := hf
  rw [hft] at HFa
  have hss := lebR_s (RD.mk s 0 0)
  have hss1 := lebR_s q1.1
  have hss2 := lebR_s q2.1
  rw [e1] at hss
  rw [e2] at hss1
  rw [e3] at hss2
  have hs3 : q3.1.s = s := hss2.trans (hss1.trans hss)
  have HS3 := sh hs3
  rw [hs3] at HA
  have HMy := sh (fun W => may_ok (capN q1.2 : Nat) (capN q2.2 : Nat) (capN q3.2 : Nat) (s.extract q3.1.at_ s.size) W)
  rw [decide_eq_true hm] at HMy
  clear hss hss1 hss2 hs3 hft hm
  clear e1 e2 e3 o0 o1 o2 o3 hf
  have hG0 : GS w w.heap.size (w.heap.size + 1) (w.heap.size + 1 + 1) ⟨s, 0, 0⟩ (((w.alloc (.cells #[.int .i64 0, .int .i64 0, .int .i64 0, .string ⟨#[]⟩] 33)).alloc (.cells (RD.mk s 0 0).cells 120)).alloc (.cells #[.pointer (some ⟨w.heap.size + 1, 0, none⟩)] 102)) := by
    refine ⟨((Bk.made w 33 _).alloc _).alloc _, ?_, ?_, (((Below.refl _ w).alloc (Nat.le_refl _) _).alloc (by simp) _).alloc (by simp; omega) _⟩
    · have h := Bk.made (w.alloc (.cells #[.int .i64 0, .int .i64 0, .int .i64 0, .string ⟨#[]⟩] 33)) 120 (RD.mk s 0 0).cells
      rw [World.size_alloc] at h
      exact h.alloc _
    · have h := Bk.made ((w.alloc (.cells #[.int .i64 0, .int .i64 0, .int .i64 0, .string ⟨#[]⟩] 33)).alloc (.cells (RD.mk s 0 0).cells 120)) 102 #[.pointer (some ⟨w.heap.size + 1, 0, none⟩)]
      rw [World.size_alloc, World.size_alloc] at h
      exact h
  have SG0 := sh hG0
  clear hG0
  go_enter Try.func29, Try.ntmps29
  go_wp2_with (go_at_call 42; refine (cread _ _).mono ?_; rintro e' w3 ⟨rfl, rfl⟩)
  generalize (((w.alloc (.cells #[.int .i64 0, .int .i64 0, .int .i64 0, .string ⟨#[]⟩] 33)).alloc (.cells (RD.mk s 0 0).cells 120)).alloc (.cells #[.pointer (some ⟨w.heap.size + 1, 0, none⟩)] 102)) = W0 at *
  generalize hN : w.heap.size = N at *
  refine (H1.out _ _ _ SG0.out.cp SG0.out.rd).mono ?_
  rintro e' W1 ⟨rfl, hP1⟩
  have SG1 := sh (SG0.out.step (by omega) hP1)
  clear SG0 hP1 H1 W0
  go_wp2_with fail
  refine (H2.out _ _ _ SG1.out.cp SG1.out.rd).mono ?_
  rintro e' W2 ⟨rfl, hP2⟩
  have SG2 := sh (SG1.out.step (by omega) hP2)
  clear SG1 hP2 H2 W1
  go_wp2_with fail
  refine (H3.out _ _ _ SG2.out.cp SG2.out.rd).mono ?_
  rintro e' W3 ⟨rfl, hP3⟩
  have SG3 := sh (SG2.out.step (by omega) hP3)
  clear SG2 hP3 H3 W2
  have SP4 := sh (Bk.made W3 33 #[.int .i64 (capN q1.2 : Nat), .int .i64 (capN q2.2 : Nat), .int .i64 (capN q3.2 : Nat), .string ⟨#[]⟩])
  have SG4 := sh (SG3.out.alloc (.cells #[.int .i64 (capN q1.2 : Nat), .int .i64 (capN q2.2 : Nat), .int .i64 (capN q3.2 : Nat), .string ⟨#[]⟩] 33))
  have k0 := SG4.out.cp.cell 0
  have hFg := SG3.out.rd.lt
  have hFc := SG3.out.cp.lt
  go_wp2_with fail
  have hcF : N + 1 + 1 ≠ W3.heap.size := by omega
  have hgF : N + 1 ≠ W3.heap.size := by omega
  have hNF : N ≠ W3.heap.size := by omega
  have hNl : N < W3.heap.size := by omega
  generalize W3.alloc (.cells #[.int .i64 (capN q1.2 : Nat), .int .i64 (capN q2.2 : Nat), .int .i64 (capN q3.2 : Nat), .string ⟨#[]⟩] 33) = W4 at *
  generalize W3.heap.size = F at *
  clear SG3 hFg hFc k0
  refine (HA.out _ _ SG4.out.rd).mono ?_
  rintro e' W5 ⟨rfl, hP5⟩
  have SP5 := sh (SP4.out.grown hP5.only (fun e => hgF (Option.some.inj e).symm))
  have SG5 := sh (SG4.out.step (by omega) hP5)
  clear SP4 SG4 hP5 HA
  have k5 := SG5.out.cp.cell 0
  have f3 := SP5.out.free 3
  have y0 := SG5.out.res.free 0
  have y1 := SG5.out.res.free 1
  have y2 := SG5.out.res.free 2
  have y3 := SG5.out.res.free 3
  have r0 := SG5.out.res.cell 0
  have r1 := SG5.out.res.cell 1
  have r2 := SG5.out.res.cell 2
  have r3 := SG5.out.res.cell 3
  have t0 := SP5.out.cell 0
  have t1 := SP5.out.cell 1
  have t2 := SP5.out.cell 2
  have t3 := SP5.out.cell 3
  go_wp2_with fail
  refine (HFa.out _ _ (by have h := SG5.out.rd.far (p := ⟨F, 3, none⟩) (by simpa using hgF) (.string (s.extract q3.1.at_ s.size)); rw [← HS3.out] at h ⊢; exact h)).mono ?_
  rintro e' W6 ⟨rfl, rfl⟩
  have SP6 := sh (SP5.out.put 3 (.string (s.extract q3.1.at_ s.size)))
  have SG6 := sh (SG5.out.far (p := ⟨F, 3, none⟩) (.string (s.extract q3.1.at_ s.size)) (by simp; omega) (by simp; omega) (by simp; omega) (by simp; omega))
  clear SP5 SG5 k5 f3 y0 y1 y2 y3 r0 r1 r2 r3
  generalize hT : s.extract q3.1.at_ s.size = T at *
  have HT := sh hT
  clear hT
  generalize W5.setCell ⟨F, 3, none⟩ (.string T) = W6 at *
  have t0 := SP6.out.cell 0
  have t1 := SP6.out.cell 1
  have t2 := SP6.out.cell 2
  have t3 := SP6.out.cell 3
  simp at t0 t1 t2 t3
  go_wp2_with fail
  refine (HMy.out _).mono ?_
  rintro e' W7 ⟨rfl, hb7⟩
  have SP7 := sh (SP6.out.below hb7 SP6.out.lt)
  have SG7 := sh (SG6.out.below hb7)
  clear SP6 SG6 hb7 t0 t1 t2 t3 HMy
  have y0 := SG7.out.res.free 0
  have y1 := SG7.out.res.free 1
  have y2 := SG7.out.res.free 2
  have y3 := SG7.out.res.free 3
  have r0 := SG7.out.res.cell 0
  have r1 := SG7.out.res.cell 1
  have r2 := SG7.out.res.cell 2
  have r3 := SG7.out.res.cell 3
  have t0 := SP7.out.cell 0
  have t1 := SP7.out.cell 1
  have t2 := SP7.out.cell 2
  have t3 := SP7.out.cell 3
  simp at t0 t1 t2 t3
  go_wp2_with fail
  have SE := (((SG7.out.res.put 0 (.int .i64 (capN q1.2 : Nat))).put 1 (.int .i64 (capN q2.2 : Nat))).put 2 (.int .i64 (capN q3.2 : Nat))).put 3 (.string T)
  have e0 := SE.cell 0
  have e1 := SE.cell 1
  have e2 := SE.cell 2
  have e3 := SE.cell 3
  have SWE := (((SG7.out.bel.setCell (p := ⟨N, 0, none⟩) (Nat.le_refl _) (.int .i64 (capN q1.2 : Nat))).setCell (p := ⟨N, 1, none⟩) (Nat.le_refl _) (.int .i64 (capN q2.2 : Nat))).setCell (p := ⟨N, 2, none⟩) (Nat.le_refl _) (.int .i64 (capN q3.2 : Nat))).setCell (p := ⟨N, 3, none⟩) (Nat.le_refl _) (.string T)
  clear r0 r1 r2 r3 t0 t1 t2 t3
  generalize ((((W7.setCell ⟨N, 0, none⟩ (.int .i64 (capN q1.2 : Nat))).setCell ⟨N, 1, none⟩ (.int .i64 (capN q2.2 : Nat))).setCell ⟨N, 2, none⟩ (.int .i64 (capN q3.2 : Nat))).setCell ⟨N, 3, none⟩ (.string T)) = W at *
  simp at e0 e1 e2 e3
  exact bodyPost_ret (v := .tuple #[partV (capN q1.2 : Nat) (capN q2.2 : Nat) (capN q3.2 : Nat) T, .int .i64 0]) (by simp [results, Try.results29, go_sem, e0, e1, e2, e3, partV]) rfl ⟨by rw [HT.out], by rw [hN]; exact SWE⟩
end Go.Proofs.Ytoclbcpfiacoaaa
