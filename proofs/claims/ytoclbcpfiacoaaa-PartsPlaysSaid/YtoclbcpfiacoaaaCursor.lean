/- The reader of package cursor, and leb.Read: contracts over the loaded program. -/
import Derived.Test.YtoclbcpfiacoaaaRefNext
namespace Go.Proofs.Ytoclbcpfiacoaaa
set_option linter.unusedVariables false
set_option linter.unusedSimpArgs false
open Go.RowKit

structure RD where
  s : ByteArray
  at_ : Nat
  f : Int
def RD.cells (r : RD) : Array Value := #[.string r.s, .int .i64 (r.at_ : Int), .int .i64 r.f]
def RD.ok (r : RD) : Prop := r.at_ ≤ r.s.size ∧ r.s.size ≤ 9223372036854775807
/-- w' is w but that block g is now this reader -/
structure RP (g : Nat) (w : World) (r : RD) (w' : World) : Prop where
  bk : Bk w' g 120 r.cells
  only : w.grownBy w' (some g)
section
variable {g : Nat} {w w' w'' : World} {r r' : RD}
theorem RP.start (h : Bk w g 120 r.cells) : RP g w r w := ⟨h, only_refl _ _⟩
theorem RP.drew (h : RP g w r w') : RP g w r w'.drew := ⟨h.bk.drew, only_drew h.only⟩
theorem RP.drewN (h : RP g w r w') (n : Nat) : RP g w r (w'.drewN n) := ⟨h.bk.drewN n, only_drewN' h.only n⟩
theorem RP.alloc (h : RP g w r w') (o : Obj) : RP g w r (w'.alloc o) := ⟨h.bk.alloc o, only_alloc h.only o⟩
theorem RP.set1 (h : RP g w r w') (n : Nat) : RP g w ⟨r.s, n, r.f⟩ (w'.setCell ⟨g, 1, none⟩ (.int .i64 (n : Int))) := ⟨h.bk.put 1 _, only_set h.only (p := ⟨g, 1, none⟩) rfl _⟩
theorem RP.set1' (h : RP g w r w') {x : Int} {n : Nat} (hx : x = n) : RP g w ⟨r.s, n, r.f⟩ (w'.setCell ⟨g, 1, none⟩ (.int .i64 x)) := by subst hx; exact h.set1 n
theorem RP.set2 (h : RP g w r w') (x : Int) : RP g w ⟨r.s, r.at_, x⟩ (w'.setCell ⟨g, 2, none⟩ (.int .i64 x)) := ⟨h.bk.put 2 _, only_set h.only (p := ⟨g, 2, none⟩) rfl _⟩
theorem RP.trans (h : RP g w r w') (k : RP g w' r' w'') : RP g w r' w'' := ⟨k.bk, h.only.trans k.only⟩
theorem RP.below (h : RP g w r w') (k : Below w'.heap.size w' w'') : RP g w r w'' := ⟨h.bk.below k h.bk.lt, h.only.trans ⟨k.os, k.tape, k.output, k.size, fun i hi _ => k.block i hi⟩⟩
end

set_option maxHeartbeats 400000 in
theorem cread (s : ByteArray) (w : World) : Calls Try.prog 42 #[.string s] w fun e w' => e = .returned (.pointer (some ⟨w.heap.size, 0, none⟩)) ∧ w' = w.alloc (.cells (RD.mk s 0 0).cells 120) := by
  go_enter Try.func42, Try.ntmps42
  go_wp2
  go_ret
  exact ⟨rfl, rfl⟩
set_option maxHeartbeats 400000 in
theorem cfault (g : Nat) (r : RD) (w : World) (h : Bk w g 120 r.cells) : Calls Try.prog 44 #[.pointer (some ⟨g, 0, none⟩)] w fun e w' => e = .returned (.int .i64 r.f) ∧ w = w' := by
  have c2 : w.cell? ⟨g, 2, none⟩ = some (.int .i64 r.f) := h.cell 2
  clear h
  go_enter Try.func44, Try.ntmps44
  go_wp2
  go_ret
  exact ⟨rfl, rfl⟩
set_option maxHeartbeats 400000 in
theorem cleft (g : Nat) (r : RD) (hr : r.ok) (w : World) (h : Bk w g 120 r.cells) : Calls Try.prog 56 #[.pointer (some ⟨g, 0, none⟩)] w fun e w' => e = .returned (.int .i64 ((r.s.size : Int) - (r.at_ : Int))) ∧ ∃ n, w' = w.drewN n := by
  obtain ⟨h1, h2⟩ := hr
  have c0 : w.cell? ⟨g, 0, none⟩ = some (.string r.s) := h.cell 0
  have c1 : w.cell? ⟨g, 1, none⟩ = some (.int .i64 (r.at_ : Int)) := h.cell 1
  clear h
  go_enter Try.func56, Try.ntmps56
  go_wp2
  go_quiet (fail)
  go_wp2
  go_ret
  exact ⟨rfl, _, rfl⟩
/-- the fault is kept, or this one is set -/
def RD.fail (r : RD) (e : Int) : RD := if r.f = 0 then ⟨r.s, r.at_, e⟩ else r
set_option maxHeartbeats 400000 in
theorem cfail (g : Nat) (r : RD) (e : Int) (w : World) (h : Bk w g 120 r.cells) : Calls Try.prog 58 #[.pointer (some ⟨g, 0, none⟩), .int .i64 e] w fun e' w' => e' = .returned (.tuple #[]) ∧ RP g w (r.fail e) w' := by
  have H := hide h
  have f2 := h.free 2
  have c2 : w.cell? ⟨g, 2, none⟩ = some (.int .i64 r.f) := h.cell 2
  by_cases e0 : r.f = 0
  · have b0 : (r.f == 0) = true := by rw [beq_iff_eq]; exact e0
    have HF : Hid (r.fail e = ⟨r.s, r.at_, e⟩) := if_pos e0
    clear e0
    go_enter Try.func58, Try.ntmps58
    go_wp2_with (go_at_call 44; refine (cfault g r _ H.out).mono ?_; rintro e' w' ⟨rfl, rfl⟩)
    go_end0
    exact ⟨rfl, by rw [HF.out]; exact (RP.start H.out).set2 e⟩
  · have b0 : (r.f == 0) = false := by rw [beq_eq_false_iff_ne]; exact e0
    have HF : Hid (r.fail e = r) := if_neg e0
    clear e0
    go_enter Try.func58, Try.ntmps58
    go_wp2_with (go_at_call 44; refine (cfault g r _ H.out).mono ?_; rintro e' w' ⟨rfl, rfl⟩)
    go_end0
    exact ⟨rfl, by rw [HF.out]; exact RP.start H.out⟩
set_option maxHeartbeats 400000 in
theorem ctake1 (e : Int) (p : Value) (w : World) : Calls Try.prog 63 #[.bool false, .int .i64 e, p] w fun e' w' => e' = .returned (.tuple #[]) ∧ w = w' := by
  go_enter Try.func63, Try.ntmps63
  go_wp2
  go_end0
  exact ⟨rfl, rfl⟩
set_option maxHeartbeats 1000000 in
theorem ctake_bad (g : Nat) (r : RD) (hr : r.ok) (n : Nat) (hn : r.at_ + n ≤ r.s.size) (w : World) (h : Bk w g 120 r.cells) (hf : r.f ≠ 0) :
    Calls Try.prog 55 #[.pointer (some ⟨g, 0, none⟩), .int .i64 (n : Int)] w fun e' w' => e' = .returned (.string ⟨#[]⟩) ∧ RP g w r w' := by
  have hr' := hr
  obtain ⟨h1, h2⟩ := hr
  have H := hide h
  have b0 : (r.f != 0) = true := by rw [bne_iff_ne]; exact hf
  have HL := h.lt
  have d1 : decide ((n : Int) < 0) = false := decide_eq_false (by omega)
  have d2 : decide ((r.s.size : Int) - (r.at_ : Int) < (n : Int)) = false := decide_eq_false (by omega)
  have HB := hide (h.alloc (.cells #[.pointer (some ⟨g, 0, none⟩)] 102))
  clear h hf
  go_enter Try.func55, Try.ntmps55
  go_wp2_with (first | (go_at_call 63; refine (ctake1 _ _ _).mono ?_; rintro e' w' ⟨rfl, rfl⟩) | (go_at_call 56; refine (cleft g r hr' _ HB.out).mono ?_; rintro e' w' ⟨rfl, n1, rfl⟩) | (go_at_call 44; refine (cfault g r _ (HB.out.drewN n1)).mono ?_; rintro e' w' ⟨rfl, rfl⟩))
  go_ret
  exact ⟨rfl, ((RP.start H.out).alloc _).drewN _⟩
def RD.took (r : RD) (n : Nat) : RD := ⟨r.s, r.at_ + n, r.f⟩
set_option maxHeartbeats 1000000 in
set_option maxRecDepth 100000 in
theorem ctake_ok (g : Nat) (r : RD) (hr : r.ok) (n : Nat) (hn : r.at_ + n ≤ r.s.size) (w : World) (h : Bk w g 120 r.cells) (hf : r.f = 0) :
    Calls Try.prog 55 #[.pointer (some ⟨g, 0, none⟩), .int .i64 (n : Int)] w fun e' w' => e' = .returned (.string (r.s.extract r.at_ (r.at_ + n))) ∧ RP g w (r.took n) w' := by
  have hr' := hr
  obtain ⟨h1, h2⟩ := hr
  have H := hide h
  have b0 : (r.f != 0) = false := by rw [hf]; rfl
  have HL := h.lt
  have d1 : decide ((n : Int) < 0) = false := decide_eq_false (by omega)
  have d2 : decide ((r.s.size : Int) - (r.at_ : Int) < (n : Int)) = false := decide_eq_false (by omega)
  have HB := hide (h.alloc (.cells #[.pointer (some ⟨g, 0, none⟩)] 102))
  have c0 : w.cell? ⟨g, 0, none⟩ = some (.string r.s) := h.cell 0
  have c1 : w.cell? ⟨g, 1, none⟩ = some (.int .i64 (r.at_ : Int)) := h.cell 1
  have f1 := h.free 1
  clear h hf
  go_enter Try.func55, Try.ntmps55
  go_wp2_with (first | (go_at_call 63; refine (ctake1 _ _ _).mono ?_; rintro e' w' ⟨rfl, rfl⟩) | (go_at_call 56; refine (cleft g r hr' _ HB.out).mono ?_; rintro e' w' ⟨rfl, n1, rfl⟩) | (go_at_call 44; refine (cfault g r _ (HB.out.drewN n1)).mono ?_; rintro e' w' ⟨rfl, rfl⟩))
  go_quiet (fail)
  go_wp2
  go_ret
  exact ⟨rfl, ((((RP.start H.out).alloc _).drewN _).set1' (by simp)).drewN _⟩
set_option maxHeartbeats 400000 in
theorem call_ok (g : Nat) (r : RD) (hr : r.ok) (w : World) (h : Bk w g 120 r.cells) (hf : r.f = 0) :
    Calls Try.prog 43 #[.pointer (some ⟨g, 0, none⟩)] w fun e' w' => e' = .returned (.string (r.s.extract r.at_ r.s.size)) ∧ RP g w (r.took (r.s.size - r.at_)) w' := by
  have H := hide h
  have hn : r.at_ + (r.s.size - r.at_) = r.s.size := by have := hr.1; omega
  have HT := hide (fun (W : World) (hB : Bk W g 120 r.cells) => ctake_ok g r hr (r.s.size - r.at_) (by omega) W hB hf)
  have hc : ((r.s.size - r.at_ : Nat) : Int) = (r.s.size : Int) - (r.at_ : Int) := by have := hr.1; omega
  rw [hc, hn] at HT
  clear h hf hn hc
  go_enter Try.func43, Try.ntmps43
  go_wp2_with (first | (go_at_call 56; refine (cleft g r hr _ H.out).mono ?_; rintro e' w' ⟨rfl, n1, rfl⟩) | (go_at_call 55; refine (HT.out _ (H.out.drewN n1)).mono ?_; rintro e' w' ⟨rfl, hw⟩))
  go_ret
  exact ⟨rfl, ((RP.start H.out).drewN n1).trans hw⟩
set_option maxHeartbeats 400000 in
theorem call_bad (g : Nat) (r : RD) (hr : r.ok) (w : World) (h : Bk w g 120 r.cells) (hf : r.f ≠ 0) :
    Calls Try.prog 43 #[.pointer (some ⟨g, 0, none⟩)] w fun e' w' => e' = .returned (.string ⟨#[]⟩) ∧ RP g w r w' := by
  have H := hide h
  have HT := hide (fun (W : World) (hB : Bk W g 120 r.cells) => ctake_bad g r hr (r.s.size - r.at_) (by have := hr.1; omega) W hB hf)
  have hc : ((r.s.size - r.at_ : Nat) : Int) = (r.s.size : Int) - (r.at_ : Int) := by have := hr.1; omega
  rw [hc] at HT
  clear h hf hc
  go_enter Try.func43, Try.ntmps43
  go_wp2_with (first | (go_at_call 56; refine (cleft g r hr _ H.out).mono ?_; rintro e' w' ⟨rfl, n1, rfl⟩) | (go_at_call 55; refine (HT.out _ (H.out.drewN n1)).mono ?_; rintro e' w' ⟨rfl, hw⟩))
  go_ret
  exact ⟨rfl, ((RP.start H.out).drewN n1).trans hw⟩
/-- at most ten bytes that come next -/
def RD.next10 (r : RD) : ByteArray := r.s.extract r.at_ (r.at_ + min 10 (r.s.size - r.at_))
set_option maxHeartbeats 1000000 in
set_option maxRecDepth 100000 in
theorem cahead (g : Nat) (r : RD) (hr : r.ok) (w : World) (h : Bk w g 120 r.cells) (hf : r.f = 0) :
    Calls Try.prog 57 #[.pointer (some ⟨g, 0, none⟩), .int .i64 10] w fun e' w' => e' = .returned (.string r.next10) ∧ ∃ n, w' = w.drewN n := by
  have hr' := hr
  obtain ⟨h1, h2⟩ := hr
  have H := hide h
  have b0 : (r.f != 0) = false := by rw [hf]; rfl
  have c0 : w.cell? ⟨g, 0, none⟩ = some (.string r.s) := h.cell 0
  have c1 : w.cell? ⟨g, 1, none⟩ = some (.int .i64 (r.at_ : Int)) := h.cell 1
  have c2 : w.cell? ⟨g, 2, none⟩ = some (.int .i64 r.f) := h.cell 2
  clear h hf
  by_cases c : r.s.size - r.at_ < 10
  all_goals
    go_enter Try.func57, Try.ntmps57
    go_wp2_with (go_at_call 44; refine (cfault g r _ H.out).mono ?_; rintro e' w' ⟨rfl, rfl⟩)
    go_quiet ((go_at_call 56; exact Calls.quiet_of (cleft g r hr' _ H.out)))
    go_wp2
    go_ret
    exact ⟨ret_str (by unfold RD.next10; congr 2; omega), _, rfl⟩

theorem nx_props : ∀ (l : List UInt8) (k n m j : Nat) (e : Int), k ≤ 9 → n < 128 ^ k → nx k n l = (m, j, e) →
    (e = 0 ∧ k < j ∧ j ≤ k + l.length ∧ m < u64M) ∨ (e ≠ 0 ∧ m = 0 ∧ j = 0)
  | [], k, n, m, j, e, _, _, h => by
    simp only [nx, Prod.mk.injEq] at h
    exact .inr ⟨by omega, by omega, by omega⟩
  | b :: r, k, n, m, j, e, hk, hn, h => by
    have hb255 := b.toNat_lt
    by_cases c : (k = 9 ∧ 1 < b.toNat) ∨ (b.toNat = 0 ∧ 0 < k)
    · rw [nx_err c] at h
      simp only [Prod.mk.injEq] at h
      exact .inr ⟨by omega, by omega, by omega⟩
    · obtain ⟨D, hD, _, hD2⟩ := shl_fact b.toNat k hb255 hk (by omega)
      obtain ⟨_, h1, h2⟩ := hD2 n hn
      rw [hD] at h1 h2
      by_cases d : b.toNat < 128
      · rw [nx_done c d] at h
        simp only [Prod.mk.injEq] at h
        obtain ⟨rfl, rfl, rfl⟩ := h
        refine .inl ⟨rfl, by omega, by simp only [List.length_cons]; omega, h2⟩
      · rw [nx_more c d] at h
        rcases nx_props r (k + 1) _ m j e (by omega) h1 h with ⟨p1, p2, p3, p4⟩ | p
        · exact .inl ⟨p1, by omega, by simp only [List.length_cons]; omega, p4⟩
        · exact .inr p
theorem nxt_props {s : ByteArray} {m j : Nat} {e : Int} (h : nxt s = (m, j, e)) : (e = 0 ∧ 0 < j ∧ j ≤ s.size ∧ m < u64M) ∨ (e ≠ 0 ∧ m = 0 ∧ j = 0) := by
  rcases nx_props (lst s) 0 0 m j e (by omega) (by simp) h with ⟨p1, p2, p3, p4⟩ | p
  · exact .inl ⟨p1, p2, by rw [size_lst]; omega, p4⟩
  · exact .inr p
theorem next10_size (r : RD) (hr : r.ok) : r.next10.size ≤ r.s.size - r.at_ := by
  unfold RD.next10
  rw [ByteArray.size_extract]
  have := hr.1
  omega
/-- what leb.Read does to a reader, and what it answers -/
def RD.lebR (r : RD) : RD × Nat :=
  if r.f = 0 then (if (nxt r.next10).2.2 = 0 then (r.took (nxt r.next10).2.1, (nxt r.next10).1) else (⟨r.s, r.at_, (nxt r.next10).2.2⟩, 0)) else (r, 0)
theorem lebR_bad {r : RD} (h : r.f ≠ 0) : r.lebR = (r, 0) := if_neg h
theorem lebR_err {r : RD} (h : r.f = 0) {m j : Nat} {e : Int} (hn : nxt r.next10 = (m, j, e)) (he : e ≠ 0) : r.lebR = (⟨r.s, r.at_, e⟩, 0) := by
  unfold RD.lebR; rw [if_pos h, hn]; exact if_neg he
theorem lebR_ok {r : RD} (h : r.f = 0) {m j : Nat} (hn : nxt r.next10 = (m, j, 0)) : r.lebR = (r.took j, m) := by
  unfold RD.lebR; rw [if_pos h, hn]; rfl
def LebPost (g : Nat) (w : World) (x : RD × Nat) (e' : Ending) (w' : World) : Prop := e' = .returned (.int .u64 (x.2 : Int)) ∧ RP g w x.1 w'
theorem ret_u64 {a b : Int} (h : a = b) : Ending.returned (.int .u64 a) = .returned (.int .u64 b) := by rw [h]
set_option maxHeartbeats 1000000 in
set_option maxRecDepth 100000 in
theorem leb_read (g : Nat) (r : RD) (hr : r.ok) (G : Int) (hG : (u64M : Int) - 1 ≤ G) (w : World) (h : Bk w g 120 r.cells) :
    Calls Try.prog 45 #[.pointer (some ⟨g, 0, none⟩), .int .u64 G] w (LebPost g w r.lebR) := by
  have H := hide h
  clear h
  by_cases hf : r.f = 0
  · have b0 : (r.f != 0) = false := by rw [hf]; rfl
    have HF := hide hf
    clear hf
    obtain ⟨m, j, e, hn⟩ : ∃ m j e, nxt r.next10 = (m, j, e) := ⟨_, _, _, rfl⟩
    have hsz := next10_size r hr
    have hsM : r.next10.size ≤ maxLen := by have := hr.2; unfold maxLen; omega
    have HN0 := leb_next r.next10 hsM
    rw [hn] at HN0
    simp only [nxV] at HN0
    have HN := hide HN0
    clear HN0
    rcases nxt_props hn with ⟨rfl, p1, p2, p3⟩ | ⟨p1, rfl, rfl⟩
    · have HR := hide (lebR_ok HF.out hn)
      have hgt : ¬ G < (m : Int) := by omega
      have HT := hide (fun (W : World) (hB : Bk W g 120 r.cells) => ctake_ok g r hr j (by have := hr.1; omega) W hB HF.out)
      have HFL : Hid (r.fail 0 = r) := by show _ = _; unfold RD.fail; rw [if_pos HF.out]; cases r; simp only at HF; rw [HF.out]
      clear hn p3 hsM hG
      go_enter Try.func45, Try.ntmps45
      go_wp2_with fail
      refine (cfault g r _ H.out).mono ?_
      rintro e' w' ⟨rfl, rfl⟩
      go_wp2_with fail
      refine (cahead g r hr _ H.out HF.out).mono ?_
      rintro e' w' ⟨rfl, n1, rfl⟩
      go_wp2_with fail
      refine (HN.out _).mono ?_
      rintro e' w2 ⟨rfl, hb2⟩
      have P2 := ((RP.start H.out).drewN n1).below hb2
      go_wp2_with fail
      refine (cfail g r 0 _ P2.bk).mono ?_
      rw [HFL.out]
      rintro e' w3 ⟨rfl, hP3⟩
      have P3 := P2.trans hP3
      go_wp2_with fail
      refine (cfault g r _ P3.bk).mono ?_
      rintro e' w4 ⟨rfl, rfl⟩
      go_wp2_with fail
      refine (HT.out _ P3.bk).mono ?_
      rintro e' w5 ⟨rfl, hP5⟩
      go_wp2_with fail
      go_ret
      exact ⟨ret_u64 (by rw [HR.out]), by rw [HR.out]; exact P3.trans hP5⟩
    · have HR := hide (lebR_err HF.out hn p1)
      have e0 : (e == 0) = false := by rw [beq_eq_false_iff_ne]; exact p1
      have e1 : (e != 0) = true := by rw [bne_iff_ne]; exact p1
      have HFL : Hid (r.fail e = ⟨r.s, r.at_, e⟩) := by show _ = _; unfold RD.fail; rw [if_pos HF.out]
      clear hn hsM hG p1
      go_enter Try.func45, Try.ntmps45
      go_wp2_with fail
      refine (cfault g r _ H.out).mono ?_
      rintro e' w' ⟨rfl, rfl⟩
      go_wp2_with fail
      refine (cahead g r hr _ H.out HF.out).mono ?_
      rintro e' w' ⟨rfl, n1, rfl⟩
      go_wp2_with fail
      refine (HN.out _).mono ?_
      rintro e' w2 ⟨rfl, hb2⟩
      have P2 := ((RP.start H.out).drewN n1).below hb2
      go_wp2_with fail
      refine (cfail g r e _ P2.bk).mono ?_
      rw [HFL.out]
      rintro e' w3 ⟨rfl, hP3⟩
      have P3 := P2.trans hP3
      go_wp2_with fail
      refine (cfault g _ _ P3.bk).mono ?_
      rintro e' w4 ⟨rfl, rfl⟩
      go_wp2_with fail
      go_ret
      exact ⟨ret_u64 (by rw [HR.out]; rfl), by rw [HR.out]; exact P3⟩
  · have b0 : (r.f != 0) = true := by rw [bne_iff_ne]; exact hf
    have HR := hide (lebR_bad hf)
    clear hf hG
    go_enter Try.func45, Try.ntmps45
    go_wp2_with fail
    refine (cfault g r _ H.out).mono ?_
    rintro e' w' ⟨rfl, rfl⟩
    go_wp2_with fail
    go_ret
    exact ⟨ret_u64 (by rw [HR.out]; rfl), by rw [HR.out]; exact RP.start H.out⟩
end Go.Proofs.Ytoclbcpfiacoaaa
