/- parts: a joiner that is new; Add, Drop, Used in words of what it holds. -/
import Derived.Test.YtoclbcpfiacoaaaJn5
namespace Go.Proofs.Ytoclbcpfiacoaaa
set_option linter.unusedVariables false
set_option linter.unusedSimpArgs false
open Go.RowKit

/-- a joiner that holds these bodies -/
def Jn (w : World) (B g m : Nat) (most opn : Int) (A : List AB) : Prop := ∃ S, S.map BD.strip = A ∧ JnS w B g m most opn S
theorem Jn.below {w w' : World} {B g m : Nat} {most opn : Int} {A : List AB} (h : Jn w B g m most opn A) (hb : Below w.heap.size w w') : Jn w' B g m most opn A := by
  obtain ⟨S, rfl, h⟩ := h
  exact ⟨S, rfl, JnV.below h hb⟩
theorem Jn.drewN {w : World} {B g m : Nat} {most opn : Int} {A : List AB} (h : Jn w B g m most opn A) (k : Nat) : Jn (w.drewN k) B g m most opn A := h.below (below_drewN (Below.refl _ _) k)
theorem Jn.gl {w : World} {B g m : Nat} {most opn : Int} {A : List AB} (h : Jn w B g m most opn A) : B ≤ g ∧ g < w.heap.size ∧ B ≤ w.heap.size := by
  obtain ⟨S, rfl, h⟩ := h
  have h1 := h.gB
  have h2 := h.gb.lt
  exact ⟨h1, h2, by omega⟩
def JnPost (B g m : Nat) (most opn : Int) (w0 : World) (A : List AB) (r e : Ending) (w' : World) : Prop := e = r ∧ Jn w' B g m most opn A ∧ BK B w0 w'
set_option maxRecDepth 100000 in
set_option maxHeartbeats 2000000 in
theorem add_bad (g : Nat) (id n of : Int) (t : ByteArray) (hm : ¬ MayP id n of t) (w : World) :
    Calls Try.prog 14 #[.pointer (some ⟨g, 0, none⟩), .agg #[.int .i64 id, .int .i64 n, .int .i64 of, .string t]] w fun e w' => e = .returned (.tuple #[.string ⟨#[]⟩, .bool false, .int .i64 1]) ∧ Below w.heap.size w w' := by
  have HM := sh (fun W => may_ok id n of t W)
  rw [decide_eq_false hm] at HM
  clear hm
  go_enter Try.func14, Try.ntmps14
  go_wp2_with (go_at_call 34; refine (HM.out _).mono ?_; clear HM; rintro e' w1 ⟨rfl, hb1⟩)
  go_ret3
  exact ⟨rfl, ((Below.refl _ w).alloc (Nat.le_refl _) _).trans (hb1.mono (by simp))⟩
set_option maxRecDepth 100000 in
set_option maxHeartbeats 2000000 in
theorem add_nil (p : Value) (w : World) (hp : ∃ id n of t, p = .agg #[.int .i64 id, .int .i64 n, .int .i64 of, .string t]) :
    Calls Try.prog 14 #[.pointer none, p] w fun e w' => e = .returned (.tuple #[.string ⟨#[]⟩, .bool false, .int .i64 1]) ∧ Below w.heap.size w w' := by
  obtain ⟨id, n, of, t, rfl⟩ := hp
  go_enter Try.func14, Try.ntmps14
  go_wp2_with fail
  go_ret3
  exact ⟨rfl, (Below.refl _ w).alloc (Nat.le_refl _) _⟩
def addB (most opn : Int) (A : List AB) (id n of : Int) (t : ByteArray) : List AB × ByteArray × Bool × Int := if MayP id n of t then addA most opn A id n of t else (A, ⟨#[]⟩, false, 1)
theorem add_any {w : World} {B g m : Nat} {most opn : Int} {A : List AB} (h : Jn w B g m most opn A) (ok : AOk most opn A) (id n of : Int) (t : ByteArray) :
    Calls Try.prog 14 #[.pointer (some ⟨g, 0, none⟩), .agg #[.int .i64 id, .int .i64 n, .int .i64 of, .string t]] w (JnPost B g m most opn w (addB most opn A id n of t).1 (addRet (addB most opn A id n of t))) := by
  obtain ⟨S, rfl, h⟩ := h
  unfold addB
  by_cases hm : MayP id n of t
  · rw [if_pos hm]
    cases hf : findS S id with
    | none => exact (add_none h ok id n of t hm hf).mono fun e w' ⟨h1, ⟨S', h2, h3⟩, h4⟩ => ⟨h1, ⟨S', h2, h3⟩, h4⟩
    | some b => exact (add_some h ok id n of t hm hf).mono fun e w' ⟨h1, ⟨S', h2, h3⟩, h4⟩ => ⟨h1, ⟨S', h2, h3⟩, h4⟩
  · rw [if_neg hm]
    have hB : B ≤ w.heap.size := by have := h.gB; have := h.gb.lt; omega
    exact (add_bad g id n of t hm w).mono fun e w' ⟨h1, h2⟩ => ⟨h1, ⟨S, rfl, JnV.below h h2⟩, (BK.refl B w).below h2 hB⟩
theorem drop_any {w : World} {B g m : Nat} {most opn : Int} {A : List AB} (h : Jn w B g m most opn A) (ok : AOk most opn A) (id : Int) (h0 : -9223372036854775808 ≤ id) (h1 : id ≤ 9223372036854775807) :
    Calls Try.prog 17 #[.pointer (some ⟨g, 0, none⟩), .int .i64 id] w (JnPost B g m most opn w (eraseA A id) (.returned (.bool (findA A id).isSome))) := by
  obtain ⟨S, rfl, h⟩ := h
  rw [find_strip]
  cases hf : findS S id with
  | none =>
    have he : eraseA (S.map BD.strip) id = S.map BD.strip := List.filter_eq_self.2 fun c hc => by
      obtain ⟨b, hb, rfl⟩ := List.mem_map.1 hc
      have := findS_none hf b hb
      show (!decide (b.id = id)) = true
      rw [decide_eq_false this]; rfl
    rw [he]
    exact (drop_none h id h0 h1 hf).mono fun e w' ⟨h1, h2⟩ => by subst h2; exact ⟨h1, ⟨S, rfl, h⟩, BK.refl _ _⟩
  | some b =>
    have hb := findS_some hf
    have hbs := ok.bds b.strip (List.mem_map.2 ⟨b, hb.1, rfl⟩)
    exact (drop_some h ok.m0.2 ok.use id h0 h1 hf hbs.2.2.2.2.2.2.1).mono fun e w' ⟨h1, h2, h3⟩ => ⟨h1, ⟨eraseS S id, strip_erase S id, h2⟩, h3⟩
set_option maxHeartbeats 1000000 in
theorem used_any {w : World} {B g m : Nat} {most opn : Int} {A : List AB} (h : Jn w B g m most opn A) : Calls Try.prog 16 #[.pointer (some ⟨g, 0, none⟩)] w fun e w' => e = .returned (.int .i64 (usedA A : Nat)) ∧ w = w' := by
  obtain ⟨S, rfl, h⟩ := h
  have c2 := h.gb.cell 2
  clear h
  generalize usedA (S.map BD.strip) = u at *
  go_enter Try.func16, Try.ntmps16
  go_wp2
  go_ret
  exact ⟨rfl, rfl⟩
set_option maxHeartbeats 1000000 in
theorem new_ok (most opn : Int) (h1 : 0 ≤ most ∧ most ≤ 1073741824) (h2 : 1 ≤ opn ∧ opn ≤ 32) (w : World) : Calls Try.prog 13 #[.int .i64 most, .int .i64 opn] w fun e w' => e = .returned (.tuple #[.pointer (some ⟨w.heap.size + 1, 0, none⟩), .int .i64 0]) ∧ w' = (w.alloc (.map #[] 0)).alloc (.cells #[.int .i64 most, .int .i64 opn, .int .i64 0, .map (some w.heap.size)] 86) := by
  have H1 := sh (fun W => within_ok most 0 1073741824 W)
  have H2 := sh (fun W => within_ok opn 1 32 W)
  rw [dd_true h1.1 h1.2] at H1
  rw [dd_true h2.1 h2.2] at H2
  have hmm := @run_makeMap Try.prog
  clear h1 h2
  go_enter Try.func13, Try.ntmps13
  go_wp2_with (first
    | (go_at_call 32; (with_reducible refine (H1.out _).mono ?_); clear H1; rintro e' w1 ⟨rfl, rfl⟩)
    | (go_at_call 32; (with_reducible refine (H2.out _).mono ?_); clear H2; rintro e' w1 ⟨rfl, rfl⟩))
  go_ret2
  exact ⟨rfl, rfl⟩
set_option maxHeartbeats 1000000 in
theorem new_bad (most opn : Int) (h : ¬ (0 ≤ most ∧ most ≤ 1073741824 ∧ 1 ≤ opn ∧ opn ≤ 32)) (w : World) : Calls Try.prog 13 #[.int .i64 most, .int .i64 opn] w fun e w' => e = .returned (.tuple #[.pointer none, .int .i64 1]) ∧ w = w' := by
  have H1 := sh (fun W => within_ok most 0 1073741824 W)
  have H2 := sh (fun W => within_ok opn 1 32 W)
  have hmm := @run_makeMap Try.prog
  by_cases h1 : 0 ≤ most ∧ most ≤ 1073741824
  · rw [dd_true h1.1 h1.2] at H1
    have h2 : ¬ (1 ≤ opn ∧ opn ≤ 32) := fun x => h ⟨h1.1, h1.2, x.1, x.2⟩
    rw [dd_false h2] at H2
    clear h1 h2 h
    go_enter Try.func13, Try.ntmps13
    go_wp2_with (first
      | (go_at_call 32; (with_reducible refine (H1.out _).mono ?_); clear H1; rintro e' w1 ⟨rfl, rfl⟩)
      | (go_at_call 32; (with_reducible refine (H2.out _).mono ?_); clear H2; rintro e' w1 ⟨rfl, rfl⟩))
    go_ret2
    exact ⟨rfl, rfl⟩
  · rw [dd_false h1] at H1
    clear h1 h H2
    go_enter Try.func13, Try.ntmps13
    go_wp2_with (go_at_call 32; refine (H1.out _).mono ?_; clear H1; rintro e' w1 ⟨rfl, rfl⟩)
    go_ret2
    exact ⟨rfl, rfl⟩
/-- the joiner that is new holds nothing -/
theorem jn_new (most opn : Int) (w : World) (B : Nat) (hB : B ≤ w.heap.size) : Jn ((w.alloc (.map #[] 0)).alloc (.cells #[.int .i64 most, .int .i64 opn, .int .i64 0, .map (some w.heap.size)] 86)) B (w.heap.size + 1) w.heap.size most opn [] := by
  have hk := Bk.made (w.alloc (.map #[] 0)) 86 #[.int .i64 most, .int .i64 opn, .int .i64 0, .map (some w.heap.size)]
  rw [World.size_alloc] at hk
  exact ⟨[], rfl, by omega, hB, hk, ⟨.map [], (World.ownsMap_made w Try.prog 3 _).alloc _, fun id => ⟨rfl, rfl⟩, rfl⟩, by simp, List.Pairwise.nil, by simp⟩
end Go.Proofs.Ytoclbcpfiacoaaa
