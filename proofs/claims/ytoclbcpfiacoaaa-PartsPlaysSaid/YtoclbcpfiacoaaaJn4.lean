/- parts: Add, whatever the joiner holds. -/
import Derived.Test.YtoclbcpfiacoaaaJn3
namespace Go.Proofs.Ytoclbcpfiacoaaa
set_option linter.unusedVariables false
set_option linter.unusedSimpArgs false
open Go.RowKit

/-- what Add makes of what a joiner holds, and what it answers -/
def addA (most opn : Int) (A : List AB) (id n of : Int) (t : ByteArray) : List AB × ByteArray × Bool × Int :=
  match findA A id with
  | none => if of = 1 then (A, t, true, 0) else if opn ≤ (A.length : Int) then (A, ⟨#[]⟩, false, 4) else if most - (usedA A : Int) < (t.size : Int) then (A, ⟨#[]⟩, false, 5) else (A ++ [(id, of, [(n, t)])], ⟨#[]⟩, false, 0)
  | some (o, ps) => if o ≠ of ∨ (lookP ps n).isSome = true then (A, ⟨#[]⟩, false, 8) else if (ps.length : Int) + 1 = of then (eraseA A id, str (wholeK n (lst t) ps of.toNat), true, 0)
    else if most - (usedA A : Int) < (t.size : Int) then (A, ⟨#[]⟩, false, 5) else (updA A id (ps ++ [(n, t)]), ⟨#[]⟩, false, 0)
def addRet (r : List AB × ByteArray × Bool × Int) : Ending := .returned (.tuple #[.string r.2.1, .bool r.2.2.1, .int .i64 r.2.2.2])
def AddPost (B g m : Nat) (most opn : Int) (w0 : World) (r : List AB × ByteArray × Bool × Int) (e : Ending) (w' : World) : Prop :=
  e = addRet r ∧ (∃ S', S'.map BD.strip = r.1 ∧ JnS w' B g m most opn S') ∧ BK B w0 w'
theorem addPost_mk {B g m : Nat} {most opn : Int} {w0 w' : World} {r : List AB × ByteArray × Bool × Int} {A : List AB} {s : ByteArray} {o : Bool} {f : Int} {S' : List BD} (hr : r = (A, s, o, f)) (hA : S'.map BD.strip = A) (hj : JnS w' B g m most opn S') (hb : BK B w0 w') :
    AddPost B g m most opn w0 r (.returned (.tuple #[.string s, .bool o, .int .i64 f])) w' := by subst hr; exact ⟨rfl, ⟨S', hA, hj⟩, hb⟩
theorem usedA_upd {id : Int} {o : Int} {ps : PL} {q : Int × ByteArray} : ∀ {A : List AB}, A.Pairwise (fun p q => p.1 ≠ q.1) → findA A id = some (o, ps) → usedA (updA A id (ps ++ [q])) = usedA A + q.2.size
  | [], _, h => by cases h
  | b :: A, hp, h => by
    obtain ⟨h1, h2⟩ := List.pairwise_cons.1 hp
    simp only [findA] at h
    unfold updA
    rw [List.map_cons]
    by_cases e : b.1 = id
    · rw [if_pos e] at h
      have hb : b.2 = (o, ps) := Option.some.inj h
      rw [if_pos e]
      have hk : A.map (fun b => if b.1 = id then ((b.1, b.2.1, ps ++ [q]) : AB) else b) = A := by
        conv => rhs; rw [← List.map_id A]
        refine List.map_congr_left fun c hc => ?_
        have := h1 c hc
        rw [if_neg (fun e' => this (e.trans e'.symm))]; rfl
      rw [hk]
      simp [usedA, usedP, hb]
      omega
    · rw [if_neg e] at h
      rw [if_neg e]
      have ih := usedA_upd (q := q) h2 h
      unfold updA at ih
      simp only [usedA, List.map_cons, List.sum_cons] at ih ⊢
      omega
structure AS (w0 : World) (B g m N : Nat) (most opn u : Int) (S : List BD) (b : BD) (id n of : Int) (t : ByteArray) (W : World) : Prop where
  jn : JnV W B g m most opn u S
  bd : BdOk W B b
  pt : Bk W N 33 #[.int .i64 id, .int .i64 n, .int .i64 of, .string t]
  bel : BK B w0 W
section
variable {w0 W W' : World} {B g m N : Nat} {most opn u : Int} {S : List BD} {b : BD} {id n of : Int} {t : ByteArray}
theorem AS.drewN (h : AS w0 B g m N most opn u S b id n of t W) (k : Nat) : AS w0 B g m N most opn u S b id n of t (W.drewN k) :=
  ⟨h.jn.drewN k, h.bd.below (below_drewN (Below.refl _ _) k), h.pt.drewN k, h.bel.drewN k⟩
theorem AS.drew (h : AS w0 B g m N most opn u S b id n of t W) : AS w0 B g m N most opn u S b id n of t W.drew := h.drewN 1
theorem AS.below (h : AS w0 B g m N most opn u S b id n of t W) (hb : Below W.heap.size W W') : AS w0 B g m N most opn u S b id n of t W' :=
  ⟨h.jn.below hb, h.bd.below hb, h.pt.below hb h.pt.lt, h.bel.below hb (by have := h.jn.gB; have := h.jn.gb.lt; omega)⟩
theorem AS.two (h : AS w0 B g m N most opn u S b id n of t W) (n0 : -9223372036854775808 ≤ n) (n1 : n ≤ 9223372036854775807) :
    (Instr.lookup 90 (.map (some b.mb)) (.int .i64 n) true).run Try.prog W.drew = .ok (.tuple #[.string ((lookP b.ps n).getD ⟨#[]⟩), .bool (lookP b.ps n).isSome]) W.drew := (look_P h.drew.bd n n0 n1).1
theorem AS.lenP (h : AS w0 B g m N most opn u S b id n of t W) (k : Nat) : (Builtin.len_ #[90] 3 #[.map (some b.mb)]).run Try.prog (W.drewN k) = .ok (.int .i64 (b.ps.length : Int)) (W.drewN k) := len_P (h.drewN k).bd
theorem AS.lenS (h : AS w0 B g m N most opn u S b id n of t W) (k : Nat) : (Builtin.len_ #[84] 3 #[.map (some m)]).run Try.prog (W.drewN k) = .ok (.int .i64 (S.length : Int)) (W.drewN k) := len_S (h.drewN k).jn
end

set_option maxRecDepth 100000 in
set_option maxHeartbeats 4000000 in
theorem add_some {w : World} {B g m : Nat} {most opn : Int} {S : List BD} {b : BD} (h : JnS w B g m most opn S) (ok : AOk most opn (S.map BD.strip)) (id n of : Int) (t : ByteArray) (hm : MayP id n of t) (hf : findS S id = some b) :
    Calls Try.prog 14 #[.pointer (some ⟨g, 0, none⟩), .agg #[.int .i64 id, .int .i64 n, .int .i64 of, .string t]] w (AddPost B g m most opn w (addA most opn (S.map BD.strip) id n of t)) := by
  have HM := sh (fun W => may_ok id n of t W)
  rw [decide_eq_true hm] at HM
  obtain ⟨m1, m2, m3, m4, m5, m6, m7, m8⟩ := hm
  have n0 : -9223372036854775808 ≤ n := by omega
  have n1 : n ≤ 9223372036854775807 := by omega
  have OK := sh ok
  obtain ⟨hbS, hbid⟩ := findS_some hf
  have HR := sh (show addA most opn (S.map BD.strip) id n of t = (if b.of ≠ of ∨ (lookP b.ps n).isSome = true then (S.map BD.strip, ⟨#[]⟩, false, 8) else if (b.ps.length : Int) + 1 = of then (eraseA (S.map BD.strip) id, str (wholeK n (lst t) b.ps of.toNat), true, 0)
    else if most - (usedA (S.map BD.strip) : Int) < (t.size : Int) then (S.map BD.strip, ⟨#[]⟩, false, 5) else (updA (S.map BD.strip) id (b.ps ++ [(n, t)]), ⟨#[]⟩, false, 0)) by
    unfold addA; rw [find_strip, hf]; rfl)
  obtain ⟨k1, k2, k3, k4, k5, k6, k7, k8⟩ := ok.bds b.strip (List.mem_map.2 ⟨b, hbS, rfl⟩)
  have hu1 : (usedA (S.map BD.strip) : Int) ≤ most := ok.use
  have hu2 := ok.m0
  have HF := sh hf
  have HBS := sh hbS
  have HH := sh h
  change 0 ≤ b.id at k1
  change b.id ≤ 2147483647 at k2
  change 1 ≤ b.of at k3
  change b.of ≤ 1024 at k4
  change 1 ≤ b.ps.length at k5
  change (b.ps.length : Int) < b.of at k6
  have HND := sh k7
  have HPS := sh (And.intro k7 k8)
  generalize hU : usedA (S.map BD.strip) = u at *
  have SU := sh hU
  have HPW := sh (show (S.map BD.strip).Pairwise (fun p q => p.1 ≠ q.1) from ok.nd)
  have HID := sh hbid
  have HJ : Sh (JnV w B g m most opn (u : Int) S) := ⟨by have := h; unfold JnS at this; rw [hU] at this; exact this⟩
  have hSl : S.length ≤ 32 := by have := ok.len; have := ok.o0; rw [List.length_map] at *; omega
  clear hU hf hbS hbid m8 k7 k8 ok
  have S0 := sh (Bk.made w 33 #[.int .i64 id, .int .i64 n, .int .i64 of, .string t])
  have L0 := sh ((BK.refl B w).below ((Below.refl _ w).alloc (Nat.le_refl _) (.cells #[.int .i64 id, .int .i64 n, .int .i64 of, .string t] 33)) (show B ≤ w.heap.size by have := h.gB; have := h.gb.lt; omega))
  clear h
  go_enter Try.func14, Try.ntmps14
  go_wp2_with (go_at_call 34; refine (HM.out _).mono ?_; clear HM; rintro e' w1 ⟨rfl, hb1⟩)
  have HA := sh (⟨(HJ.out.below ((Below.refl _ w).alloc (Nat.le_refl _) (.cells #[.int .i64 id, .int .i64 n, .int .i64 of, .string t] 33))).below hb1, ((HJ.out.bds b HBS.out).below ((Below.refl _ w).alloc (Nat.le_refl _) (.cells #[.int .i64 id, .int .i64 n, .int .i64 of, .string t] 33))).below hb1, S0.out.below hb1 S0.out.lt, L0.out.below hb1 (by have := HJ.out.gB; have := HJ.out.gb.lt; simp; omega)⟩ : AS w B g m w.heap.size most opn u S b id n of t w1)
  have l1 : (Instr.lookup 84 (.map (some m)) (.int .i64 id) true).run Try.prog w1.drew = .ok (.tuple #[.pointer (some ⟨b.blk, 0, none⟩), .bool true]) w1.drew := by
    rcases look_S HA.out.drew.jn id (by omega) (by omega) with ⟨hb, _⟩ | ⟨b', hb, l⟩
    · rw [HF.out] at hb; cases hb
    · rw [HF.out] at hb; cases hb; exact l
  clear HJ S0 L0 HH hb1
  generalize w.heap.size = N at *
  have p0 : w1.cell? ⟨N, 0, none⟩ = some (.int .i64 id) := HA.out.pt.cell 0
  have c3 : w1.cell? ⟨g, 3, none⟩ = some (.map (some m)) := HA.out.jn.gb.cell 3
  go_region
  all_goals go_wp2_with fail
  replace HA := sh HA.out.drew
  clear p0 c3 l1
  generalize w1.drew = W2 at *
  have p1 : W2.cell? ⟨N, 1, none⟩ = some (.int .i64 n) := HA.out.pt.cell 1
  have d1 : W2.cell? ⟨b.blk, 1, none⟩ = some (.map (some b.mb)) := HA.out.bd.bk.cell 1
  have l2 := HA.out.two n0 n1
  go_region
  all_goals go_wp2_with fail
  replace HA := sh HA.out.drew
  clear p1 d1 l2
  generalize W2.drew = W3 at *
  have p2 : W3.cell? ⟨N, 2, none⟩ = some (.int .i64 of) := HA.out.pt.cell 2
  have d0 : W3.cell? ⟨b.blk, 0, none⟩ = some (.int .i64 b.of) := HA.out.bd.bk.cell 0
  generalize hT : (lookP b.ps n).getD ⟨#[]⟩ = T0 at *
  clear hT
  by_cases e1 : b.of = of
  · have b1 : (b.of != of) = false := by rw [bne_eq_false_iff_eq]; exact e1
    have E1 := sh e1
    clear e1
    cases e2 : (lookP b.ps n).isSome
    · rw [e2] at HR
      have HR2 := sh (HR.out.trans (if_neg (by rw [E1.out]; simp)))
      have HL := sh e2
      clear HR e2
      go_quiet (fail)
      all_goals go_wp2_with fail
      replace HA := sh (HA.out.drewN nq)
      clear p2 d0
      generalize W3.drewN nq = W4 at *
      have p2 : W4.cell? ⟨N, 2, none⟩ = some (.int .i64 of) := HA.out.pt.cell 2
      have d1 : W4.cell? ⟨b.blk, 1, none⟩ = some (.map (some b.mb)) := HA.out.bd.bk.cell 1
      have ln := HA.out.lenP
      have lnd : (Builtin.len_ #[90] 3 #[.map (some b.mb)]).run Try.prog W4.drew = .ok (.int .i64 (b.ps.length : Int)) W4.drew := ln 1
      by_cases e3 : (b.ps.length : Int) + 1 = of
      · have b3 : ((b.ps.length : Int) + 1 == of) = true := by rw [beq_iff_eq]; exact e3
        have HR3 := sh (HR2.out.trans (if_pos e3))
        obtain ⟨o', ho'⟩ := Int.eq_ofNat_of_zero_le (show 0 ≤ of by omega)
        have HO := sh ho'
        have ho1024 : o' ≤ 1024 := by omega
        have HW := sh (fun W hb => whole_any B b id n o' t W hb ho1024 m7 (fun q hq => (HPS.out.2 q hq).2.2.2))
        rw [← ho'] at HW
        have hoT : of.toNat = o' := by omega
        rw [hoT] at HR3
        clear HR2 e3 ho' hoT
        have p0 : W4.cell? ⟨N, 0, none⟩ = some (.int .i64 id) := HA.out.pt.cell 0
        have p1 : W4.cell? ⟨N, 1, none⟩ = some (.int .i64 n) := HA.out.pt.cell 1
        have p3 : W4.cell? ⟨N, 3, none⟩ = some (.string t) := HA.out.pt.cell 3
        go_region
        all_goals go_wp2_with fail
        replace HA := sh HA.out.drew
        clear p0 p1 p2 p3 d1 ln lnd
        generalize W4.drew = W5 at *
        refine (HW.out _ HA.out.bd).mono ?_
        rintro e' W6 ⟨rfl, hb6⟩
        replace HA := sh (HA.out.below hb6)
        have HND2 := sh HPS.out.1
        have p0' : W6.cell? ⟨N, 0, none⟩ = some (.int .i64 id) := HA.out.pt.cell 0
        have HD := sh (drop_some (S := S) (b := b) (id := id) (by have := HA.out.jn; unfold JnS; rw [SU.out]; exact this) hu2.2 (by rw [SU.out]; exact hu1) (by omega) (by omega) HF.out HND2.out)
        clear hb6 HW
        go_wp2_with (go_at_call 17; refine HD.out.mono ?_; clear HD; rintro e' W7 ⟨rfl, hj7, hb7⟩)
        go_ret3
        exact addPost_mk HR3.out (strip_erase S id) hj7 (HA.out.bel.trans hb7)
      · have b3 : ((b.ps.length : Int) + 1 == of) = false := by rw [beq_eq_false_iff_ne]; exact e3
        have HR3 := sh (HR2.out.trans (if_neg e3))
        clear HR2 e3
        go_region
        all_goals go_wp2_with fail
        replace HA := sh HA.out.drew
        clear p2 d1 ln lnd
        generalize W4.drew = W5 at *
        have c1 : W5.cell? ⟨g, 1, none⟩ = some (.int .i64 opn) := HA.out.jn.gb.cell 1
        have c3 : W5.cell? ⟨g, 3, none⟩ = some (.map (some m)) := HA.out.jn.gb.cell 3
        have lm := HA.out.lenS
        have lmd : (Builtin.len_ #[84] 3 #[.map (some m)]).run Try.prog W5.drew = .ok (.int .i64 (S.length : Int)) W5.drew := lm 1
        go_quiet (fail)
        all_goals go_wp2_with fail
        replace HA := sh (HA.out.drewN nq)
        clear c1 c3 lm lmd
        generalize W5.drewN nq = W6 at *
        have p3 : W6.cell? ⟨N, 3, none⟩ = some (.string t) := HA.out.pt.cell 3
        have c0 : W6.cell? ⟨g, 0, none⟩ = some (.int .i64 most) := HA.out.jn.gb.cell 0
        have c2 : W6.cell? ⟨g, 2, none⟩ = some (.int .i64 (u : Int)) := HA.out.jn.gb.cell 2
        by_cases e4 : most - (u : Int) < (t.size : Int)
        · have HR4 := sh (HR3.out.trans (if_pos e4))
          clear HR3
          go_quiet (fail)
          all_goals go_wp2_with fail
          go_ret3
          exact addPost_mk HR4.out rfl (by unfold JnS; rw [SU.out]; exact (HA.out.drewN _).jn) (HA.out.drewN _).bel
        · have HR4 := sh (HR3.out.trans (if_neg e4))
          clear HR3
          go_quiet (fail)
          all_goals go_wp2_with fail
          replace HA := sh (HA.out.drewN nq)
          clear p3 c0 c2 e4
          generalize W6.drewN nq = W7 at *
          have p1 : W7.cell? ⟨N, 1, none⟩ = some (.int .i64 n) := HA.out.pt.cell 1
          have p3 : W7.cell? ⟨N, 3, none⟩ = some (.string t) := HA.out.pt.cell 3
          have d1 : W7.cell? ⟨b.blk, 1, none⟩ = some (.map (some b.mb)) := HA.out.bd.bk.cell 1
          obtain ⟨W8, hu, hbd8, hg8⟩ := HA.out.drew.bd.store (n := n) (t := t) n0 n1 m7 (by omega) (by have := HL.out; cases h : lookP b.ps n with | none => rfl | some x => rw [h] at this; cases this)
          have HJ8 := sh (HA.out.drew.jn.upd HBS.out hg8 hbd8)
          have SP8 := sh (HA.out.drew.pt.grown hg8 (by obtain ⟨D', ⟨es, cc, hh, _⟩, _⟩ := HA.out.drew.bd.mp; have := HA.out.drew.pt.ne_map hh; simpa using this))
          have SB8 := sh (HA.out.drew.bel.grown hg8 (by have := HA.out.jn.gB; have := HA.out.jn.gb.lt; simp; omega) HA.out.bd.mB HA.out.drew.bd.joiM)
          clear HA hbd8 hg8
          go_region
          all_goals go_wp2_with fail
          clear p1 p3 d1 hu
          have p0 : W8.cell? ⟨N, 0, none⟩ = some (.int .i64 id) := SP8.out.cell 0
          have c3 : W8.cell? ⟨g, 3, none⟩ = some (.map (some m)) := HJ8.out.gb.cell 3
          obtain ⟨W9, hu, hj9, hg9⟩ := (HJ8.out.drew).again (b := b) (by omega) (by omega) (by simp [updS]; omega) (by rw [HID.out, findS_upd, HF.out]; simp only [Option.map_some]; split <;> rfl)
          rw [HID.out] at hu
          have HJ9 := sh hj9
          have SP9 := sh (SP8.out.drew.grown hg9 (by obtain ⟨D', ⟨es, cc, hh, _⟩, _⟩ := HJ8.out.drew.map; have := SP8.out.drew.ne_map hh; simpa using this))
          have SB9 := sh (SB8.out.drew.grown hg9 (by have := HJ8.out.gB; have := HJ8.out.gb.lt; simp; omega) HJ8.out.mB HJ8.out.drew.joiM)
          clear HJ8 SP8 SB8 hj9 hg9
          go_region
          all_goals go_wp2_with fail
          clear p0 c3 hu
          have p3 : W9.cell? ⟨N, 3, none⟩ = some (.string t) := SP9.out.cell 3
          have c2 : W9.cell? ⟨g, 2, none⟩ = some (.int .i64 (u : Int)) := HJ9.out.gb.cell 2
          have f2 := HJ9.out.gb.free 2
          go_region
          all_goals go_wp2_with fail
          go_ret3
          refine addPost_mk (S' := updS S b.id (b.ps ++ [(n, t)])) HR4.out ?_ ?_ ((SB9.out.set (p := ⟨g, 2, none⟩) HJ9.out.gB HJ9.out.joiG _).drew)
          · rw [strip_upd, HID.out]
          · have hj := (HJ9.out.set ((u : Int) + (t.size : Int))).drew
            have hus := usedA_upd (id := id) (A := S.map BD.strip) (o := b.of) (ps := b.ps) (q := (n, t)) HPW.out (by rw [find_strip, HF.out]; rfl)
            unfold JnS
            rw [strip_upd, HID.out, hus, SU.out]
            rw [HID.out] at hj
            exact hj
    · have HR2 := sh (HR.out.trans (if_pos (.inr e2)))
      clear HR
      go_quiet (fail)
      all_goals go_wp2_with fail
      go_ret3
      exact addPost_mk HR2.out rfl (by unfold JnS; rw [SU.out]; exact (HA.out.drewN _).jn) (HA.out.drewN _).bel
  · have b1 : (b.of != of) = true := by rw [bne_iff_ne]; exact e1
    have HR2 := sh (HR.out.trans (if_pos (.inl e1)))
    clear HR e1
    go_quiet (fail)
    all_goals go_wp2_with fail
    go_ret3
    exact addPost_mk HR2.out rfl (by unfold JnS; rw [SU.out]; exact (HA.out.drewN _).jn) (HA.out.drewN _).bel
end Go.Proofs.Ytoclbcpfiacoaaa
