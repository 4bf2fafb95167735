/- parts: Add, of a body that is new. -/
import Derived.Test.YtoclbcpfiacoaaaJn4
namespace Go.Proofs.Ytoclbcpfiacoaaa
set_option linter.unusedVariables false
set_option linter.unusedSimpArgs false
open Go.RowKit

theorem whole_one (t : ByteArray) : str (wholeK 0 (lst t) [] 1) = t := by
  have : wholeK 0 (lst t) [] 1 = lst t := by simp [wholeK]
  rw [this, str_lst]
set_option maxRecDepth 100000 in
set_option maxHeartbeats 4000000 in
theorem add_none {w : World} {B g m : Nat} {most opn : Int} {S : List BD} (h : JnS w B g m most opn S) (ok : AOk most opn (S.map BD.strip)) (id n of : Int) (t : ByteArray) (hm : MayP id n of t) (hf : findS S id = none) :
    Calls Try.prog 14 #[.pointer (some ⟨g, 0, none⟩), .agg #[.int .i64 id, .int .i64 n, .int .i64 of, .string t]] w (AddPost B g m most opn w (addA most opn (S.map BD.strip) id n of t)) := by
  have HM := sh (fun W => may_ok id n of t W)
  rw [decide_eq_true hm] at HM
  obtain ⟨m1, m2, m3, m4, m5, m6, m7, m8⟩ := hm
  have n0 : -9223372036854775808 ≤ n := by omega
  have n1 : n ≤ 9223372036854775807 := by omega
  have HR := sh (show addA most opn (S.map BD.strip) id n of t = (if of = 1 then (S.map BD.strip, t, true, 0) else if opn ≤ ((S.map BD.strip).length : Int) then (S.map BD.strip, ⟨#[]⟩, false, 4) else if most - (usedA (S.map BD.strip) : Int) < (t.size : Int) then (S.map BD.strip, ⟨#[]⟩, false, 5) else (S.map BD.strip ++ [(id, of, [(n, t)])], ⟨#[]⟩, false, 0)) by
    unfold addA; rw [find_strip, hf]; rfl)
  rw [List.length_map] at HR
  have hu1 : (usedA (S.map BD.strip) : Int) ≤ most := ok.use
  have hu2 := ok.m0
  have hSl : S.length ≤ 32 := by have := ok.len; have := ok.o0; rw [List.length_map] at *; omega
  have HF := sh hf
  generalize hU : usedA (S.map BD.strip) = u at *
  have SU := sh hU
  have HJ : Sh (JnV w B g m most opn (u : Int) S) := ⟨by have := h; unfold JnS at this; rw [hU] at this; exact this⟩
  have S0 := sh (Bk.made w 33 #[.int .i64 id, .int .i64 n, .int .i64 of, .string t])
  have L0 := sh ((BK.refl B w).below ((Below.refl _ w).alloc (Nat.le_refl _) (.cells #[.int .i64 id, .int .i64 n, .int .i64 of, .string t] 33)) (show B ≤ w.heap.size by have := h.gB; have := h.gb.lt; omega))
  have hmm := @run_makeMap Try.prog
  clear hU hf m8 ok h
  go_enter Try.func14, Try.ntmps14
  go_wp2_with (go_at_call 34; refine (HM.out _).mono ?_; clear HM; rintro e' w1 ⟨rfl, hb1⟩)
  have HJ1 := sh ((HJ.out.below ((Below.refl _ w).alloc (Nat.le_refl _) (.cells #[.int .i64 id, .int .i64 n, .int .i64 of, .string t] 33))).below hb1)
  have SP1 := sh (S0.out.below hb1 S0.out.lt)
  have SB1 := sh (L0.out.below hb1 (by have := HJ.out.gB; have := HJ.out.gb.lt; simp; omega))
  have l1 : (Instr.lookup 84 (.map (some m)) (.int .i64 id) true).run Try.prog w1.drew = .ok (.tuple #[.pointer none, .bool false]) w1.drew := by
    rcases look_S HJ1.out.drew id (by omega) (by omega) with ⟨_, l⟩ | ⟨b', hb, _⟩
    · exact l
    · rw [HF.out] at hb; cases hb
  clear HJ S0 L0 hb1
  generalize w.heap.size = N at *
  have p0 : w1.cell? ⟨N, 0, none⟩ = some (.int .i64 id) := SP1.out.cell 0
  have p2 : w1.cell? ⟨N, 2, none⟩ = some (.int .i64 of) := SP1.out.cell 2
  have c3 : w1.cell? ⟨g, 3, none⟩ = some (.map (some m)) := HJ1.out.gb.cell 3
  go_region
  all_goals go_wp2_with fail
  have hfr := sh (show (∀ c ∈ S, c.blk < w1.heap.size ∧ c.mb < w1.heap.size) ∧ m < w1.heap.size ∧ g < w1.heap.size ∧ N < w1.heap.size from
    ⟨fun c hc => ⟨(HJ1.out.bds c hc).bk.lt, (HJ1.out.bds c hc).ltm⟩, HJ1.out.ltm, HJ1.out.gb.lt, SP1.out.lt⟩)
  have HA0 : AS w B g m N most opn u S ⟨id, w1.heap.size + 1, w1.heap.size, of, []⟩ id n of t ((w1.alloc (.map #[] 0)).alloc (.cells #[.int .i64 of, .map (some w1.heap.size)] 92)) := by
    have hb2 : Below w1.heap.size w1 ((w1.alloc (.map #[] 0)).alloc (.cells #[.int .i64 of, .map (some w1.heap.size)] 92)) := ((Below.refl _ w1).alloc (Nat.le_refl _) _).alloc (by simp) _
    have hBl : B ≤ w1.heap.size := by have := HJ1.out.gB; have := HJ1.out.gb.lt; omega
    have hk := Bk.made (w1.alloc (.map #[] 0)) 92 #[.int .i64 of, .map (some w1.heap.size)]
    rw [World.size_alloc] at hk
    exact ⟨HJ1.out.below hb2, ⟨Nat.le_succ_of_le hBl, hBl, hk, .map [], (World.ownsMap_made w1 Try.prog 3 _).alloc _, fun n' => ⟨rfl, rfl⟩, rfl⟩, SP1.out.below hb2 SP1.out.lt, SB1.out.below hb2 hBl⟩
  have HA := sh HA0.drew
  clear HA0 HJ1 SP1 SB1 p0 p2 c3 l1
  generalize ((w1.alloc (.map #[] 0)).alloc (.cells #[.int .i64 of, .map (some w1.heap.size)] 92)).drew = W2 at *
  generalize w1.heap.size = T at *
  have p1 : W2.cell? ⟨N, 1, none⟩ = some (.int .i64 n) := HA.out.pt.cell 1
  have d1 : W2.cell? ⟨T + 1, 1, none⟩ = some (.map (some T)) := HA.out.bd.bk.cell 1
  have l2 : (Instr.lookup 90 (.map (some T)) (.int .i64 n) true).run Try.prog W2.drew = .ok (.tuple #[.string ⟨#[]⟩, .bool false]) W2.drew := HA.out.two n0 n1
  go_region
  all_goals go_wp2_with fail
  replace HA := sh HA.out.drew
  clear p1 d1 l2
  generalize W2.drew = W3 at *
  have p2 : W3.cell? ⟨N, 2, none⟩ = some (.int .i64 of) := HA.out.pt.cell 2
  have d0 : W3.cell? ⟨T + 1, 0, none⟩ = some (.int .i64 of) := HA.out.bd.bk.cell 0
  go_quiet (fail)
  all_goals go_wp2_with fail
  replace HA := sh (HA.out.drewN nq)
  clear p2 d0
  generalize W3.drewN nq = W4 at *
  have p2 : W4.cell? ⟨N, 2, none⟩ = some (.int .i64 of) := HA.out.pt.cell 2
  have d1 : W4.cell? ⟨T + 1, 1, none⟩ = some (.map (some T)) := HA.out.bd.bk.cell 1
  have ln : ∀ k, (Builtin.len_ #[90] 3 #[.map (some T)]).run Try.prog (W4.drewN k) = .ok (.int .i64 0) (W4.drewN k) := fun k => HA.out.lenP k
  have lnd : (Builtin.len_ #[90] 3 #[.map (some T)]).run Try.prog W4.drew = .ok (.int .i64 0) W4.drew := ln 1
  by_cases e3 : of = 1
  · have HR3 := sh (HR.out.trans (if_pos e3))
    subst e3
    obtain rfl : n = 0 := by omega
    have HW := sh (fun W hb => whole_any B ⟨id, T + 1, T, 1, []⟩ id 0 1 t W hb (by omega) m7 (fun q hq => by cases hq))
    have hwo : str (wholeK 0 (lst t) [] 1) = t := whole_one t
    rw [show (BD.mk id (T + 1) T 1 []).ps = ([] : PL) from rfl, hwo] at HW
    clear HR hwo
    have p0 : W4.cell? ⟨N, 0, none⟩ = some (.int .i64 id) := HA.out.pt.cell 0
    have p1 : W4.cell? ⟨N, 1, none⟩ = some (.int .i64 0) := HA.out.pt.cell 1
    have p3 : W4.cell? ⟨N, 3, none⟩ = some (.string t) := HA.out.pt.cell 3
    go_region
    all_goals go_wp2_with fail
    replace HA := sh HA.out.drew
    clear p0 p1 p2 p3 d1 ln lnd
    generalize W4.drew = W5 at *
    refine (HW.out _ HA.out.bd).mono ?_
    rintro e' W6 ⟨rfl, hb6⟩
    replace HA := sh (HA.out.below hb6)
    have p0' : W6.cell? ⟨N, 0, none⟩ = some (.int .i64 id) := HA.out.pt.cell 0
    have HJ6 : Sh (JnS W6 B g m most opn S) := ⟨by have := HA.out.jn; unfold JnS; rw [SU.out]; exact this⟩
    have HD := sh (drop_none HJ6.out id (by omega) (by omega) HF.out)
    clear hb6 HW
    go_wp2_with (go_at_call 17; refine HD.out.mono ?_; clear HD; rintro e' W7 ⟨rfl, rfl⟩)
    go_ret3
    exact addPost_mk HR3.out rfl HJ6.out HA.out.bel
  · have b3 : ((1 : Int) == of) = false := by rw [beq_eq_false_iff_ne]; exact fun e => e3 e.symm
    have b3' : ((0 : Int) + 1 == of) = false := b3
    have HR3 := sh (HR.out.trans (if_neg e3))
    clear HR e3
    go_region
    all_goals go_wp2_with fail
    replace HA := sh HA.out.drew
    clear p2 d1 ln lnd
    generalize W4.drew = W5 at *
    have c1 : W5.cell? ⟨g, 1, none⟩ = some (.int .i64 opn) := HA.out.jn.gb.cell 1
    have c3 : W5.cell? ⟨g, 3, none⟩ = some (.map (some m)) := HA.out.jn.gb.cell 3
    have lm := HA.out.lenS
    have lmd : (Builtin.len_ #[84] 3 #[.map (some m)]).run Try.prog W5.drew = .ok (.int .i64 (S.length : Int)) W5.drew := lm 1
    by_cases e5 : opn ≤ (S.length : Int)
    · have HR4 := sh (HR3.out.trans (if_pos e5))
      clear HR3
      go_quiet (fail)
      all_goals go_wp2_with fail
      go_ret3
      exact addPost_mk HR4.out rfl (by unfold JnS; rw [SU.out]; exact (HA.out.drewN _).jn) (HA.out.drewN _).bel
    · have HR4 := sh (HR3.out.trans (if_neg e5))
      clear HR3
      go_quiet (fail)
      all_goals go_wp2_with fail
      replace HA := sh (HA.out.drewN nq)
      clear c1 c3 lm lmd
      generalize W5.drewN nq = W6 at *
      have p3 : W6.cell? ⟨N, 3, none⟩ = some (.string t) := HA.out.pt.cell 3
      have c0 : W6.cell? ⟨g, 0, none⟩ = some (.int .i64 most) := HA.out.jn.gb.cell 0
      have c2 : W6.cell? ⟨g, 2, none⟩ = some (.int .i64 (u : Int)) := HA.out.jn.gb.cell 2
      by_cases e4 : most - (u : Int) < (t.size : Int)
      · have HR5 := sh (HR4.out.trans (if_pos e4))
        clear HR4
        go_quiet (fail)
        all_goals go_wp2_with fail
        go_ret3
        exact addPost_mk HR5.out rfl (by unfold JnS; rw [SU.out]; exact (HA.out.drewN _).jn) (HA.out.drewN _).bel
      · have HR5 := sh (HR4.out.trans (if_neg e4))
        clear HR4
        go_quiet (fail)
        all_goals go_wp2_with fail
        replace HA := sh (HA.out.drewN nq)
        clear p3 c0 c2 e4
        generalize W6.drewN nq = W7 at *
        have p1 : W7.cell? ⟨N, 1, none⟩ = some (.int .i64 n) := HA.out.pt.cell 1
        have p3 : W7.cell? ⟨N, 3, none⟩ = some (.string t) := HA.out.pt.cell 3
        have d1 : W7.cell? ⟨T + 1, 1, none⟩ = some (.map (some T)) := HA.out.bd.bk.cell 1
        obtain ⟨W8, hu, hbd8, hg8⟩ := HA.out.drew.bd.store (n := n) (t := t) n0 n1 m7 (Nat.zero_le _) rfl
        have hu' : (Instr.mapUpdate 90 (.map (some T)) (.int .i64 n) (.string t)).run Try.prog W7.drew = .ok () W8 := hu
        have HB8 : Sh (BdOk W8 B ⟨id, T + 1, T, of, [(n, t)]⟩) := ⟨hbd8⟩
        have hg8' : W7.drew.grownBy W8 (some T) := hg8
        have HJ8 := sh (HA.out.drew.jn.grown hg8' (by have := hfr.out.2.2.1; simp; omega) (by have := hfr.out.2.1; simp; omega) (fun c hc => by have := hfr.out.1 c hc; simp; omega))
        have SP8 := sh (HA.out.drew.pt.grown hg8' (by have := hfr.out.2.2.2; simp; omega))
        have SB8 := sh (HA.out.drew.bel.grown hg8' (by have := HA.out.jn.gB; have := HA.out.jn.gb.lt; simp; omega) HA.out.bd.mB HA.out.drew.bd.joiM)
        clear HA hbd8 hg8 hg8' hu
        go_region
        all_goals go_wp2_with fail
        clear p1 p3 d1 hu'
        have p0 : W8.cell? ⟨N, 0, none⟩ = some (.int .i64 id) := SP8.out.cell 0
        have c3 : W8.cell? ⟨g, 3, none⟩ = some (.map (some m)) := HJ8.out.gb.cell 3
        obtain ⟨W9, hu, hj9, hg9⟩ := (HJ8.out.drew).snoc (b := ⟨id, T + 1, T, of, [(n, t)]⟩) (HB8.out.below (below_drewN (Below.refl _ _) 1)) (by show _ ≤ id; omega) (by show id ≤ _; omega) (by omega) HF.out (fun c hc => by have := hfr.out.1 c hc; show c.blk ≠ T + 1 ∧ c.mb ≠ T; omega) (by have := hfr.out.2.1; show T ≠ m; omega)
        have hu' : (Instr.mapUpdate 84 (.map (some m)) (.int .i64 id) (.pointer (some ⟨T + 1, 0, none⟩))).run Try.prog W8.drew = .ok () W9 := hu
        have HJ9 := sh hj9
        have SP9 := sh (SP8.out.drew.grown hg9 (by obtain ⟨D', ⟨es, cc, hh, _⟩, _⟩ := HJ8.out.drew.map; have := SP8.out.drew.ne_map hh; simpa using this))
        have SB9 := sh (SB8.out.drew.grown hg9 (by have := HJ8.out.gB; have := HJ8.out.gb.lt; simp; omega) HJ8.out.mB HJ8.out.drew.joiM)
        clear HJ8 SP8 SB8 hj9 hg9 hu HB8
        go_region
        all_goals go_wp2_with fail
        clear p0 c3 hu'
        have p3 : W9.cell? ⟨N, 3, none⟩ = some (.string t) := SP9.out.cell 3
        have c2 : W9.cell? ⟨g, 2, none⟩ = some (.int .i64 (u : Int)) := HJ9.out.gb.cell 2
        have f2 := HJ9.out.gb.free 2
        go_region
        all_goals go_wp2_with fail
        go_ret3
        refine addPost_mk (S' := S ++ [⟨id, T + 1, T, of, [(n, t)]⟩]) HR5.out ?_ ?_ ((SB9.out.set (p := ⟨g, 2, none⟩) HJ9.out.gB HJ9.out.joiG _).drew)
        · rw [List.map_append]; rfl
        · have hj := (HJ9.out.set ((u : Int) + (t.size : Int))).drew
          have hus : usedA ((S ++ [(⟨id, T + 1, T, of, [(n, t)]⟩ : BD)]).map BD.strip) = u + t.size := by
            rw [List.map_append]
            have := SU.out
            unfold usedA at this ⊢
            rw [List.map_append, List.sum_append, this]
            simp [BD.strip, usedP]
          unfold JnS
          rw [hus]
          exact hj
end Go.Proofs.Ytoclbcpfiacoaaa
