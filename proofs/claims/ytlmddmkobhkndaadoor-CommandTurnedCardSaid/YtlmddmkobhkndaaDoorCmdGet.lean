/- command.Get and the reference's Get: contracts over the loaded program. -/
import Derived.Test.YtlmddmkobhkndaaDoorCmdPut
namespace Go.Proofs.YtlmddmkobhkndaaDoor
set_option linter.unusedVariables false
set_option linter.unusedSimpArgs false
open Go.RowKit Go.Lib

theorem str_ne {a b : ByteArray} (h : lst a ≠ lst b) : (a.toList == b.toList) = false := by
  rw [beq_eq_false_iff_ne, Lib.toList_data, Lib.toList_data]; exact h
theorem str_eqb {a b : ByteArray} (h : lst a = lst b) : (a.toList == b.toList) = true := by
  rw [beq_iff_eq, Lib.toList_data, Lib.toList_data]; exact h
def trimL (l : List UInt8) : List UInt8 := trimRightB l 0
theorem drop_zeros (x : List UInt8) : ∀ k, (List.replicate k (0 : UInt8) ++ x).dropWhile (· == 0) = x.dropWhile (· == 0)
  | 0 => by simp
  | k + 1 => by rw [List.replicate_succ, List.cons_append, List.dropWhile_cons]; simp [drop_zeros x k]
theorem name_ne {b : UInt8} (h : nameB b = true) : (b == 0) = false := by
  rw [beq_eq_false_iff_ne]
  rintro rfl
  exact absurd h (by decide)
theorem trim_pad {l : List UInt8} (h : l.all nameB = true) : trimL (padL l) = l := by
  unfold trimL trimRightB padL
  rw [List.reverse_append, List.reverse_replicate, drop_zeros]
  have h2 : l.reverse.all nameB = true := by rw [List.all_reverse]; exact h
  have : l.reverse.dropWhile (· == 0) = l.reverse := by
    cases hx : l.reverse with
    | nil => rfl
    | cons b x =>
      rw [hx, List.all_cons, Bool.and_eq_true] at h2
      rw [List.dropWhile_cons, name_ne h2.1]; rfl
  rw [this, List.reverse_reverse]
theorem take_zeros : ∀ (r : List UInt8), r.takeWhile (· == 0) = List.replicate (r.takeWhile (· == 0)).length 0
  | [] => rfl
  | b :: r => by
    rw [List.takeWhile_cons]
    cases hb : (b == 0)
    · rfl
    · have : b = 0 := by simpa using hb
      simp only [if_true, List.length_cons, List.replicate_succ, this]
      rw [← take_zeros r]
theorem trim_split (l : List UInt8) : ∃ k, l = trimL l ++ List.replicate k 0 := by
  refine ⟨(l.reverse.takeWhile (· == 0)).length, ?_⟩
  have h := List.takeWhile_append_dropWhile (p := (· == (0 : UInt8))) (l := l.reverse)
  have h2 := congrArg List.reverse h
  rw [List.reverse_append, List.reverse_reverse, take_zeros, List.reverse_replicate] at h2
  exact h2.symm
theorem trim_pad_back {l : List UInt8} (h : l.length = 12) : padL (trimL l) = l := by
  obtain ⟨k, hk⟩ := trim_split l
  unfold padL
  have h2 := congrArg List.length hk
  rw [List.length_append, List.length_replicate] at h2
  rw [show 12 - (trimL l).length = k by omega]
  exact hk.symm
def cget (l : List UInt8) : List UInt8 × Int := if l.length = 12 ∧ mayL (trimL l) = true then (trimL l, 0) else ([], 3)
theorem may_all {l : List UInt8} (h : mayL l = true) : l.all nameB = true ∧ 1 ≤ l.length ∧ l.length ≤ 12 := by
  unfold mayL at h
  simp only [Bool.and_eq_true, decide_eq_true_eq] at h
  exact ⟨h.1.1, h.1.2, h.2⟩
/-- the reference's test at n -/
def hit (l : List UInt8) (n : Nat) : Prop := mayL (l.take n) = true ∧ padL (l.take n) = l
theorem cget_hit {l : List UInt8} {n : Nat} (h : hit l n) : cget l = (l.take n, 0) := by
  obtain ⟨h1, h2, h3⟩ := may_all h.1
  have ht : trimL l = l.take n := by
    conv => lhs; rw [← h.2]
    exact trim_pad h1
  have hl : l.length = 12 := by rw [← h.2]; exact padL_len h3
  unfold cget
  rw [ht, if_pos ⟨hl, h.1⟩]
theorem cget_none {l : List UInt8} (h : ∀ n, 1 ≤ n → n ≤ 12 → n ≤ l.length → ¬ hit l n) : cget l = ([], 3) := by
  unfold cget
  by_cases c : l.length = 12 ∧ mayL (trimL l) = true
  · obtain ⟨h1, h2, h3⟩ := may_all c.2
    obtain ⟨k, hk⟩ := trim_split l
    have ht : l.take (trimL l).length = trimL l := by
      conv => lhs; rw [hk]
      rw [show (trimL (trimL l ++ List.replicate k 0)) = trimL l by rw [← hk]]
      simp
    exact absurd ⟨by rw [ht]; exact c.2, by rw [ht]; exact trim_pad_back c.1⟩ (h (trimL l).length h2 h3 (by omega))
  · rw [if_neg c]
set_option maxHeartbeats 1000000 in
theorem cget_ok (s : ByteArray) (hs : s.size ≤ maxLen) (w : World) : Calls Tryd.prog 12 #[.string s] w fun e w' => e = .returned (cputV (cget (lst s))) ∧ Below w.heap.size w w' := by
  unfold maxLen at hs
  have HT := sh (fun W => Tryd.strings_TrimRight_one s 0 (by decide) W (by omega))
  have HL := sh (size_lst s)
  have HM := sh (fun W => cmay (str (trimL (lst s))) W)
  rw [lst_str] at HM
  have HE : Sh ((⟨(trimRightB s.data.toList 0).toArray⟩ : ByteArray) = str (trimL (lst s))) := ⟨rfl⟩
  rw [HE.out] at HT
  by_cases c1 : s.size = 12
  · cases c2 : mayL (trimL (lst s))
    · have HV : Sh (cputV (cget (lst s)) = .tuple #[.string ⟨#[]⟩, .int .i64 3]) := ⟨by unfold cget; rw [if_neg (by rw [c2]; simp)]; rfl⟩
      rw [c2] at HM
      have n1 : ((s.size : Int) == 12) = true := by rw [beq_iff_eq]; omega
      go_enter Tryd.func12, Tryd.ntmps12
      go_wp2_with (first
        | (go_at_call 22; refine (HT.out _).mono ?_; rintro e' w' ⟨rfl, rfl⟩)
        | (go_at_call 10; refine (HM.out _).mono ?_; rintro e' w2 ⟨rfl, hb⟩))
      go_ret2
      exact ⟨by rw [HV.out]; rfl, hb⟩
    · have HV : Sh (cputV (cget (lst s)) = .tuple #[.string (str (trimL (lst s))), .int .i64 0]) := ⟨by unfold cget; rw [if_pos ⟨by rw [← HL.out]; exact c1, c2⟩]; rfl⟩
      rw [c2] at HM
      have n1 : ((s.size : Int) == 12) = true := by rw [beq_iff_eq]; omega
      go_enter Tryd.func12, Tryd.ntmps12
      go_wp2_with (first
        | (go_at_call 22; refine (HT.out _).mono ?_; rintro e' w' ⟨rfl, rfl⟩)
        | (go_at_call 10; refine (HM.out _).mono ?_; rintro e' w2 ⟨rfl, hb⟩))
      go_ret2
      exact ⟨by rw [HV.out]; rfl, hb⟩
  · have HV : Sh (cputV (cget (lst s)) = .tuple #[.string ⟨#[]⟩, .int .i64 3]) := ⟨by unfold cget; rw [if_neg (by rw [← HL.out]; exact fun h => c1 h.1)]; rfl⟩
    have n1 : ((s.size : Int) == 12) = false := by rw [beq_eq_false_iff_ne]; omega
    go_enter Tryd.func12, Tryd.ntmps12
    go_wp2_with (go_at_call 22; refine (HT.out _).mono ?_; rintro e' w' ⟨rfl, rfl⟩)
    go_ret2
    exact ⟨by rw [HV.out]; rfl, Below.refl _ _⟩
set_option maxHeartbeats 2000000 in
theorem rget_ok (s : ByteArray) (hs : s.size ≤ maxLen) (w : World) : Calls Tryd.prog 14 #[.string s] w fun e w' => e = .returned (cputV (cget (lst s))) ∧ w = w' := by
  have hs' := hs
  unfold maxLen at hs'
  have HL := sh (size_lst s)
  go_enter Tryd.func14, Tryd.ntmps14
  go_wp2
  go_loop [4] (fun v4 => ∃ (n : Nat), 1 ≤ n ∧ n ≤ 13 ∧ Sh (∀ m, 1 ≤ m → m < n → ¬ hit (lst s) m) ∧ v4 = .int .i64 (n : Int)) (fun v4 => 13 - (intOf v4).toNat)
  case atStart => exact ⟨1, by omega, by omega, ⟨fun m h1 h2 => by omega⟩, rfl⟩
  case round =>
    obtain ⟨n, hn1, hn, HX, rfl⟩ := hrel
    by_cases c : n ≤ 12 ∧ n ≤ s.size
    · obtain ⟨c1, c2⟩ := c
      obtain ⟨T, hT⟩ : ∃ T, s.extract 0 n = T := ⟨_, rfl⟩
      have HTl : Sh (lst T = (lst s).take n) := ⟨by rw [← hT]; unfold lst; simp⟩
      have hTs : T.size ≤ maxLen := by rw [size_lst, HTl.out]; simp; omega
      have HM := sh (fun W => rmay T hTs W)
      have HP := sh (fun W => rput T hTs W)
      rw [HTl.out] at HM HP
      cases q1 : mayL ((lst s).take n)
      · have HX2 : Sh (∀ m, 1 ≤ m → m < n + 1 → ¬ hit (lst s) m) := ⟨fun m h1 h2 => by
          by_cases e : m = n
          · subst e; intro h; rw [h.1] at q1; simp at q1
          · exact HX.out m h1 (by omega)⟩
        rw [q1] at HM
        clear q1 HX
        go_wp2_with (go_at_call 11; refine (HM.out _).mono ?_; rintro e' w' ⟨rfl, rfl⟩)
        go_round
        case rel => exact ⟨n + 1, by omega, by omega, HX2, by go_num⟩
        case measure => simp [intOf]; omega
      · rw [q1] at HM
        by_cases q2 : padL ((lst s).take n) = lst s
        · have HV : Sh (cputV (cget (lst s)) = .tuple #[.string T, .int .i64 0]) := ⟨by rw [cget_hit ⟨q1, q2⟩, ← HTl.out]; rfl⟩
          rw [q2, str_lst] at HP
          clear q1 q2 HX
          go_wp2_with (first
            | (go_at_call 11; refine (HM.out _).mono ?_; rintro e' w' ⟨rfl, rfl⟩)
            | (go_at_call 13; refine (HP.out _).mono ?_; rintro e' w' ⟨rfl, rfl⟩))
          go_ret2
          exact ⟨by rw [HV.out]; rfl, rfl⟩
        · have HX2 : Sh (∀ m, 1 ≤ m → m < n + 1 → ¬ hit (lst s) m) := ⟨fun m h1 h2 => by
            by_cases e : m = n
            · subst e; intro h; exact q2 h.2
            · exact HX.out m h1 (by omega)⟩
          obtain ⟨U, hU⟩ : ∃ U, str (padL ((lst s).take n)) = U := ⟨_, rfl⟩
          have hne : (U.toList == s.toList) = false := str_ne (by rw [← hU, lst_str]; exact q2)
          rw [hU] at HP
          clear q1 q2 HX
          go_wp2_with (first
            | (go_at_call 11; refine (HM.out _).mono ?_; rintro e' w' ⟨rfl, rfl⟩)
            | (go_at_call 13; refine (HP.out _).mono ?_; rintro e' w' ⟨rfl, rfl⟩))
          go_round
          case rel => exact ⟨n + 1, by omega, by omega, HX2, by go_num⟩
          case measure => simp [intOf]; omega
    · have HV : Sh (cputV (cget (lst s)) = .tuple #[.string ⟨#[]⟩, .int .i64 3]) := ⟨by
        rw [cget_none fun m h1 h2 h3 => HX.out m h1 (by rw [← HL.out] at h3; omega)]; rfl⟩
      by_cases c1 : n ≤ 12
      · have c2 : ¬ n ≤ s.size := fun h => c ⟨c1, h⟩
        clear c
        go_wp2
        go_ret2
        exact ⟨by rw [HV.out]; rfl, rfl⟩
      · clear c
        go_wp2
        go_ret2
        exact ⟨by rw [HV.out]; rfl, rfl⟩
end Go.Proofs.YtlmddmkobhkndaaDoor
