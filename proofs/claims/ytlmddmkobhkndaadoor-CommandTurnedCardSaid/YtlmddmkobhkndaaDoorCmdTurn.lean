/- CommandTurned: the walk of the statement. -/
import Derived.Test.YtlmddmkobhkndaaDoorCmdLaws
import Derived.Test.YtlmddmkobhkndaaDoorArgs
namespace Go.Proofs.YtlmddmkobhkndaaDoor
set_option linter.unusedVariables false
set_option linter.unusedSimpArgs false
open Go.RowKit Go.Lib

theorem wrap8 (x : Int) : IntKind.u8.wrap x = x % 256 := by
  simp only [IntKind.wrap, IntKind.bits, IntKind.signed]
  simp
theorem turn_byte (p : UInt8) (d : Nat) (hd : d < 255) : ∃ v : UInt8, v ≠ p ∧ ((p.toNat : Int) + 1 + (d : Int)) % 256 = (v.toNat : Int) := by
  have hp := p.toNat_lt
  have e : (UInt8.ofNat ((p.toNat + 1 + d) % 256)).toNat = (p.toNat + 1 + d) % 256 := UInt8.toNat_ofNat_of_lt' (Nat.mod_lt _ (by decide))
  refine ⟨UInt8.ofNat ((p.toNat + 1 + d) % 256), fun h => ?_, ?_⟩
  · have := congrArg UInt8.toNat h
    rw [e] at this
    omega
  · rw [e]
    omega
theorem cget_len {l : List UInt8} (h : l.length ≠ 12) : cputV (cget l) = .tuple #[.string ⟨#[]⟩, .int .i64 3] := by
  unfold cget; rw [if_neg (fun c => h c.1)]; rfl
/-- a row of bytes in block g, made a string -/
theorem conv_at {g : Nat} {l : List UInt8} {W : World} (c : Nat) (h : ∀ j b, l[j]? = some b → W.cell? ⟨g, j, none⟩ = some (.int .u8 (b.toNat : Int))) :
    (convert 28 9 (.slice (some ⟨g, 0, none⟩) l.length c)).run Tryd.prog W = .ok (.string (str l)) W := by
  refine run_convert_bytes_back W 28 9 5 ⟨g, 0, none⟩ c l Tryd.underlying28 Tryd.underlying5 Tryd.underlying9 (fun j hj => ?_)
  have : (⟨g, 0, none⟩ : Addr).add j = ⟨g, j, none⟩ := by unfold Addr.add; split <;> simp_all
  rw [this]
  exact h j _ (List.getElem?_eq_getElem hj)
theorem conv_bytes' (w : World) (s : ByteArray) :
    ∃ cap w1, (convert 9 28 (.string s)).run Tryd.prog w = .ok (.slice (some ⟨w.heap.size, 0, none⟩) s.size cap) w1 ∧ w1.heap.size = w.heap.size + 1 ∧ Below w.heap.size w w1 ∧
      (∀ j b, (lst s)[j]? = some b → w1.cell? ⟨w.heap.size, j, none⟩ = some (.int .u8 (b.toNat : Int))) ∧ (∀ j, j < s.size → w1.frozen? ⟨w.heap.size, j, none⟩ = false) ∧ s.size ≤ cap := by
  refine ⟨_, _, Lib.run_convert_string_bytes w 9 28 5 s Tryd.underlying9 Tryd.underlying28 Tryd.underlying5, Lib.bytesWorld_size w 5 s, ⟨rfl, rfl, rfl, by rw [Lib.bytesWorld_size]; omega, fun k hk => Lib.bytesWorld_at_old w 5 s k hk⟩, fun j b hj => ?_, fun j hj => ?_, grownCap_ge _ _ _ _⟩
  · have hjl : j < s.size := by rw [size_lst]; exact (List.getElem?_eq_some_iff.1 hj).1
    rw [Lib.bytesWorld_cell w 5 s j hjl]
    have : s.data.toList.getD j 0 = b := by
      rw [List.getD_eq_getElem?_getD]
      show ((lst s)[j]?).getD 0 = b
      rw [hj]; rfl
    rw [this]
  · have hc := Lib.bytesWorld_cell w 5 s j hj
    have hn := Lib.bytesWorld_at_new w 5 s
    have hlt : j < (Lib.bytesCells w 5 s).size := by
      simp only [World.cell?, hn] at hc
      exact (Array.getElem?_eq_some_iff.1 hc).1
    simp [World.frozen?, hn]
    omega
set_option maxHeartbeats 1000000 in
set_option maxRecDepth 100000 in
theorem turned_walk (s : ByteArray) (a b : Int) (w : World) (hs : s.size ≤ maxLen) (wa : (Lit.int .u8 a).wf = true) (wb : (Lit.int .u8 b).wf = true) : Calls Tryd.prog 5 #[.string s, .int .u8 a, .int .u8 b] w fun e w' => e = .returned (.bool true) ∧ Below w.heap.size w w' := by
  have HA := sh alive13
  obtain ⟨a0, a1⟩ := wf_u8 wa
  obtain ⟨b0, b1⟩ := wf_u8 wb
  clear wa wb
  by_cases c : (200 : Int) < (s.size : Int)
  · go_enter Tryd.func5, Tryd.ntmps5
    go_wp2_with (go_at_call 8; refine (HA.out _).mono ?_; rintro e' w2 ⟨rfl, hb⟩)
    go_ret
    exact ⟨rfl, hb⟩
  · have HR := sh (fun W => rmay s hs W)
    cases q : mayL (lst s)
    · rw [q] at HR
      clear q
      go_enter Tryd.func5, Tryd.ntmps5
      go_wp2_with (first
        | (go_at_call 8; refine (HA.out _).mono ?_; rintro e' w2 ⟨rfl, hb⟩)
        | (go_at_call 11; refine (HR.out _).mono ?_; rintro e' w5 ⟨rfl, rfl⟩))
      go_ret
      exact ⟨rfl, hb⟩
    · have HQ := sh (fun W => rput s hs W)
      obtain ⟨P, hP, hPl⟩ : ∃ P, padL (lst s) = P ∧ P.length = 12 := ⟨_, rfl, padL_len (may_all q).2.2⟩
      obtain ⟨k, hk, hk12⟩ : ∃ k : Nat, a.tmod 12 = (k : Int) ∧ k < 12 := ⟨(a.tmod 12).toNat, by rw [Int.tmod_eq_emod_of_nonneg a0]; omega, by rw [Int.tmod_eq_emod_of_nonneg a0]; omega⟩
      obtain ⟨d, hd, hd255⟩ : ∃ d : Nat, b.tmod 255 = (d : Int) ∧ d < 255 := ⟨(b.tmod 255).toNat, by rw [Int.tmod_eq_emod_of_nonneg b0]; omega, by rw [Int.tmod_eq_emod_of_nonneg b0]; omega⟩
      obtain ⟨p, hp⟩ : ∃ p, P[k]? = some p := ⟨_, List.getElem?_eq_getElem (by omega)⟩
      obtain ⟨v, hv, hvw⟩ := turn_byte p d hd255
      obtain ⟨S, hS⟩ : ∃ S, str P = S := ⟨_, rfl⟩
      have hSs : S.size = 12 := by rw [← hS, size_str, hPl]
      rw [q] at HR
      rw [hP, hS] at HQ
      obtain ⟨S1, hS1⟩ : ∃ S1, str (P.take k) = S1 := ⟨_, rfl⟩
      obtain ⟨S3, hS3⟩ : ∃ S3, str (P.set k v) = S3 := ⟨_, rfl⟩
      have HG1 := sh (fun W => cget_ok (str (P.take k)) (by rw [size_str]; simp; unfold maxLen; omega) W)
      rw [lst_str, cget_len (by rw [List.length_take]; omega), hS1] at HG1
      have HG2 := sh (fun W => cget_ok (S ++ ⟨#[0]⟩) (by rw [ByteArray.size_append, hSs]; unfold maxLen; decide) W)
      rw [cget_len (by rw [← size_lst, ByteArray.size_append, hSs]; decide)] at HG2
      have HG3 := sh (fun W => cget_ok (str (P.set k v)) (by rw [size_str]; simp; unfold maxLen; omega) W)
      rw [lst_str, hS3] at HG3
      have hPne : P.set k v ≠ P := fun h => by
        have h2 := congrArg (·[k]?) h
        simp only [List.getElem?_set_self (show k < P.length by omega)] at h2
        rw [hp] at h2
        exact hv (Option.some.inj h2)
      have hSP : lst S = P := by rw [← hS, lst_str]
      have HC := sh (fun W => conv_bytes' W S)
      have Q1 : Sh (∀ (g cap : Nat) (W : World), (∀ j b, (lst S)[j]? = some b → W.cell? ⟨g, j, none⟩ = some (.int .u8 (b.toNat : Int))) → (convert 28 9 (.slice (some ⟨g, 0, none⟩) k cap)).run Tryd.prog W = .ok (.string S1) W) := ⟨fun g cap W h => by
        have h2 := conv_at (g := g) (l := P.take k) (W := W) cap (fun j b hj => h j b (by rw [hSP]; rw [List.getElem?_take] at hj; split at hj <;> simp_all))
        rw [List.length_take, Nat.min_eq_left (by omega), hS1] at h2
        exact h2⟩
      have Q2 : Sh (∀ (g cap : Nat) (W : World), (∀ j b, (lst S)[j]? = some b → W.cell? ⟨g, j, none⟩ = some (.int .u8 (b.toNat : Int))) → (convert 28 9 (.slice (some ⟨g, 0, none⟩) 12 cap)).run Tryd.prog W = .ok (.string S) W) := ⟨fun g cap W h => by
        have h2 := conv_at (g := g) (l := P) (W := W) cap (fun j b hj => h j b (by rw [hSP]; exact hj))
        rw [hPl, hS] at h2
        exact h2⟩
      have Q3 : Sh (∀ (g cap : Nat) (W : World), (∀ j b, (lst S)[j]? = some b → W.cell? ⟨g, j, none⟩ = some (.int .u8 (b.toNat : Int))) → (convert 28 9 (.slice (some ⟨g, 0, none⟩) 12 cap)).run Tryd.prog (W.setCell ⟨g, k, none⟩ (.int .u8 (v.toNat : Int))) = .ok (.string S3) (W.setCell ⟨g, k, none⟩ (.int .u8 (v.toNat : Int)))) := ⟨fun g cap W h => by
        have h2 := conv_at (g := g) (l := P.set k v) (W := W.setCell ⟨g, k, none⟩ (.int .u8 (v.toNat : Int))) cap (fun j b hj => by
          by_cases e : k = j
          · subst e
            rw [List.getElem?_set_self (by omega)] at hj
            cases hj
            exact World.cell?_setCell_same _ _ _ (h k p (by rw [hSP]; exact hp))
          · rw [List.getElem?_set_ne e] at hj
            rw [World.cell?_setCell_other _ _ _ _ (fun e2 => e (by cases e2; rfl))]
            exact h j b (by rw [hSP]; exact hj))
        rw [List.length_set, hPl, hS3] at h2
        exact h2⟩
      have hpS : (lst S)[k]? = some p := by rw [hSP]; exact hp
      have HNE : Sh (∀ t, padL t = P.set k v → (str t).toList ≠ s.toList) := ⟨fun t ht e => by
        rw [Lib.toList_data, Lib.toList_data] at e
        have e2 : t = lst s := by rw [← lst_str t]; exact e
        rw [e2, hP] at ht
        exact hPne ht.symm⟩
      clear hS1 hS3 hS hP hPl hPne q hSP hp hv
      rcases cget_cases (P.set k v) with h | ⟨t, h, hm, hpd⟩
      · have hvv : cputV (cget (P.set k v)) = .tuple #[.string ⟨#[]⟩, .int .i64 3] := by rw [h]; rfl
        rw [hvv] at HG3
        clear h hvv HNE
        go_enter Tryd.func5, Tryd.ntmps5
        go_wp2_with (first
          | (go_at_call 8; refine (HA.out _).mono ?_; rintro e' w2 ⟨rfl, hb⟩)
          | (go_at_call 11; refine (HR.out _).mono ?_; rintro e' w5 ⟨rfl, rfl⟩)
          | (go_at_call 13; refine (HQ.out _).mono ?_; rintro e' w6 ⟨rfl, rfl⟩; obtain ⟨cap, w3, hcv, hsz, hb3, hcell, hfro, hcap⟩ := HC.out w2; have q1 := Q1.out _ cap w3 hcell)
          | (go_at_call 12; refine (HG1.out _).mono ?_; clear HG1; rintro e' w4 ⟨rfl, hb4⟩; have hcell4 : ∀ j b, (lst S)[j]? = some b → w4.cell? ⟨w2.heap.size, j, none⟩ = some (.int .u8 (b.toNat : Int)) := (fun j b hj => (hb4.cell (p := ⟨w2.heap.size, j, none⟩) (by simp; omega)).trans (hcell j b hj)); have q2 := Q2.out _ cap w4 hcell4)
          | (go_at_call 12; refine (HG2.out _).mono ?_; clear HG2; rintro e' w5 ⟨rfl, hb5⟩; have hcell5 : ∀ j b, (lst S)[j]? = some b → w5.cell? ⟨w2.heap.size, j, none⟩ = some (.int .u8 (b.toNat : Int)) := (fun j b hj => (hb5.cell (p := ⟨w2.heap.size, j, none⟩) (by have := hb4.size; simp; omega)).trans (hcell4 j b hj)); have hk5 := hcell5 k p hpS; have hf5 : w5.frozen? ⟨w2.heap.size, k, none⟩ = false := ((hb5.frozen (p := ⟨w2.heap.size, k, none⟩) (by have := hb4.size; simp; omega)).trans ((hb4.frozen (p := ⟨w2.heap.size, k, none⟩) (by simp; omega)).trans (hfro k (by omega)))); have q3 := Q3.out _ cap w5 hcell5)
          | (go_at_call 12; refine (HG3.out _).mono ?_; rintro e' w7 ⟨rfl, hb7⟩))
        go_ret
        have t3 := hb.trans (hb3.mono hb.size)
        have t4 := t3.trans (hb4.mono t3.size)
        have t5 := t4.trans (hb5.mono t4.size)
        have t6 := t5.setCell (p := ⟨w2.heap.size, k, none⟩) hb.size (.int .u8 (v.toNat : Int))
        exact ⟨by simp, t6.trans (hb7.mono t6.size)⟩
      · have hvv : cputV (cget (P.set k v)) = .tuple #[.string (str t), .int .i64 0] := by rw [h]; rfl
        rw [hvv] at HG3
        have hne := HNE.out t hpd
        clear h hvv HNE hm hpd
        generalize str t = T at *
        have hne2 : (T.toList == s.toList) = false := by rw [beq_eq_false_iff_ne]; exact hne
        clear hne
        go_enter Tryd.func5, Tryd.ntmps5
        go_wp2_with (first
          | (go_at_call 8; refine (HA.out _).mono ?_; rintro e' w2 ⟨rfl, hb⟩)
          | (go_at_call 11; refine (HR.out _).mono ?_; rintro e' w5 ⟨rfl, rfl⟩)
          | (go_at_call 13; refine (HQ.out _).mono ?_; rintro e' w6 ⟨rfl, rfl⟩; obtain ⟨cap, w3, hcv, hsz, hb3, hcell, hfro, hcap⟩ := HC.out w2; have q1 := Q1.out _ cap w3 hcell)
          | (go_at_call 12; refine (HG1.out _).mono ?_; clear HG1; rintro e' w4 ⟨rfl, hb4⟩; have hcell4 : ∀ j b, (lst S)[j]? = some b → w4.cell? ⟨w2.heap.size, j, none⟩ = some (.int .u8 (b.toNat : Int)) := (fun j b hj => (hb4.cell (p := ⟨w2.heap.size, j, none⟩) (by simp; omega)).trans (hcell j b hj)); have q2 := Q2.out _ cap w4 hcell4)
          | (go_at_call 12; refine (HG2.out _).mono ?_; clear HG2; rintro e' w5 ⟨rfl, hb5⟩; have hcell5 : ∀ j b, (lst S)[j]? = some b → w5.cell? ⟨w2.heap.size, j, none⟩ = some (.int .u8 (b.toNat : Int)) := (fun j b hj => (hb5.cell (p := ⟨w2.heap.size, j, none⟩) (by have := hb4.size; simp; omega)).trans (hcell4 j b hj)); have hk5 := hcell5 k p hpS; have hf5 : w5.frozen? ⟨w2.heap.size, k, none⟩ = false := ((hb5.frozen (p := ⟨w2.heap.size, k, none⟩) (by have := hb4.size; simp; omega)).trans ((hb4.frozen (p := ⟨w2.heap.size, k, none⟩) (by simp; omega)).trans (hfro k (by omega)))); have q3 := Q3.out _ cap w5 hcell5)
          | (go_at_call 12; refine (HG3.out _).mono ?_; rintro e' w7 ⟨rfl, hb7⟩))
        go_ret
        have t3 := hb.trans (hb3.mono hb.size)
        have t4 := t3.trans (hb4.mono t3.size)
        have t5 := t4.trans (hb5.mono t4.size)
        have t6 := t5.setCell (p := ⟨w2.heap.size, k, none⟩) hb.size (.int .u8 (v.toNat : Int))
        exact ⟨by simp, t6.trans (hb7.mono t6.size)⟩
end Go.Proofs.YtlmddmkobhkndaaDoor
