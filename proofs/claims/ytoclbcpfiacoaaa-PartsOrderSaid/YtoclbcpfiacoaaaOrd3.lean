/- PartsOrder: the walk of the statement. -/
import Derived.Test.YtoclbcpfiacoaaaOrd2
namespace Go.Proofs.Ytoclbcpfiacoaaa
set_option linter.unusedVariables false
set_option linter.unusedSimpArgs false
open Go.RowKit

theorem Jn.grownLow {w w' : World} {C g m : Nat} {most opn : Int} {A : List AB} {x : Nat} (h : Jn w C g m most opn A) (hg : w.grownBy w' (some x)) (hx : x < C) : Jn w' C g m most opn A := by
  obtain ⟨S, rfl, h⟩ := h
  refine ⟨S, rfl, JnV.grown h hg (by have := h.gB; simp; omega) (by have := h.mB; simp; omega) fun b hb => ?_⟩
  have h1 := (h.bds b hb).bB
  have h2 := (h.bds b hb).mB
  exact ⟨by simp; omega, by simp; omega⟩
theorem LR.belowB {W W' : World} {g n B : Nat} {id : Int} {F : Nat → List UInt8} {σ : List Nat} (h : LR W g n id F σ) (hb : Below B W W') (hg : g < B) : LR W' g n id F σ := by
  obtain ⟨cur, h1, h2⟩ := h.ex
  exact ⟨⟨cur, h1.below hb hg, h2⟩, h.len⟩
theorem own_zero {W : World} {B : Nat} {e : TypeId} {sz : Nat} {v : Value} {xs : List Value} (h : W.ownsRow B e sz v ([] : List AB).length xs) : ∃ (cp : Nat) (a : Option Addr), v = .slice a 0 cp := by
  rcases h.2 with ⟨rfl, _⟩ | ⟨g, cp, cur, rfl, _⟩
  · exact ⟨_, _, rfl⟩
  · exact ⟨_, _, rfl⟩
structure OS (w0 : World) (N C g n gj m : Nat) (id : Int) (F : Nat → List UInt8) (σ : List Nat) (A : List AB) (W : World) : Prop where
  lr : LR W g n id F σ
  jn : Jn W C gj m 1048576 1 A
  bel : Below N w0 W
section
variable {w0 W W' : World} {N C g n gj m : Nat} {id : Int} {F : Nat → List UInt8} {σ : List Nat} {A : List AB}
theorem OS.swap (h : OS w0 N C g n gj m id F σ A W) (hN : N ≤ g) (hC : g < C) {i k a b : Nat} (hi : σ[i]? = some a) (hk : σ[k]? = some b) : OS w0 N C g n gj m id F ((σ.set i b).set k a) A (swapW W g i k (b : Int) (a : Int) id (n : Int) (str (F b)) (str (F a))) :=
  ⟨h.lr.swap hi hk, h.jn.grownLow swap_only hC, swap_below h.bel hN⟩
theorem OS.drew (h : OS w0 N C g n gj m id F σ A W) : OS w0 N C g n gj m id F σ A W.drew := ⟨h.lr.below (below_drewN (Below.refl _ _) 1), h.jn.drewN 1, h.bel.drew⟩
end
set_option maxRecDepth 100000 in
set_option maxHeartbeats 1000000 in
theorem order_ok (id : Int) (s : ByteArray) (z : Nat) (a : Option Addr) (len cap : Nat) (zs : List Int) (w : World) (w3 : IsRow .u8 w a len cap zs) (c1 : ¬ (2000 : Int) < (s.size : Int)) (c2 : ¬ (300 : Int) < (len : Int)) (hid : 0 ≤ id ∧ id ≤ 2147483647) (hz : 1 ≤ z) (hz2 : z ≤ 65536) (hp : pieces z s.size ≤ 1024) :
    Calls Try.prog 6 #[.int .i64 id, .string s, .int .i64 (z : Int), .slice a len cap] w fun e w' => e = .returned (.bool true) ∧ Below w.heap.size w w' := by
  have HA := sh alive30
  have hlen := w3.len_le
  have HC : Sh (∀ W, Calls Try.prog 10 #[.int .i64 id, .string s, .int .i64 (z : Int)] W fun e w' => ∃ v, e = .returned (.tuple #[v, .int .i64 0]) ∧ w'.ownsRow W.heap.size 33 4 v (pieces z s.size) (pcs id (pieces z s.size : Nat) (pieces z s.size) (piece z (lst s))) ∧ Below W.heap.size W w') :=
    ⟨fun W => (cut_all id z s (by omega) hid hz hz2 W).mono fun e w' h => h.elim (fun h => absurd h.1 (by omega)) (fun h => h.2)⟩
  have hn1 : 1 ≤ pieces z s.size := by unfold pieces; omega
  have HO : Sh (∀ σ, σ.Perm (List.range (pieces z s.size)) → Ordn id (pieces z s.size) (piece z (lst s)) s σ) := ⟨fun σ hσ => by
    have hsl : pieces z s.size = pieces z (lst s).length := by rw [size_lst]
    refine ⟨hσ, hn1, hp, hid, by rw [hsl]; exact piece_all hz _, by omega, fun h1 i hi => ?_⟩
    rw [hsl] at h1 hi
    exact piece_pos hz _ i hi h1⟩
  generalize pieces z s.size = n at *
  generalize piece z (lst s) = F at *
  have D1 : decide ((2000 : Int) < (s.size : Int)) = false := decide_eq_false c1
  have D2 : decide ((300 : Int) < (len : Int)) = false := decide_eq_false c2
  go_enter Try.func6, Try.ntmps6
  go_wp2_with (first
    | (go_at_call 9; refine (HA.out _).mono ?_; clear HA; rintro e' w2 ⟨rfl, hb⟩)
    | (go_at_call 10; refine (HC.out _).mono ?_; clear HC; rintro e' w4 ⟨v4, rfl, ho4, hb4⟩; obtain ⟨g, cp, rfl, hg4⟩ := slice_form ho4 hn1)
    | (go_at_call 13; refine (new_ok 1048576 1 (by omega) (by omega) _).mono ?_; rintro e' w5 ⟨rfl, hw5⟩))
  have hl4 := lr_of ho4
  have hbC : Below w4.heap.size w4 ((w4.alloc (.map #[] 0)).alloc (.cells #[.int .i64 1048576, .int .i64 1, .int .i64 0, .map (some w4.heap.size)] 86)) := ((Below.refl _ w4).alloc (Nat.le_refl _) _).alloc (by simp) _
  have hB2 : w.heap.size ≤ w2.heap.size := hb.size
  have hB4 : w2.heap.size ≤ w4.heap.size := hb4.size
  have SO := sh (⟨hl4.1.belowB hbC hg4, jn_new 1048576 1 w4 w4.heap.size (Nat.le_refl _), (hb.trans (hb4.mono hB2)).trans (hbC.mono (by omega))⟩ : OS w w.heap.size w4.heap.size g n (w4.heap.size + 1) w4.heap.size id F (List.range n) [] _)
  have hgN : w.heap.size ≤ g := by have := hl4.2; omega
  clear hl4 hbC ho4 hb4 hb
  generalize ((w4.alloc (.map #[] 0)).alloc (.cells #[.int .i64 1048576, .int .i64 1, .int .i64 0, .map (some w4.heap.size)] 86)) = W0 at *
  generalize w4.heap.size = C at *
  go_loopw [13] (fun v13 wr => ∃ (i : Nat) (σ : List Nat), i ≤ n ∧ v13 = .int .i64 (i : Int) ∧ Sh (σ.Perm (List.range n)) ∧ Sh (OS w w.heap.size C g n (C + 1) C id F σ [] wr)) (fun v13 _ => n - (RowKit.intOf v13).toNat)
  case atStart => exact ⟨0, _, by omega, rfl, ⟨List.Perm.refl _⟩, SO⟩
  case round =>
    clear SO
    obtain ⟨i, σ, hi, rfl, HP, HS⟩ := hrel
    by_cases hgo : i < len ∧ i < n
    · obtain ⟨hil, hin⟩ := hgo
      · have hσl : σ.length = n := by rw [HP.out.length_eq, List.length_range]
        obtain ⟨x, rfl, hcx, hwf, hblk⟩ := w3.at_ hil
        obtain ⟨b, hbz, hb255⟩ : ∃ b : Nat, zs[i]?.getD 0 = (b : Int) ∧ b ≤ 255 := by
          have := wf_u8 hwf
          exact ⟨(zs[i]?.getD 0).toNat, by omega, by omega⟩
        rw [hbz] at hcx
        have hc0 := (HS.out.bel.cell hblk).trans hcx
        obtain ⟨r, hr1, hr2, hr3⟩ : ∃ r : Nat, (b : Int) % ((n : Int) - (i : Int)) = (r : Int) ∧ (b : Int).tmod ((n : Int) - (i : Int)) = (r : Int) ∧ i + r < n := by
          refine ⟨b % (n - i), ?_, ?_, ?_⟩
          · rw [show (n : Int) - (i : Int) = ((n - i : Nat) : Int) by omega]; exact (Int.natCast_emod _ _).symm
          · rw [Int.tmod_eq_emod_of_nonneg (by omega), show (n : Int) - (i : Int) = ((n - i : Nat) : Int) by omega]; exact (Int.natCast_emod _ _).symm
          · have := Nat.mod_lt b (show 0 < n - i by omega); omega
        obtain ⟨p, hp⟩ : ∃ p, σ[i]? = some p := ⟨_, List.getElem?_eq_getElem (by omega)⟩
        obtain ⟨q, hq⟩ : ∃ q, σ[i + r]? = some q := ⟨_, List.getElem?_eq_getElem (by omega)⟩
        obtain ⟨a0, a1, a2, a3⟩ := HS.out.lr.cells hp
        obtain ⟨b0, b1, b2, b3⟩ := HS.out.lr.cells hq
        have fr := sh HS.out.lr.free
        have g0 := fr.out (i * 4)
        have g1 := fr.out (i * 4 + 1)
        have g2 := fr.out (i * 4 + 2)
        have g3 := fr.out (i * 4 + 3)
        have k0 := fr.out ((i + r) * 4)
        have k1 := fr.out ((i + r) * 4 + 1)
        have k2 := fr.out ((i + r) * 4 + 2)
        have k3 := fr.out ((i + r) * 4 + 3)
        have SW := sh (HS.out.swap hgN (by omega) hp hq)
        have SP := sh ((swap_perm hp hq).trans HP.out)
        have HPQ := sh (show r = 0 → p = q from fun e => by rw [e, Nat.add_zero, hp] at hq; exact Option.some.inj hq)
        clear hcx hwf hbz hp hq HS HP hblk
        go_wp2_with fail
        have q1 : (i : Int) + (r : Int) < (n : Int) := by omega
        have q2 : (0 : Int) ≤ (i : Int) + (r : Int) := by omega
        have q3 : ((i : Int) + (r : Int)).toNat = i + r := by omega
        have q4 : (i : Int) < (n : Int) := by omega
        by_cases hr0 : r = 0
        · obtain rfl := HPQ.out hr0
          subst hr0
          simp only [Nat.add_zero] at b0 b1 b2 b3 k0 k1 k2 k3 q3 SW SP
          go_region
          all_goals go_wp2_with fail
          all_goals go_roundw
          case rel => exact ⟨i + 1, _, by omega, by go_num, SP, ⟨SW.out.drew⟩⟩
          case measure => simp [RowKit.intOf]; omega
        · have hr1' : 1 ≤ r := by omega
          clear hr0
          go_region
          all_goals go_wp2_with fail
          all_goals go_roundw
          case rel => exact ⟨i + 1, _, by omega, by go_num, SP, ⟨SW.out.drew⟩⟩
          case measure => simp [RowKit.intOf]; omega
    · have HOr := sh (HO.out σ HP.out)
      clear HO
      by_cases hil : (i : Int) < (len : Int)
      all_goals first
        | (have hin : ¬ (i : Int) < (n : Int) := by omega)
        | skip
      all_goals clear hgo
      all_goals go_wp2_with fail
      all_goals go_loopw [15] (fun v15 wq => ∃ j : Nat, j ≤ n ∧ v15 = .int .i64 (j : Int) ∧ Sh (OS w w.heap.size C g n (C + 1) C id F σ (ordA id n F σ j) wq) ∧ Sh (AOk 1048576 1 (ordA id n F σ j))) (fun v15 _ => n - (RowKit.intOf v15).toNat)
      all_goals first
        | (case atStart => exact ⟨0, by omega, rfl, HS, ⟨aok_nil (by omega) (by omega)⟩⟩)
        | skip
      all_goals
        clear HS
        obtain ⟨j, hj, rfl, HT, HK⟩ := hrel
        by_cases hjn : j < n
        · obtain ⟨p, hp⟩ : ∃ p, σ[j]? = some p := ⟨_, List.getElem?_eq_getElem (by rw [HP.out.length_eq, List.length_range]; exact hjn)⟩
          obtain ⟨a0, a1, a2, a3⟩ := HT.out.lr.cells hp
          have hst := ord_step HOr.out hjn hp
          have HAd := sh (add_any HT.out.jn HK.out id (p : Int) (n : Int) (str (F p)))
          have HK2 := sh (aok_add HK.out id (p : Int) (n : Int) (str (F p)))
          rw [hst] at HAd HK2
          have hpn : (p : Int) ≤ 1024 := by
            have := List.mem_range.1 (HP.out.subset (List.mem_of_getElem? hp))
            omega
          clear hst hp HK
          generalize str (F p) = T at *
          by_cases hl : j + 1 = n
          · rw [if_pos hl, decide_eq_true hl] at HAd
            unfold addRet at HAd
            dsimp only at HAd
            have bl : ((j : Int) == (n : Int) - 1) = true := by rw [beq_iff_eq]; omega
            clear hl
            go_wp2_with (go_at_call 14; refine HAd.out.mono ?_; clear HAd; rintro e' wz ⟨rfl, hjz, hbz⟩)
            go_roundw
            case rel => exact ⟨j + 1, by omega, by go_num, ⟨HT.out.lr.belowB hbz (by omega), hjz, HT.out.bel.trans (hbz.mono (by omega))⟩, HK2⟩
            case measure => simp [RowKit.intOf]; omega
          · rw [if_neg hl, decide_eq_false hl] at HAd
            unfold addRet at HAd
            dsimp only at HAd
            have bl : ((j : Int) == (n : Int) - 1) = false := by rw [beq_eq_false_iff_ne]; omega
            clear hl
            go_wp2_with (go_at_call 14; refine HAd.out.mono ?_; clear HAd; rintro e' wz ⟨rfl, hjz, hbz⟩)
            go_roundw
            case rel => exact ⟨j + 1, by omega, by go_num, ⟨HT.out.lr.belowB hbz (by omega), hjz, HT.out.bel.trans (hbz.mono (by omega))⟩, HK2⟩
            case measure => simp [RowKit.intOf]; omega
        · have hjn' : j = n := by omega
          have hoe : ordA id n F σ j = [] := by unfold ordA; rw [if_pos (.inr hjn')]
          have HU := sh (used_any HT.out.jn)
          have HOp := sh (open_any HT.out.jn (by rw [hoe]; simp))
          have HB := sh HT.out.bel
          have hBw := HT.out.bel.size
          rw [hoe] at HU HOp
          have u0 : usedA [] = 0 := rfl
          rw [u0] at HU
          clear hoe HT HK hjn' u0
          go_wp2_with (first
            | (go_at_call 16; refine HU.out.mono ?_; clear HU; rintro e' wz ⟨rfl, rfl⟩)
            | (go_at_call 15; refine HOp.out.mono ?_; clear HOp; rintro e' wz ⟨v, rfl, hov, hbz⟩; obtain ⟨cp', av, rfl⟩ := own_zero hov))
          go_ret
          exact ⟨rfl, HB.out.trans (hbz.mono hBw)⟩
end Go.Proofs.Ytoclbcpfiacoaaa
