/- The board: what a fault leaves alone; its peers' names; Sweep's plain law; a board that is nil. -/
import Derived.Test.YtckdahojhdbpjaaDoorQ2
namespace Go.Proofs.YtckdahojhdbpjaaDoor
set_option linter.unusedVariables false
set_option linter.unusedSimpArgs false
open Go.RowKit Go.Sort Go.Maps Go.Shelf

/-- an object of a board's: a map, a peer's struct -/
def Boa (o : Obj) : Prop := (∃ es c, o = .map es c) ∨ ∃ cs t f, o = .cells cs t f ∧ t = 64
def BoaAt (w : World) (r : Nat) : Prop := ∃ o, w.heap[r]? = some o ∧ Boa o
/-- whatever is no board's stands -/
def Kp (w w' : World) : Prop := ∀ (k : Nat) (o : Obj), w.heap[k]? = some o → ¬ Boa o → w'.heap[k]? = some o
theorem heap_lt {w : World} {i : Nat} {o : Obj} (h : w.heap[i]? = some o) : i < w.heap.size := (Array.getElem?_eq_some_iff.1 h).1
theorem Kp.refl (w : World) : Kp w w := fun _ _ h _ => h
theorem Kp.trans {a b c : World} (h : Kp a b) (k : Kp b c) : Kp a c := fun i o hi hj => k i o (h i o hi hj) hj
theorem Kp.of_below {w w' : World} {B : Nat} (h : Below B w w') (hB : w.heap.size ≤ B) : Kp w w' := fun i o hi _ => (h.block i (Nat.lt_of_lt_of_le (heap_lt hi) hB)).trans hi
theorem Kp.of_grown {w w' : World} {r : Nat} (h : w.grownBy w' (some r)) (hr : BoaAt w r) : Kp w w' := fun i o hi hj => by
  obtain ⟨o', ho, hjo⟩ := hr
  refine (h.block i (heap_lt hi) fun e => ?_).trans hi
  obtain rfl : i = r := Option.some.inj e
  rw [hi] at ho
  cases ho
  exact hj hjo
/-- .. and then a block that was not there is written -/
theorem Kp.trans' {w w1 w' : World} {row : Option Nat} (h : Kp w w1) (hg : w.grownBy w1 row) (k : w1.grownBy w' (some w.heap.size)) : Kp w w' := fun i o hi hj => by
  have hl := heap_lt hi
  have h1 := h i o hi hj
  exact (k.block i (heap_lt h1) fun e => by have := Option.some.inj e; omega).trans h1
theorem Bk.kp {w w' : World} {b : Nat} {t : TypeId} {cs : Array Value} (h : Bk w b t cs) (hk : Kp w w') (h1 : t ≠ 64) : Bk w' b t cs := hk _ _ h (by
  rintro (⟨es, c, e⟩ | ⟨cs', t', f, e, ht⟩)
  · cases e
  · cases e; exact h1 ht)
theorem RowS.kp {W W' : World} {a : Option Addr} {xs : List ByteArray} (h : RowS W a xs) (hk : Kp W W') : RowS W' a xs := by
  rcases h with h | ⟨g, cur, h1, h2, h3⟩
  · exact .inl h
  · exact .inr ⟨g, cur, h1, h2.kp hk (by decide), h3⟩
theorem RowP.kp {W W' : World} {a : Option Addr} {L : LA} (h : RowP W a L) (hk : Kp W W') : RowP W' a L := by
  rcases h with h | ⟨g, cur, h1, h2, h3⟩
  · exact .inl h
  · exact .inr ⟨g, cur, h1, h2.kp hk (by decide), h3⟩
def FaultBK (w : World) (B g m n : Nat) (lim hal ban : Int) (r : LA × Int) (e' : Ending) (w' : World) : Prop :=
  e' = .returned (.int .i64 r.2) ∧ Brd w' B g m (n + 1) lim hal ban r.1 ∧ Below B w w' ∧ Kp w w'
theorem fault_bk {w : World} {B g m n : Nat} {lim hal ban : Int} {L : LA} (h : Brd w B g m n lim hal ban L) (hl : 1 ≤ lim) (hlM : lim ≤ 1000000) (h1 : 1 ≤ hal) (hb1 : 1 ≤ ban) (hb2 : ban ≤ 1099511627776)
    (hT : Tab w) (hB0 : 0 < B) (nm : ByteArray) (hnm : nm.size ≤ maxLen) (hn : n < maxLen) (now e : Int) :
    Calls Tryd.prog 9 #[.pointer (some ⟨g, 0, none⟩), .string nm, .int .i64 now, .int .i64 e] w (FaultBK w B g m n lim hal ban (faultL lim hal ban L nm now e)) := by
  have hqe := ptsZ_bd e
  by_cases hz : ptsZ e = 0
  · refine (fault_zero now e _ _ g rfl nm w _ hT hz (score_brd h h1 nm hnm now)).mono fun e' w' ⟨h1, k, h2⟩ => ?_
    subst h1; subst h2
    unfold FaultBK faultL
    rw [if_pos hz]
    obtain ⟨S, hS, hh⟩ := h.drewN k
    obtain ⟨D, ho, ha⟩ := hh.map
    exact ⟨rfl, ⟨S, hS, hh.gB, hh.mB, hh.gb, ⟨D, ho.mono (Nat.le_succ _), ha⟩, hh.prs, hh.nd⟩, below_drewN (Below.refl _ _) k, fun _ _ h _ => h⟩
  · obtain ⟨S, rfl, h⟩ := h
    obtain ⟨D, ho, ha⟩ := h.map
    have hml := ho.lt
    rcases look_at h nm hnm with ⟨hb, hlook, _⟩ | ⟨b, hb, hlook, _⟩
    · refine (fault_new lim hal ban now e g m n D nm w hl hlM h1 hb1 hb2 hT (by have := h.mB; omega) (by omega) hnm hn h.gb ho hlook).mono fun e' w' ⟨w1, hs, ho1, hg1, he, hf⟩ => ?_
      subst he
      obtain ⟨hacc, hno⟩ := blk_none hb
      unfold FaultBK faultL
      rw [if_neg hz, hacc]
      have hgm : g ≠ m := by obtain ⟨es, clock, hb', _⟩ := ho; exact h.gb.ne_map hb'
      have hgl := h.gb.lt
      have hBw : B ≤ w.heap.size := by have := h.gB; omega
      refine ⟨rfl, ⟨S ++ [⟨nm, w.heap.size, faultA lim hal ban now (ptsZ e) ⟨0, clipZ now, 0⟩⟩], by simp [strip], h.gB, h.mB, ?_, ?_, ?_, ?_⟩, ?_, ?_⟩
      · exact (h.gb.grown hg1 (by simpa using hgm)).grown hf.only (by simp; omega)
      · refine ⟨_, ho1.kept hf.only (by simp; omega), fun nm' => ?_⟩
        by_cases e1 : nm = nm'
        · subst e1
          have k1 := Maps.has_put_same (ho.isMap) (keyL_is nm) (.held w.heap.size)
          have k2 := Maps.atKey_put_same (ho.isMap) (keyL_is nm) (.held w.heap.size) .nil
          rw [blk_snoc, hb]
          exact ⟨k1.trans (by simp), k2.trans (by simp)⟩
        · have hne : keyL nm' ≠ keyL nm := fun h => e1 (keyL_inj h).symm
          have k1 := Maps.has_put_other (D := D) hne (.held w.heap.size)
          have k2 := Maps.atKey_put_other (D := D) hne (.held w.heap.size) .nil
          obtain ⟨a1, a2⟩ := ha nm'
          rw [blk_snoc]
          refine ⟨k1.trans ?_, k2.trans ?_⟩
          · rw [a1]; cases blkS S nm' <;> simp [e1]
          · rw [a2]; cases blkS S nm' <;> simp [e1]
      · intro p hp
        rcases List.mem_append.1 hp with hp | hp
        · obtain ⟨p1, p2, p3⟩ := h.prs p hp
          have hpl := p2.lt
          have hpm : p.blk ≠ m := by obtain ⟨es, clock, hb', _⟩ := ho; exact p2.ne_map hb'
          exact ⟨p1, (p2.grown hg1 (by simpa using hpm)).grown hf.only (by simp; omega), p3⟩
        · obtain rfl : p = _ := by simpa using hp
          exact ⟨hBw, hf.bk, faultA_ok ⟨by simp, by simp, (clipZ_bd now).1, (clipZ_bd now).2, by simp, by simp⟩ hl hlM hb1 hb2 hqe.1, hnm⟩
      · refine List.pairwise_append.2 ⟨h.nd, by simp, fun p hp q hq => ?_⟩
        obtain rfl : q = _ := by simpa using hq
        obtain ⟨_, p2, _⟩ := h.prs p hp
        have := p2.lt
        exact ⟨hno p hp, by simp; omega⟩
      · exact ((Below.refl B w).grown hg1 hBw (by intro k hk; cases hk; exact h.mB)).grown hf.only (by omega) (by intro k hk; cases hk; omega)
      · obtain ⟨es, clock, hmb, _⟩ := ho
        exact (Kp.of_grown hg1 ⟨_, hmb, .inl ⟨_, _, rfl⟩⟩).trans' hg1 hf.only
    · obtain ⟨p, hp, rfl, rfl, hacc⟩ := blk_some hb
      obtain ⟨hpB, hB, hok, hpn⟩ := h.prs p hp
      refine (fault_old lim hal ban now e p.acc.pts p.acc.at_ p.acc.til g p.blk m p.nm w hl hlM h1 hb1 hb2 hok hT (by omega) h.gb hB hlook).mono fun e' w' ⟨he, hbk, hg⟩ => ?_
      subst he
      unfold FaultBK faultL
      rw [if_neg hz, hacc]
      have hpm : p.blk ≠ m := by obtain ⟨es, clock, hb', _⟩ := ho; exact hB.ne_map hb'
      have hgp : g ≠ p.blk := h.gb.ne hB (by decide)
      refine ⟨rfl, ⟨updS S p.nm (faultA lim hal ban now (ptsZ e) p.acc), strip_upd _ _ _, h.gB, h.mB, h.gb.grown hg (by simpa using hgp), ⟨D, (ho.kept hg (by simpa using hpm.symm)).mono (Nat.le_succ _), fun nm' => by rw [blk_upd]; exact ha nm'⟩, ?_, ?_⟩, ?_, Kp.of_grown hg ⟨_, hB, .inr ⟨_, _, _, rfl, rfl⟩⟩⟩
      · intro q hq
        obtain ⟨r, hr, rfl⟩ := List.mem_map.1 hq
        obtain ⟨r1, r2, r3, r4⟩ := h.prs r hr
        have hrp := pw_eq (fun a b hab => ⟨hab.1.symm, hab.2.symm⟩) h.nd hr hp
        by_cases e1 : r.nm = p.nm
        · rw [if_pos e1]
          have : r = p := hrp.resolve_right fun hh => hh.1 e1
          subst this
          exact ⟨r1, hbk, faultA_ok hok hl hlM hb1 hb2 hqe.1, r4⟩
        · rw [if_neg e1]
          refine ⟨r1, r2.grown hg ?_, r3, r4⟩
          rcases hrp with rfl | hrp
          · exact absurd rfl e1
          · simpa using hrp.2
      · refine List.pairwise_map.2 (h.nd.imp fun {a b} hab => ?_)
        rw [upd_nm S, upd_nm S, upd_blk S, upd_blk S]
        exact hab
      · exact (Below.refl B w).grown hg (by have := h.gB; have := h.gb.lt; omega) (by intro k hk; cases hk; exact hpB)

/-! ### its peers' names -/
theorem Brd.nmNd {w : World} {B g m n : Nat} {lim hal ban : Int} {L : LA} (h : Brd w B g m n lim hal ban L) : NmNd L := by
  obtain ⟨S, rfl, h⟩ := h
  exact List.pairwise_map.2 (h.nd.imp fun hab => hab.1)
theorem Brd.oks {w : World} {B g m n : Nat} {lim hal ban : Int} {L : LA} (h : Brd w B g m n lim hal ban L) : ∀ p ∈ L, p.2.ok := by
  obtain ⟨S, rfl, h⟩ := h
  intro p hp
  obtain ⟨q, hq, rfl⟩ := List.mem_map.1 hp
  exact (h.prs q hq).2.2.1
theorem Brd.szs {w : World} {B g m n : Nat} {lim hal ban : Int} {L : LA} (h : Brd w B g m n lim hal ban L) : ∀ p ∈ L, p.1.size ≤ maxLen := by
  obtain ⟨S, rfl, h⟩ := h
  intro p hp
  obtain ⟨q, hq, rfl⟩ := List.mem_map.1 hp
  exact (h.prs q hq).2.2.2
theorem names_perm {w : World} {B g m n : Nat} {lim hal ban : Int} {S : List Pr} (h : BrdS w B g m n lim hal ban S) {D : DataW Nat} (ho : w.ownsMap Tryd.prog 9 ptrElem m n D) (ha : Agr D S) : (S.map fun p => p.nm.data.toList).Perm (strKeys D) := by
  refine Collected.perm (D0 := D) (left := fun _ => false) ⟨?_, fun x => ?_⟩ ho (Maps.string_keyed Tryd.underlying9) Tryd.underlying9 (fun _ => rfl)
  · exact List.pairwise_map.2 (h.nd.imp fun hab e => hab.1 (ba_inj e))
  · have hx := (ha ⟨x.toArray⟩).1
    rw [show keyL ⟨x.toArray⟩ = .string x by unfold keyL; simp] at hx
    rw [hx]
    constructor
    · intro hm
      obtain ⟨p, hp, rfl⟩ := List.mem_map.1 hm
      refine ⟨?_, rfl⟩
      cases hf : blkS S ⟨p.nm.data.toList.toArray⟩ with
      | none => exact absurd (show p.nm = ⟨p.nm.data.toList.toArray⟩ by cases p.nm; simp) ((blk_none hf).2 p hp)
      | some c => rfl
    · rintro ⟨hs, _⟩
      obtain ⟨b, hb⟩ := Option.isSome_iff_exists.1 hs
      obtain ⟨p, h1, h2, _⟩ := blk_some hb
      exact List.mem_map.2 ⟨p, h1, by rw [h2]⟩
theorem size_keys {H : Type} (D : DataW H) (h : Maps.IsMap D) : (strKeys D).length = Maps.size D := by
  obtain ⟨es, rfl⟩ := h
  simp [strKeys, Maps.size]
def PeersPost (w : World) (L : LA) (e : Ending) (w' : World) : Prop := ∃ a cp, e = .returned (.slice a L.length cp) ∧ RowS w' a (namesL L) ∧ Below w.heap.size w w'
set_option maxHeartbeats 1000000 in
theorem peers_brd {w : World} {B g m n : Nat} {lim hal ban : Int} {L : LA} (h : Brd w B g m n lim hal ban L) (hA : L.length ≤ 1000) :
    Calls Tryd.prog 15 #[.pointer (some ⟨g, 0, none⟩)] w (PeersPost w L) := by
  obtain ⟨S, rfl, h⟩ := h
  obtain ⟨D0, hown, ha⟩ := h.map
  rw [List.length_map] at hA
  have hperm := names_perm h hown ha
  have hsz : Maps.size D0 = S.length := by rw [← size_keys D0 hown.isMap, ← hperm.length_eq, List.length_map]
  refine (callsIn_wide (n := 6)).1 ?_
  have hbl := hown.lt
  have c3 : w.cell? ⟨g, 3, none⟩ = some (.map (some m)) := h.gb.cell 3
  have cS := Tryd.slices_Sorted_keys_26_27 m n D0 ptrElem w hown (by rw [hsz]; unfold maxLen; omega) (by rw [hsz]; omega)
  have cK := Tryd.maps_Keys_27
  have hfK : Fence.wide.fn 27 := trivial
  have hfS : Fence.wide.fn 26 := trivial
  have HI := sh (And.intro hperm hsz)
  clear hown ha hsz h hperm
  refine callsIn_of_wp Tryd.func15 rfl trivial ?_ rfl
  simp only [Tryd.ntmps15, List.size_toArray, List.length_cons, List.length_nil, Nat.reduceAdd, Nat.reduceSub, Array.replicate_succ, Array.replicate_zero, List.push_toArray, List.append_toArray, List.nil_append, List.cons_append]
  gi_wp2_with (first
    | (gi_at_call 27; refine (cK _ _).mono ?_; rintro e w' ⟨rfl, rfl⟩)
    | (gi_at_call 26; refine cS.mono ?_; rintro e w' ⟨v, ss, rfl, hS, hrow, hnil, hb⟩))
  go_ret
  have hl : ss.length = S.length := by rw [hS.length_eq, ← HI.out.1.length_eq, List.length_map]
  have he : (ss.mergeSort (fun x y => decide (x ≤ y))).map encStr = (namesL (S.map strip)).map Value.string := by
    have h1 : ss.mergeSort (fun x y => decide (x ≤ y)) = ((S.map strip).map fun p => p.1.data.toList).mergeSort leB := by
      rw [List.map_map]
      exact mergeSort_of_perm (hS.trans HI.out.1.symm)
    rw [h1]
    unfold namesL sortN
    rw [List.map_map (f := fun x : List UInt8 => (⟨x.toArray⟩ : ByteArray))]
    rfl
  rw [he, hl] at hrow
  have hrow2 : w'.ownsRow (w.alloc (.cells #[.map (some m)] 57)).heap.size 9 1 v (namesL (S.map strip)).length ((namesL (S.map strip)).map Value.string) := by
    rw [namesL_len, List.length_map]; exact hrow
  obtain ⟨a, c, rfl, hr, _⟩ := rowS_of hrow2
  exact ⟨a, c, by rw [namesL_len]; rfl, hr, ((RowKit.Below.refl _ w).alloc (Nat.le_refl _) _).trans (hb.mono (by simp))⟩
set_option maxHeartbeats 1000000 in
theorem peers_nil (w : World) : Calls Tryd.prog 15 #[.pointer none] w fun e w' => e = .returned (.slice none 0 0) ∧ w = w' := by
  go_enter Tryd.func15, Tryd.ntmps15
  go_wp2
  go_ret
  exact ⟨rfl, rfl⟩
theorem score_nil (nm : ByteArray) (now : Int) (w : World) : Calls Tryd.prog 10 #[.pointer none, .string nm, .int .i64 now] w fun e w' => e = .returned (.int .i64 0) ∧ w = w' := by
  go_enter Tryd.func10, Tryd.ntmps10
  go_wp2
  go_ret
  exact ⟨rfl, rfl⟩
theorem until_nil (nm : ByteArray) (w : World) : Calls Tryd.prog 13 #[.pointer none, .string nm] w fun e w' => e = .returned (.int .i64 0) ∧ w = w' := by
  go_enter Tryd.func13, Tryd.ntmps13
  go_wp2
  go_ret
  exact ⟨rfl, rfl⟩
theorem banned_nil (nm : ByteArray) (now : Int) (w : World) : Calls Tryd.prog 12 #[.pointer none, .string nm, .int .i64 now] w fun e w' => e = .returned (.bool false) ∧ w = w' := by
  have h := banned_of now 0 (.pointer none) nm w (until_nil nm w)
  have e : decide (clipZ now < 0) = false := by have := clipZ_bd now; exact decide_eq_false (by omega)
  rw [e] at h
  exact h
set_option maxHeartbeats 1000000 in
theorem fault_nil (nm : ByteArray) (now e : Int) (w : World) (hT : Tab w) : Calls Tryd.prog 9 #[.pointer none, .string nm, .int .i64 now, .int .i64 e] w fun e' w' => e' = .returned (.int .i64 0) ∧ w = w' := by
  have HS := sh (score_nil nm now)
  have HP := sh (fun W (h : Tab W) => points_any e W h)
  go_enter Tryd.func9, Tryd.ntmps9
  go_wp2_with (first | (go_at_call 21; refine (HP.out _ hT).mono ?_; rintro e' w' ⟨rfl, rfl⟩) | (go_at_call 10; refine (HS.out _).mono ?_; rintro e' w' ⟨rfl, rfl⟩))
  go_ret
  exact ⟨rfl, rfl⟩
set_option maxHeartbeats 1000000 in
theorem sweep_nil (now : Int) (w : World) : Calls Tryd.prog 14 #[.pointer none, .int .i64 now] w fun e w' => e = .returned (.int .i64 0) ∧ w = w' := by
  have HS := sh peers_nil
  go_enter Tryd.func14, Tryd.ntmps14
  go_wp2_with (go_at_call 15; refine (HS.out _).mono ?_; rintro e' w' ⟨rfl, rfl⟩)
  go_loop [5, 11] (fun v5 v11 => v5 = .int .i64 0 ∧ v11 = .int .i64 0) (fun _ _ => 0)
  case atStart => exact ⟨rfl, rfl⟩
  case round =>
    obtain ⟨rfl, rfl⟩ := hrel
    go_wp2_with fail
    go_ret
    exact ⟨rfl, rfl⟩
end Go.Proofs.YtckdahojhdbpjaaDoor
