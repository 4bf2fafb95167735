/- The board: Sweep. -/
import Derived.Test.YtckdahojhdbpjaaDoorB2
namespace Go.Proofs.YtckdahojhdbpjaaDoor
set_option linter.unusedVariables false
set_option linter.unusedSimpArgs false
open Go.RowKit Go.Sort Go.Maps

def inD (done : List ByteArray) (x : ByteArray) : Bool := done.any fun y => decide (y = x)
theorem inD_iff {done : List ByteArray} {x : ByteArray} : inD done x = true ↔ x ∈ done := by
  unfold inD
  rw [List.any_eq_true]
  exact ⟨fun ⟨y, hy, e⟩ => by rw [← of_decide_eq_true e]; exact hy, fun h => ⟨x, h, by simp⟩⟩
theorem inD_false {done : List ByteArray} {x : ByteArray} (h : x ∉ done) : inD done x = false := by
  cases hb : inD done x
  · rfl
  · exact absurd (inD_iff.1 hb) h
theorem inD_snoc {done : List ByteArray} {x y : ByteArray} : inD (done ++ [y]) x = (inD done x || decide (y = x)) := by simp [inD]
/-- what is left when some names have been looked at -/
def swp (hal now : Int) (L0 : LA) (done : List ByteArray) : LA := L0.filter fun p => stays hal now p || !inD done p.1
theorem swp_nil (hal now : Int) (L0 : LA) : swp hal now L0 [] = L0 := by
  unfold swp
  exact List.filter_eq_self.2 fun p _ => by simp [inD]
theorem swp_all {hal now : Int} {L0 : LA} {done : List ByteArray} (h : ∀ p ∈ L0, p.1 ∈ done) : swp hal now L0 done = sweepL hal L0 now := by
  unfold swp sweepL
  exact List.filter_congr fun p hp => by simp [inD_iff.2 (h p hp)]
theorem nd_uniq : ∀ {L : LA}, NmNd L → ∀ {p q : PQ}, p ∈ L → q ∈ L → p.1 = q.1 → p = q
  | x :: L, hd, p, q, hp, hq, e => by
    have h1 := fun y (hy : y ∈ L) => List.rel_of_pairwise_cons hd hy
    rcases List.mem_cons.1 hp with rfl | hp' <;> rcases List.mem_cons.1 hq with rfl | hq'
    · rfl
    · exact absurd e (h1 q hq')
    · exact absurd e.symm (h1 p hp')
    · exact nd_uniq (List.Pairwise.of_cons hd) hp' hq' e
theorem swp_stay {hal now : Int} {L0 : LA} {done : List ByteArray} (nd : NmNd L0) {p : PQ} (hp : p ∈ L0) (hs : stays hal now p = true) : swp hal now L0 (done ++ [p.1]) = swp hal now L0 done := by
  unfold swp
  refine List.filter_congr fun q hq => ?_
  by_cases e : q.1 = p.1
  · have : q = p := nd_uniq nd hq hp e
    subst this
    simp [hs]
  · have : inD (done ++ [p.1]) q.1 = inD done q.1 := by rw [inD_snoc]; simp [Ne.symm e]
    rw [this]
theorem swp_del {hal now : Int} {L0 : LA} {done : List ByteArray} {p : PQ} (nd : NmNd L0) (hp : p ∈ L0) (hs : ¬ stays hal now p = true) : swp hal now L0 (done ++ [p.1]) = (swp hal now L0 done).filter fun q => !decide (q.1 = p.1) := by
  unfold swp
  rw [List.filter_filter]
  refine List.filter_congr fun q hq => ?_
  by_cases e : q.1 = p.1
  · have : q = p := nd_uniq nd hq hp e
    subst this
    simp [hs, inD_snoc]
  · have : inD (done ++ [p.1]) q.1 = inD done q.1 := by rw [inD_snoc]; simp [Ne.symm e]
    rw [this]
    simp [e]
theorem acc_mem : ∀ {L : LA}, NmNd L → ∀ {p : PQ}, p ∈ L → accL L p.1 = some p.2
  | x :: L, hd, p, hp => by
    simp only [accL]
    by_cases e : x.1 = p.1
    · have : x = p := nd_uniq hd (by simp) hp e
      subst this
      simp
    · rw [if_neg e]
      rcases List.mem_cons.1 hp with rfl | hp'
      · exact absurd rfl e
      · exact acc_mem (List.Pairwise.of_cons hd) hp'
theorem swp_mem {hal now : Int} {L0 : LA} {done : List ByteArray} {p : PQ} (hp : p ∈ L0) (hx : p.1 ∉ done) : p ∈ swp hal now L0 done := List.mem_filter.2 ⟨hp, by simp [inD_false hx]⟩
theorem swp_nd {hal now : Int} {L0 : LA} {done : List ByteArray} (nd : NmNd L0) : NmNd (swp hal now L0 done) := List.Pairwise.filter _ nd
theorem del_len : ∀ {L : LA}, NmNd L → ∀ {p : PQ}, p ∈ L → (L.filter fun q => !decide (q.1 = p.1)).length + 1 = L.length
  | x :: L, hd, p, hp => by
    by_cases e : x.1 = p.1
    · have hx : x = p := nd_uniq hd (by simp) hp e
      subst hx
      rw [List.filter_cons_of_neg (by simp)]
      have : L.filter (fun q => !decide (q.1 = x.1)) = L := List.filter_eq_self.2 fun q hq => by
        have := List.rel_of_pairwise_cons hd hq
        simp [Ne.symm this]
      rw [this]
      rfl
    · rw [List.filter_cons_of_pos (by simp [e])]
      rcases List.mem_cons.1 hp with rfl | hp'
      · exact absurd rfl e
      · have := del_len (List.Pairwise.of_cons hd) hp'
        simp only [List.length_cons]
        omega
theorem swp_len (hal now : Int) (L0 : LA) (done : List ByteArray) : (swp hal now L0 done).length ≤ L0.length := List.length_filter_le _ _
theorem namesL_perm (L : LA) : (namesL L).Perm (nmsL L) := by
  unfold namesL sortN nmsL
  refine ((List.mergeSort_perm _ leB).map _).trans ?_
  rw [List.map_map]
  have : (L.map ((fun x : List UInt8 => (⟨x.toArray⟩ : ByteArray)) ∘ fun p => p.1.data.toList)) = L.map Prod.fst := List.map_congr_left fun p _ => by simp
  rw [this]
theorem namesL_mem {L : LA} {x : ByteArray} (h : x ∈ namesL L) : ∃ p ∈ L, p.1 = x := List.mem_map.1 ((namesL_perm L).mem_iff.1 h)
theorem mem_namesL {L : LA} {p : PQ} (h : p ∈ L) : p.1 ∈ namesL L := (namesL_perm L).mem_iff.2 (List.mem_map.2 ⟨p, h, rfl⟩)
theorem namesL_nd {L : LA} (h : NmNd L) : (namesL L).Nodup := (namesL_perm L).nodup_iff.2 (List.pairwise_map.2 h)
theorem nd_take {α : Type} {l : List α} (h : l.Nodup) {j : Nat} {x : α} (hx : l[j]? = some x) : x ∉ l.take j := by
  obtain ⟨hj, rfl⟩ := List.getElem?_eq_some_iff.1 hx
  intro hm
  obtain ⟨i, hi, e⟩ := List.getElem_of_mem hm
  rw [List.length_take] at hi
  rw [List.getElem_take] at e
  have := (List.getElem_inj h).1 e
  omega
def delS (S : List Pr) (nm : ByteArray) : List Pr := S.filter fun p => !decide (p.nm = nm)
theorem blk_del (nm nm' : ByteArray) : ∀ S : List Pr, blkS (delS S nm) nm' = if nm' = nm then none else blkS S nm'
  | [] => by simp [delS, blkS]
  | p :: S => by
    have ih := blk_del nm nm' S
    unfold delS at ih ⊢
    by_cases e : p.nm = nm
    · rw [List.filter_cons_of_neg (by simp [e]), ih]
      by_cases e2 : nm' = nm
      · rw [if_pos e2, if_pos e2]
      · rw [if_neg e2, if_neg e2]
        have : ¬ p.nm = nm' := fun h => e2 (h.symm.trans e)
        simp only [blkS, this, if_false]
    · rw [List.filter_cons_of_pos (by simp [e])]
      simp only [blkS, ih]
      by_cases e2 : nm' = nm
      · have : ¬ p.nm = nm' := fun h => e (h.trans e2)
        simp [e2, e]
      · simp [e2]
theorem brd_del {w w0 w1 : World} {B g m n : Nat} {lim hal ban : Int} {S : List Pr} {D : DataW Nat} {nm : ByteArray} (h : BrdS w B g m n lim hal ban S) (hown : w.ownsMap Tryd.prog 9 ptrElem m n D) (ha : Agr D S)
    (ho : w1.ownsMap Tryd.prog 9 ptrElem m n (D.del (keyL nm))) (ht : w0.mapTurned w1 m) {q : Nat} (h0 : w0 = w.drewN q) : BrdS w1 B g m n lim hal ban (delS S nm) := by
  subst h0
  have hg : w.grownBy w1 (some m) := (only_drewN w q _).trans ht.grown
  obtain ⟨es, clock, hmb, _⟩ := hown
  refine ⟨h.gB, h.mB, h.gb.grown hg (by have := h.gb.ne_map hmb; simpa using this), ⟨_, ho, fun nm' => ?_⟩, fun p hp => ?_, h.nd.filter _⟩
  · rw [blk_del]
    by_cases e : nm' = nm
    · subst e
      rw [if_pos rfl]
      exact ⟨Maps.has_del_same, Maps.atKey_del_same _⟩
    · rw [if_neg e]
      have hne : keyL nm' ≠ keyL nm := fun hk => e (keyL_inj hk)
      obtain ⟨a1, a2⟩ := ha nm'
      exact ⟨(Maps.has_del_other hne).trans a1, (Maps.atKey_del_other hne _).trans a2⟩
  · obtain ⟨h1, h2, h3⟩ := h.prs p (List.mem_filter.1 hp).1
    exact ⟨h1, h2.grown hg (by have := h2.ne_map hmb; simpa using this), h3⟩
theorem strip_del (S : List Pr) (nm : ByteArray) : (delS S nm).map strip = (S.map strip).filter fun q => !decide (q.1 = nm) := by
  unfold delS
  rw [List.filter_map]
  rfl
def SweepBK (w : World) (B g m n : Nat) (lim hal ban : Int) (L' : LA) (x : Int) (e' : Ending) (w' : World) : Prop :=
  e' = .returned (.int .i64 x) ∧ Brd w' B g m n lim hal ban L' ∧ Below B w w' ∧ Kp w w'
set_option maxRecDepth 100000 in
set_option maxHeartbeats 4000000 in
theorem sweep_brd {w : World} {B g m n : Nat} {lim hal ban : Int} {L0 : LA} (h : Brd w B g m n lim hal ban L0) (h1 : 1 ≤ hal) (hA : L0.length ≤ 1000) (now : Int) :
    Calls Tryd.prog 14 #[.pointer (some ⟨g, 0, none⟩), .int .i64 now] w (SweepBK w B g m n lim hal ban (sweepL hal L0 now) ((L0.length : Int) - ((sweepL hal L0 now).length : Int))) := by
  have nd := h.nmNd
  have hsz := h.szs
  have hgB : B ≤ w.heap.size := by obtain ⟨S, _, hh⟩ := h; have := hh.gB; have := hh.gb.lt; omega
  have HP := sh (peers_brd h hA)
  have HB := sh h
  have ND := sh nd
  have SZ := sh hsz
  unfold PeersPost at HP
  clear h nd hsz
  go_enter Tryd.func14, Tryd.ntmps14
  go_wp2_with (go_at_call 15; refine HP.out.mono ?_; rintro e' w1 ⟨a, cp, rfl, hrow, hb⟩)
  have SB := sh (HB.out.below hb)
  have SR := sh hrow
  have hbB := hb.mono hgB
  have hkk := Kp.of_below hb (Nat.le_refl _)
  clear HP HB hb hrow
  go_loopw [5, 11] (fun v5 v11 wr => ∃ k : Nat, k ≤ L0.length ∧ v11 = .int .i64 (k : Int) ∧ v5 = .int .i64 ((L0.length : Int) - ((swp hal now L0 ((namesL L0).take k)).length : Int)) ∧ Sh (Brd wr B g m n lim hal ban (swp hal now L0 ((namesL L0).take k))) ∧ Sh (RowS wr a (namesL L0)) ∧ Sh (Below B w wr ∧ Kp w wr)) (fun _ v11 _ => L0.length - (RowKit.intOf v11).toNat)
  case atStart => exact ⟨0, by omega, rfl, by rw [List.take_zero, swp_nil]; simp, by rw [List.take_zero, swp_nil]; exact SB, SR, ⟨hbB, hkk⟩⟩
  case round =>
    clear SB SR hbB hkk
    obtain ⟨k, hk, rfl, rfl, HB, HR, HK⟩ := hrel
    have hsl := swp_len hal now L0 ((namesL L0).take k)
    by_cases hlt : k < L0.length
    · obtain ⟨x, hx⟩ : ∃ x, (namesL L0)[k]? = some x := ⟨_, List.getElem?_eq_getElem (by rw [namesL_len]; exact hlt)⟩
      obtain ⟨p, hp, rfl⟩ := namesL_mem (List.mem_of_getElem? hx)
      have hno := nd_take (namesL_nd ND.out) hx
      obtain ⟨ga, rfl, a0⟩ := HR.out.at_ hx
      have htk : (namesL L0).take (k + 1) = (namesL L0).take k ++ [p.1] := by
        obtain ⟨hj, e⟩ := List.getElem?_eq_some_iff.1 hx
        rw [← e]; exact (List.take_append_getElem hj).symm
      have hacc := acc_mem (swp_nd (hal := hal) (now := now) (done := (namesL L0).take k) ND.out) (swp_mem (hal := hal) (now := now) hp hno)
      have hps := SZ.out p hp
      have hzz := atZ_bd hal p.2.pts p.2.at_ now (HB.out.oks p (swp_mem hp hno)).1
      have HS : Sh (Calls Tryd.prog 10 #[.pointer (some ⟨g, 0, none⟩), .string p.1, .int .i64 now] wr fun e' w' => e' = .returned (.int .i64 (atZ hal p.2.pts p.2.at_ now)) ∧ ∃ k, w' = wr.drewN k) := ⟨by
        have := score_brd HB.out h1 p.1 hps now
        unfold scoreL at this
        rw [hacc] at this
        exact this⟩
      have HN : Sh (∀ q, Calls Tryd.prog 12 #[.pointer (some ⟨g, 0, none⟩), .string p.1, .int .i64 now] (wr.drewN q) fun e' w' => e' = .returned (.bool (decide (clipZ now < p.2.til))) ∧ wr.drewN q = w') := ⟨fun q => by
        have := banned_brd (HB.out.drewN q) p.1 hps now
        unfold untilL at this
        rw [hacc] at this
        exact this⟩
      by_cases e1 : 0 < atZ hal p.2.pts p.2.at_ now
      · have hst : stays hal now p = true := by unfold stays; simp [e1]
        have HE := sh (swp_stay (done := (namesL L0).take k) ND.out hp hst)
        rw [← htk] at HE
        have t1 : (atZ hal p.2.pts p.2.at_ now == 0) = false := by rw [beq_eq_false_iff_ne]; omega
        clear hx hp hno htk hacc hst HN
        go_wp2_with (go_at_call 10; refine HS.out.mono ?_; rintro e' w2 ⟨rfl, q, rfl⟩)
        go_roundw
        case rel => exact ⟨k + 1, by omega, by go_num, by rw [HE.out], by rw [HE.out]; exact ⟨HB.out.drewN q⟩, ⟨HR.out.below (below_drewN (Below.refl _ _) q)⟩, ⟨below_drewN HK.out.1 q, HK.out.2⟩⟩
        case measure => simp [RowKit.intOf]; omega
      · have t1 : (atZ hal p.2.pts p.2.at_ now == 0) = true := by rw [beq_iff_eq]; omega
        by_cases e2 : clipZ now < p.2.til
        · have hst : stays hal now p = true := by unfold stays; simp [e2]
          have HE := sh (swp_stay (done := (namesL L0).take k) ND.out hp hst)
          rw [← htk] at HE
          have t2 := decide_eq_true e2
          rw [t2] at HN
          clear hx hp hno htk hacc hst
          go_wp2_with (first
            | (go_at_call 10; refine HS.out.mono ?_; rintro e' w2 ⟨rfl, q, rfl⟩)
            | (go_at_call 12; refine (HN.out _).mono ?_; rintro e' w3 ⟨rfl, rfl⟩))
          go_roundw
          case rel => exact ⟨k + 1, by omega, by go_num, by rw [HE.out], by rw [HE.out]; exact ⟨HB.out.drewN q⟩, ⟨HR.out.below (below_drewN (Below.refl _ _) q)⟩, ⟨below_drewN HK.out.1 q, HK.out.2⟩⟩
          case measure => simp [RowKit.intOf]; omega
        · have hst : ¬ stays hal now p = true := by unfold stays; simp [e1, e2]
          have HE := sh (swp_del (done := (namesL L0).take k) ND.out hp hst)
          rw [← htk] at HE
          have hdl := del_len (swp_nd (hal := hal) (now := now) (done := (namesL L0).take k) ND.out) (swp_mem (hal := hal) (now := now) hp hno)
          rw [← HE.out] at hdl
          have HL := sh hdl
          have t2 := decide_eq_false e2
          rw [t2] at HN
          obtain ⟨S, hS, hBS⟩ := HB.out
          obtain ⟨D, hown, ha⟩ := hBS.map
          have c3 : wr.cell? ⟨g, 3, none⟩ = some (.map (some m)) := hBS.gb.cell 3
          have hkey : keyOf Tryd.prog 9 (.string p.1) = some (keyL p.1) := WideMaps.keyOf_string_mk Tryd.underlying9 hps
          have HAll := sh (And.intro hS (And.intro hBS (And.intro hown ha)))
          have hbdel : Sh (S.map strip = swp hal now L0 ((namesL L0).take k) ∧ BrdS wr B g m n lim hal ban S ∧ wr.ownsMap Tryd.prog 9 ptrElem m n D ∧ Agr D S) → ∀ (q : Nat) {w4 : World}, w4.ownsMap Tryd.prog 9 ptrElem m n (D.del (keyL p.1)) → (wr.drewN q).mapTurned w4 m →
              Sh (Brd w4 B g m n lim hal ban ((swp hal now L0 ((namesL L0).take k)).filter fun q => !decide (q.1 = p.1))) ∧ Below B wr w4 ∧ Kp wr w4 := fun hA q w4 ho4 ht4 => by
            obtain ⟨e, hb, ho, hg⟩ := hA.out
            have hbd := brd_del hb ho hg ho4 ht4 rfl
            have hgr := ht4.grown
            obtain ⟨es, clock, hmb, _⟩ := ho
            refine ⟨⟨_, by rw [strip_del, e], hbd⟩, (below_drewN (Below.refl B wr) q).grown hgr (by have := hb.gB; have := hb.gb.lt; show B ≤ wr.heap.size; omega) (by intro j hj; cases hj; exact hb.mB), fun i o hi hj => (Kp.of_grown hgr ⟨_, hmb, .inl ⟨_, _, rfl⟩⟩) i o hi hj⟩
          clear hx hp hno htk hacc hst hdl hS hBS hown ha
          go_wp2_with (first
            | (go_at_call 10; refine HS.out.mono ?_; rintro e' w2 ⟨rfl, q, rfl⟩)
            | (go_at_call 12; refine (HN.out _).mono ?_; rintro e' w3 ⟨rfl, rfl⟩)
            | (at_delete; refine wpList_delete_own _ rfl _ _ 57 9 rfl 60 (Maps.string_keyed Tryd.underlying9) Tryd.underlying57 ptrElem m n D rfl (HAll.out.2.2.1.kept (row := none) (only_drewN _ q none) (by simp)) _ _ rfl hkey ?_; intro w4 ho4 ht4; have HQ := sh (hbdel HAll q ho4 ht4); clear ho4 ht4))
          go_roundw
          case rel => exact ⟨k + 1, by omega, by go_num, by have := HL.out; simp only [Value.int.injEq, true_and]; omega, by rw [HE.out]; exact HQ.out.1, ⟨HR.out.kp HQ.out.2.2⟩, ⟨HK.out.1.trans HQ.out.2.1, HK.out.2.trans HQ.out.2.2⟩⟩
          case measure => simp [RowKit.intOf]; omega
    · have HE := sh (show swp hal now L0 ((namesL L0).take k) = sweepL hal L0 now from swp_all fun p hp => by rw [List.take_of_length_le (by rw [namesL_len]; omega)]; exact mem_namesL hp)
      go_wp2_with fail
      go_ret
      exact ⟨ret_int (by rw [HE.out]), by rw [← HE.out]; exact HB.out, HK.out.1, HK.out.2⟩
end Go.Proofs.YtckdahojhdbpjaaDoor
