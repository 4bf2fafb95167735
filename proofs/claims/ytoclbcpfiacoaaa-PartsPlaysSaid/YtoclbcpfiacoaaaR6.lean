/- What parts' joiner holds against what the reference's holds (layer 30). No program in sight. -/
import Derived.Test.YtoclbcpfiacoaaaR5
namespace Go.Proofs.Ytoclbcpfiacoaaa
set_option linter.unusedVariables false
set_option linter.unusedSimpArgs false
open Go.RowKit Go.Maps Go.Sort Go.Shelf

structure Rel (A : List AB) (L : List PT) : Prop where
  row : ∀ b ∈ A, psL L b.1 = b.2.2 ∧ ∀ p ∈ L, p.1 = b.1 → p.2.2.1 = b.2.1
  cov : ∀ p ∈ L, ∃ b ∈ A, b.1 = p.1
  use : usedA A = sizes L
theorem rel_nil : Rel [] [] := ⟨by simp, by simp, rfl⟩
theorem psL_in {L : List PT} {p : PT} (hp : p ∈ L) : (p.2.1, p.2.2.2) ∈ psL L p.1 := List.mem_map.2 ⟨p, List.mem_filter.2 ⟨hp, by simp⟩, rfl⟩
theorem psL_out {L : List PT} {id : Int} {q : Int × ByteArray} (h : q ∈ psL L id) : ∃ p ∈ L, p.1 = id ∧ p.2.1 = q.1 ∧ p.2.2.2 = q.2 := by
  obtain ⟨p, hp, rfl⟩ := List.mem_map.1 h
  obtain ⟨h1, h2⟩ := List.mem_filter.1 hp
  exact ⟨p, h1, by simpa using h2, rfl, rfl⟩
theorem psL_nil {L : List PT} {id : Int} (h : ∀ p ∈ L, p.1 ≠ id) : psL L id = [] := by
  unfold psL
  rw [List.filter_eq_nil_iff.2 (fun p hp => by simpa using h p hp), List.map_nil]
theorem dropL_self {L : List PT} {id : Int} (h : ∀ p ∈ L, p.1 ≠ id) : dropL L id = L := List.filter_eq_self.2 fun p hp => by simpa using h p hp
theorem psL_drop {L : List PT} {id id' : Int} (h : id' ≠ id) : psL (dropL L id) id' = psL L id' := by
  unfold psL dropL
  rw [List.filter_filter]
  congr 1
  refine List.filter_congr fun p _ => ?_
  by_cases e : p.1 = id'
  · have : ¬ p.1 = id := fun e' => h (e.symm.trans e')
    simp [e, this, h]
  · simp [e]
theorem mem_drop {L : List PT} {id : Int} {p : PT} : p ∈ dropL L id ↔ p ∈ L ∧ p.1 ≠ id := by unfold dropL; simp
theorem sizes_drop (id : Int) : ∀ L : List PT, sizes (dropL L id) + usedP (psL L id) = sizes L
  | [] => rfl
  | p :: L => by
    have ih := sizes_drop id L
    by_cases h : p.1 = id
    · have e1 : dropL (p :: L) id = dropL L id := by unfold dropL; rw [List.filter_cons_of_neg (by simp [h])]
      have e2 : psL (p :: L) id = (p.2.1, p.2.2.2) :: psL L id := by unfold psL; rw [List.filter_cons_of_pos (by simp [h]), List.map_cons]
      rw [e1, e2]
      simp only [usedP, sizes, List.map_cons, List.sum_cons] at ih ⊢
      omega
    · have e1 : dropL (p :: L) id = p :: dropL L id := by unfold dropL; rw [List.filter_cons_of_pos (by simp [h])]
      have e2 : psL (p :: L) id = psL L id := by unfold psL; rw [List.filter_cons_of_neg (by simp [h])]
      rw [e1, e2]
      simp only [usedP, sizes, List.map_cons, List.sum_cons] at ih ⊢
      omega
section
variable {most opn : Int} {A : List AB} {L : List PT}
theorem Rel.none (h : Rel A L) {id : Int} (hf : findA A id = none) : ∀ p ∈ L, p.1 ≠ id := fun p hp e => by
  obtain ⟨b, hb, e2⟩ := h.cov p hp
  exact findA_none hf b hb (e2.trans e)
theorem Rel.erase (h : Rel A L) (ok : AOk most opn A) (id : Int) : Rel (eraseA A id) (dropL L id) := by
  refine ⟨fun b hb => ?_, fun p hp => ?_, ?_⟩
  · obtain ⟨h1, h2⟩ := List.mem_filter.1 hb
    have hne : b.1 ≠ id := by simpa using h2
    rw [psL_drop hne]
    exact ⟨(h.row b h1).1, fun p hp => (h.row b h1).2 p (mem_drop.1 hp).1⟩
  · obtain ⟨h1, h2⟩ := mem_drop.1 hp
    obtain ⟨b, hb, e⟩ := h.cov p h1
    exact ⟨b, List.mem_filter.2 ⟨hb, by simp [e, h2]⟩, e⟩
  · have hs := sizes_drop id L
    cases hf : findA A id with
    | none =>
      have := psL_nil (h.none hf)
      rw [this] at hs
      have he : eraseA A id = A := List.filter_eq_self.2 fun b hb => by simpa using findA_none hf b hb
      rw [he, h.use]
      simp [usedP] at hs
      omega
    | some x =>
      obtain ⟨o, ps⟩ := x
      have h1 := usedA_erase ok.nd hf
      have h2 : psL L id = ps := (h.row _ (findA_some hf)).1
      rw [h2] at hs
      have := h.use
      omega
theorem Rel.found (h : Rel A L) (ok : AOk most opn A) (id : Int) : (findA A id).isSome = decide ((dropL L id).length < L.length) := by
  cases hf : findA A id with
  | none => rw [dropL_self (h.none hf)]; simp
  | some x =>
    obtain ⟨o, ps⟩ := x
    have hm := findA_some hf
    have h2 : psL L id = ps := (h.row _ hm).1
    have hpos := (ok.bds _ hm).2.2.2.2.1
    simp only at hpos
    obtain ⟨q, hq⟩ := List.exists_mem_of_length_pos (l := ps) (by omega)
    rw [← h2] at hq
    obtain ⟨p, hp, hpi, _⟩ := psL_out hq
    have hlt : (dropL L id).length < L.length := by
      refine Nat.lt_of_le_of_ne (dropL_len L id) fun he => ?_
      have := (List.length_filter_eq_length_iff (p := fun p : PT => !decide (p.1 = id))).1 he p hp
      simp [hpi] at this
    rw [decide_eq_true hlt]; rfl
theorem lookP_some_of_mem {ps : PL} {q : Int × ByteArray} (h : q ∈ ps) : (lookP ps q.1).isSome = true := by
  cases hl : lookP ps q.1 with
  | none => exact absurd rfl (lookP_none hl q h)
  | some x => rfl
/-- the same part, to both -/
theorem Rel.add (h : Rel A L) (ok : AOk most opn A) (id : Int) (n o : Nat) (t : ByteArray) (hm : MayP id n o t) :
    (addB most opn A id n o t).2 = (addRL most opn A.length L id n o t).2 ∧ Rel (addB most opn A id n o t).1 (addRL most opn A.length L id n o t).1 := by
  have huse := h.use
  unfold addB
  rw [if_pos hm]
  obtain ⟨m1, m2, m3, m4, m5, m6, m7, m8⟩ := hm
  unfold addA addRL
  cases hf : findA A id with
  | none =>
    have hno := h.none hf
    have hps := psL_nil hno
    have hany : ¬ (L.any (fun q => decide (badP id n o q)) = true) := fun ha => by
      obtain ⟨q, hq, hb⟩ := List.any_eq_true.1 ha
      exact hno q hq (of_decide_eq_true hb).1
    rw [if_neg hany, hps]
    simp only [List.length_nil, true_and]
    by_cases e1 : (o : Int) = 1
    · have ho : o = 1 := by omega
      subst ho
      have hn : n = 0 := by omega
      subst hn
      rw [if_pos e1, if_pos rfl, dropL_self hno]
      refine ⟨?_, h⟩
      simp [wholeK, str_lst]
    · rw [if_neg e1, if_neg (show ¬ (0 + 1 = o) by omega)]
      by_cases e2 : opn ≤ (A.length : Int)
      · rw [if_pos e2, if_pos e2]; exact ⟨rfl, h⟩
      · rw [if_neg e2, if_neg e2]
        by_cases e3 : most - (usedA A : Int) < (t.size : Int)
        · rw [if_pos e3, if_pos (show most < ((sizes L + t.size : Nat) : Int) by omega)]; exact ⟨rfl, h⟩
        · rw [if_neg e3, if_neg (show ¬ most < ((sizes L + t.size : Nat) : Int) by omega)]
          refine ⟨rfl, fun b hb => ?_, fun p hp => ?_, ?_⟩
          · rcases List.mem_append.1 hb with hb | hb
            · obtain ⟨h1, h2⟩ := h.row b hb
              have hne : b.1 ≠ id := findA_none hf b hb
              rw [psL_snoc, if_neg (Ne.symm hne), List.append_nil]
              refine ⟨h1, fun p hp hpb => ?_⟩
              rcases List.mem_append.1 hp with hp | hp
              · exact h2 p hp hpb
              · obtain rfl : p = _ := by simpa using hp
                exact absurd hpb.symm hne
            · obtain rfl : b = _ := by simpa using hb
              rw [psL_snoc, if_pos rfl, hps]
              refine ⟨rfl, fun p hp hpb => ?_⟩
              rcases List.mem_append.1 hp with hp | hp
              · exact absurd hpb (hno p hp)
              · obtain rfl : p = _ := by simpa using hp
                rfl
          · rcases List.mem_append.1 hp with hp | hp
            · obtain ⟨b, hb, e⟩ := h.cov p hp
              exact ⟨b, by simp [hb], e⟩
            · obtain rfl : p = _ := by simpa using hp
              exact ⟨_, List.mem_append.2 (.inr (List.mem_singleton.2 rfl)), rfl⟩
          · rw [sizes_snoc]
            simp [usedA, usedP] at huse ⊢
            omega
  | some x =>
    obtain ⟨f, ps⟩ := x
    have hmem := findA_some hf
    obtain ⟨r1, r2⟩ := h.row _ hmem
    simp only at r1 r2
    have hpos := (ok.bds _ hmem).2.2.2.2.1
    simp only at hpos
    obtain ⟨q0, hq0⟩ := List.exists_mem_of_length_pos (l := ps) (by omega)
    have hq0' := hq0
    rw [← r1] at hq0'
    obtain ⟨p0, hp0, hp0i, _⟩ := psL_out hq0'
    have hany : (L.any (fun q => decide (badP id n o q)) = true) ↔ (f ≠ (o : Int) ∨ (lookP ps (n : Int)).isSome = true) := by
      constructor
      · intro ha
        obtain ⟨q, hq, hb⟩ := List.any_eq_true.1 ha
        obtain ⟨b1, b2⟩ := of_decide_eq_true hb
        rcases b2 with b2 | b2
        · exact .inl (by rw [← r2 q hq b1]; exact b2)
        · right
          have := psL_in hq
          rw [b1, r1] at this
          have := lookP_some_of_mem this
          rw [← b2]; exact this
      · rintro (b | b)
        · exact List.any_eq_true.2 ⟨p0, hp0, decide_eq_true ⟨hp0i, .inl (by rw [r2 p0 hp0 hp0i]; exact b)⟩⟩
        · obtain ⟨u, hu⟩ := Option.isSome_iff_exists.1 b
          have hu2 := lookP_mem hu
          rw [← r1] at hu2
          obtain ⟨q, hq, hqi, hqn, _⟩ := psL_out hu2
          exact List.any_eq_true.2 ⟨q, hq, decide_eq_true ⟨hqi, .inr hqn⟩⟩
    simp only
    by_cases e1 : f ≠ (o : Int) ∨ (lookP ps (n : Int)).isSome = true
    · rw [if_pos e1, if_pos (hany.2 e1)]; exact ⟨rfl, h⟩
    · rw [if_neg e1, if_neg (fun ha => e1 (hany.1 ha)), r1]
      by_cases e2 : (ps.length : Int) + 1 = (o : Int)
      · rw [if_pos e2, if_pos (by omega)]
        refine ⟨?_, h.erase ok id⟩
        simp
      · rw [if_neg e2, if_neg (show ¬ (ps.length + 1 = o) by omega), if_neg (show ¬ (ps.length = 0 ∧ opn ≤ (A.length : Int)) from fun hh => by omega)]
        by_cases e3 : most - (usedA A : Int) < (t.size : Int)
        · rw [if_pos e3, if_pos (show most < ((sizes L + t.size : Nat) : Int) by omega)]; exact ⟨rfl, h⟩
        · rw [if_neg e3, if_neg (show ¬ most < ((sizes L + t.size : Nat) : Int) by omega)]
          have hfo : f = (o : Int) := Classical.byContradiction fun hc => e1 (.inl hc)
          refine ⟨rfl, fun b hb => ?_, fun p hp => ?_, ?_⟩
          · obtain ⟨b0, hb0, rfl⟩ := List.mem_map.1 hb
            obtain ⟨h1, h2⟩ := h.row b0 hb0
            by_cases e : b0.1 = id
            · have hbb : b0 = (id, f, ps) := by
                rcases pw_eq (fun a b hab => Ne.symm hab) ok.nd hb0 hmem with hx | hx
                · exact hx
                · exact absurd e hx
              subst hbb
              rw [if_pos rfl]
              simp only
              rw [psL_snoc, if_pos rfl, r1]
              refine ⟨rfl, fun p hp hpb => ?_⟩
              rcases List.mem_append.1 hp with hp | hp
              · exact r2 p hp hpb
              · obtain rfl : p = _ := by simpa using hp
                exact hfo.symm
            · rw [if_neg e, psL_snoc, if_neg (Ne.symm e), List.append_nil]
              refine ⟨h1, fun p hp hpb => ?_⟩
              rcases List.mem_append.1 hp with hp | hp
              · exact h2 p hp hpb
              · obtain rfl : p = _ := by simpa using hp
                exact absurd hpb.symm e
          · have hup : ∀ b ∈ A, ∃ b' ∈ updA A id (ps ++ [((n : Int), t)]), b'.1 = b.1 := fun b hb => ⟨_, List.mem_map.2 ⟨b, hb, rfl⟩, by split <;> rfl⟩
            rcases List.mem_append.1 hp with hp | hp
            · obtain ⟨b, hb, e⟩ := h.cov p hp
              obtain ⟨b', hb', e'⟩ := hup b hb
              exact ⟨b', hb', e'.trans e⟩
            · obtain rfl : p = _ := by simpa using hp
              obtain ⟨b', hb', e'⟩ := hup _ hmem
              exact ⟨b', hb', e'⟩
          · rw [usedA_upd (q := ((n : Int), t)) ok.nd hf, sizes_snoc, huse]
theorem Rel.outs (h : Rel A L) (ok : AOk most opn A) {out : List Int} (ho : Outs L out) (hall : ∀ p ∈ L, p.1 ∈ out) : out.Perm (A.map Prod.fst) := by
  have n1 : out.Nodup := ho.up.imp fun hab => Int.ne_of_lt hab
  have n2 : (A.map Prod.fst).Nodup := List.pairwise_map.2 ok.nd
  refine (List.perm_ext_iff_of_nodup n1 n2).2 fun x => ⟨fun hx => ?_, fun hx => ?_⟩
  · obtain ⟨p, hp, rfl⟩ := ho.mem x hx
    obtain ⟨b, hb, e⟩ := h.cov p hp
    exact List.mem_map.2 ⟨b, hb, e⟩
  · obtain ⟨b, hb, rfl⟩ := List.mem_map.1 hx
    have hpos := (ok.bds _ hb).2.2.2.2.1
    obtain ⟨q, hq⟩ := List.exists_mem_of_length_pos (l := b.2.2) (by omega)
    rw [← (h.row b hb).1] at hq
    obtain ⟨p, hp, hpi, _⟩ := psL_out hq
    rw [← hpi]
    exact hall p hp
theorem Rel.outs_len (h : Rel A L) (ok : AOk most opn A) {out : List Int} (ho : Outs L out) (hall : ∀ p ∈ L, p.1 ∈ out) : out.length = A.length := by
  rw [(h.outs ok ho hall).length_eq, List.length_map]
theorem Rel.outs_ids (h : Rel A L) (ok : AOk most opn A) {out : List Int} (ho : Outs L out) (hall : ∀ p ∈ L, p.1 ∈ out) : out = idsA A := by
  unfold idsA
  rw [← mergeSort_of_perm_i (h.outs ok ho hall)]
  refine (List.mergeSort_of_pairwise (ho.up.imp fun {a b} hab => ?_)).symm
  simp; omega
/-- the parts of a joiner are as Add asks -/
theorem Rel.lok (h : Rel A L) (ok : AOk most opn A) (h1 : L.length ≤ 1000) (h2 : sizes L ≤ 1000000) (id : Int) : LOk L id := by
  have hx : ∀ p ∈ L, ∃ b ∈ A, b.1 = p.1 ∧ p.2.2.1 = b.2.1 ∧ (p.2.1, p.2.2.2) ∈ b.2.2 := fun p hp => by
    obtain ⟨b, hb, e⟩ := h.cov p hp
    have := psL_in hp
    rw [← e, (h.row b hb).1] at this
    exact ⟨b, hb, e, (h.row b hb).2 p hp e.symm, this⟩
  refine ⟨h1, h2, fun p hp => ?_, fun p hp => ?_, ?_, fun p hp => ?_⟩
  · obtain ⟨b, hb, e, _⟩ := hx p hp
    have := (ok.bds b hb).1
    omega
  · obtain ⟨b, hb, e, e2, e3⟩ := hx p hp
    obtain ⟨_, _, _, k4, _, _, _, k8⟩ := ok.bds b hb
    obtain ⟨k1, k2, _, _⟩ := k8 _ e3
    simp only at k1 k2
    exact ⟨k1, by omega, by omega⟩
  · cases hf : findA A id with
    | none => rw [psL_nil (h.none hf)]; simp
    | some x =>
      have hm := findA_some hf
      rw [(h.row _ hm).1]
      exact (ok.bds _ hm).2.2.2.2.2.2.1
  · obtain ⟨b, hb, e, e2, e3⟩ := hx p hp
    obtain ⟨_, _, _, _, _, _, _, k8⟩ := ok.bds b hb
    exact (k8 _ e3).2.2.2
end
end Go.Proofs.Ytoclbcpfiacoaaa
