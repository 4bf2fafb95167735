/- The reference's joiner (layer 30): Add of a part that may be. -/
import Derived.Test.YtoclbcpfiacoaaaRap
namespace Go.Proofs.Ytoclbcpfiacoaaa
set_option linter.unusedVariables false
set_option linter.unusedSimpArgs false
open Go.RowKit

/-- the row of texts: what is there of the parts that were looked at -/
structure TX (W : World) (T o : Nat) (ps : PL) : Prop where
  ex : ∃ cs, Bk W T 9 cs ∧ cs.size = o ∧ ∀ i, i < o → cs[i]? = some (.string ((lookP ps (i : Int)).getD ⟨#[]⟩))
section
variable {W W' : World} {T o : Nat} {ps : PL}
theorem TX.below (h : TX W T o ps) (hb : Below W.heap.size W W') : TX W' T o ps := by
  obtain ⟨cs, h1, h2⟩ := h.ex
  exact ⟨⟨cs, h1.below hb h1.lt, h2⟩⟩
theorem TX.lt (h : TX W T o ps) : T < W.heap.size := by obtain ⟨cs, h1, h2⟩ := h.ex; exact h1.lt
theorem TX.at_ (h : TX W T o ps) {i : Nat} (hi : i < o) : W.cell? ⟨T, i, none⟩ = some (.string ((lookP ps (i : Int)).getD ⟨#[]⟩)) := by
  obtain ⟨cs, h1, h2, h3⟩ := h.ex
  exact (h1.cell i).trans (h3 i hi)
theorem TX.free (h : TX W T o ps) (i : Nat) : W.frozen? ⟨T, i, none⟩ = false := by obtain ⟨cs, h1, h2⟩ := h.ex; exact h1.free i
theorem TX.store (h : TX W T o ps) {n : Nat} {t : ByteArray} (hn : n < o) (hno : lookP ps (n : Int) = none) : TX (W.setCell ⟨T, n, none⟩ (.string t)) T o (ps ++ [((n : Int), t)]) := by
  obtain ⟨cs, h1, h2, h3⟩ := h.ex
  refine ⟨⟨_, h1.put n (.string t), by rw [Array.size_setIfInBounds]; exact h2, fun i hi => ?_⟩⟩
  rw [Array.getElem?_setIfInBounds, lookP_snoc]
  by_cases e : n = i
  · subst e
    rw [if_pos rfl, if_pos (by omega), hno]
    simp
  · rw [if_neg e, h3 i hi]
    have : ¬ ((n : Int) = (i : Int)) := by omega
    cases lookP ps (i : Int) <;> simp [this]
end
theorem RA.setT {w W : World} {N T i o : Nat} {ps : PL} {most opn : Int} {a : Option Addr} {L : List PT} {cp : Nat} {id n of : Int} {t : ByteArray} (h : RA w N most opn a L cp id n of t W) (hT : TX W T o ps) (hN : N ≤ T) (v : Value) : RA w N most opn a L cp id n of t (W.setCell ⟨T, i, none⟩ v) := by
  obtain ⟨cs, h1, _⟩ := hT.ex
  exact ⟨h.J.far (p := ⟨T, i, none⟩) (h.J.ne h1 (by decide)) v, h.P.far (p := ⟨T, i, none⟩) (h.P.ne h1 (by decide)) v, h.R.far (p := ⟨T, i, none⟩) (h.R.ne h1 (by decide)) v, h.row.set (p := ⟨T, i, none⟩) h1 (by decide) v, h.bel.setCell (p := ⟨T, i, none⟩) hN v⟩
theorem tx_made (W : World) (o : Nat) : TX (W.alloc (.cells (Array.replicate o (.string ⟨#[]⟩)) 9)) W.heap.size o [] :=
  ⟨⟨_, Bk.made W 9 _, by simp, fun i hi => by simp [lookP, hi]⟩⟩
theorem ra_back {w W : World} {N M : Nat} {most opn : Int} {a : Option Addr} {n c : Nat} {L : List PT} {x0 x1 x2 : Value} (hR : Bk W M 46 #[x0, x1, x2]) (hN : N ≤ M) (hrow : RowL W a L) (hbel : Below N w W) :
    ∃ W', W' = ((W.setCell ⟨M, 0, none⟩ (.int .i64 most)).setCell ⟨M, 1, none⟩ (.int .i64 opn)).setCell ⟨M, 2, none⟩ (.slice a n c) ∧
      W'.cell? ⟨M, 0, none⟩ = some (.int .i64 most) ∧ W'.cell? ⟨M, 1, none⟩ = some (.int .i64 opn) ∧ W'.cell? ⟨M, 2, none⟩ = some (.slice a n c) ∧ RowL W' a L ∧ Below N w W' := by
  have h1 := hR.put 0 (.int .i64 most)
  have h2 := h1.put 1 (.int .i64 opn)
  have h3 := h2.put 2 (.slice a n c)
  refine ⟨_, rfl, h3.cell 0, h3.cell 1, h3.cell 2, ((hrow.set (p := ⟨M, 0, none⟩) hR (by decide) _).set (p := ⟨M, 1, none⟩) h1 (by decide) _).set (p := ⟨M, 2, none⟩) h2 (by decide) _, ?_⟩
  exact ((hbel.setCell (p := ⟨M, 0, none⟩) hN _).setCell (p := ⟨M, 1, none⟩) hN _).setCell (p := ⟨M, 2, none⟩) hN _
theorem ra_fin {w W : World} {N M : Nat} {most opn : Int} {a : Option Addr} {n c : Nat} {L : List PT} {x0 x1 x2 y0 y1 y2 : Value} (hJ : Bk W N 46 #[y0, y1, y2]) (hR : Bk W M 46 #[x0, x1, x2]) (hN : N < M) (hrow : RowL W a L) (hbel : Below N w W) :
    ∃ W', W' = (((W.setCell ⟨N, 2, none⟩ (.slice a n c)).setCell ⟨M, 0, none⟩ (.int .i64 most)).setCell ⟨M, 1, none⟩ (.int .i64 opn)).setCell ⟨M, 2, none⟩ (.slice a n c) ∧
      W'.cell? ⟨M, 0, none⟩ = some (.int .i64 most) ∧ W'.cell? ⟨M, 1, none⟩ = some (.int .i64 opn) ∧ W'.cell? ⟨M, 2, none⟩ = some (.slice a n c) ∧ RowL W' a L ∧ Below N w W' :=
  ra_back (hR.far (p := ⟨N, 2, none⟩) (by simp; omega) _) (by omega) (hrow.set (p := ⟨N, 2, none⟩) hJ (by decide) _) (hbel.setCell (p := ⟨N, 2, none⟩) (Nat.le_refl _) _)
/-- what a drawn region of Add reads -/
theorem ra_keep {w W W' : World} {N : Nat} {most opn : Int} {a : Option Addr} {L : List PT} {cp : Nat} {id n of : Int} {t : ByteArray}
    (h : W.cell? ⟨N, 0, none⟩ = some (.int .i64 most) ∧ W.cell? ⟨N, 1, none⟩ = some (.int .i64 opn) ∧ W.cell? ⟨N, 2, none⟩ = some (.slice a L.length cp) ∧ W.cell? ⟨N + 1, 3, none⟩ = some (.string t) ∧ RA w N most opn a L cp id n of t W) (hb : Below W.heap.size W W') :
    W'.cell? ⟨N, 0, none⟩ = some (.int .i64 most) ∧ W'.cell? ⟨N, 1, none⟩ = some (.int .i64 opn) ∧ W'.cell? ⟨N, 2, none⟩ = some (.slice a L.length cp) ∧ W'.cell? ⟨N + 1, 3, none⟩ = some (.string t) ∧ RA w N most opn a L cp id n of t W' := by
  have h' := h.2.2.2.2.below hb
  exact ⟨h'.J.cell 0, h'.J.cell 1, h'.J.cell 2, h'.P.cell 3, h'⟩
theorem ra_cells {w W : World} {N : Nat} {most opn : Int} {a : Option Addr} {L : List PT} {cp : Nat} {id n of : Int} {t : ByteArray} (h : RA w N most opn a L cp id n of t W) :
    W.drew.cell? ⟨N, 0, none⟩ = some (.int .i64 most) ∧ W.drew.cell? ⟨N, 1, none⟩ = some (.int .i64 opn) ∧ W.drew.cell? ⟨N, 2, none⟩ = some (.slice a L.length cp) ∧ W.drew.cell? ⟨N + 1, 3, none⟩ = some (.string t) ∧ RA w N most opn a L cp id n of t W.drew := by
  have h' := h.drewN 1
  exact ⟨h'.J.cell 0, h'.J.cell 1, h'.J.cell 2, h'.P.cell 3, h'⟩
/-- what is asked of the parts that are there -/
structure LOk (L : List PT) (id : Int) : Prop where
  len : L.length ≤ 1000
  siz : sizes L ≤ 1000000
  pos : ∀ p ∈ L, 0 ≤ p.1
  rng : ∀ q ∈ L, 0 ≤ q.2.1 ∧ q.2.1 < q.2.2.1 ∧ q.2.2.1 ≤ 1024
  nd : ((psL L id).map Prod.fst).Nodup
  tx : ∀ q ∈ L, q.2.2.2.size ≤ 65536
theorem psL_take_nd {L : List PT} {id : Int} (h : ((psL L id).map Prod.fst).Nodup) (k : Nat) {p : PT} (hp : L[k]? = some p) (he : p.1 = id) : lookP (psL (L.take k) id) p.2.1 = none := by
  cases hl : lookP (psL (L.take k) id) p.2.1 with
  | none => rfl
  | some u =>
    exfalso
    have h1 := lookP_mem hl
    have h2 : L = L.take k ++ (p :: L.drop (k + 1)) := by
      obtain ⟨hk, rfl⟩ := List.getElem?_eq_some_iff.1 hp
      rw [← List.drop_eq_getElem_cons hk, List.take_append_drop]
    rw [h2] at h
    unfold psL at h h1
    rw [List.filter_append, List.map_append, List.map_append, List.nodup_append] at h
    rw [List.filter_cons_of_pos (by simp [he])] at h
    exact h.2.2 p.2.1 (List.mem_map.2 ⟨_, h1, rfl⟩) p.2.1 (by simp) rfl
/-- what a size is not more than -/
theorem size_mem {L : List PT} {k : Nat} {p : PT} (hp : L[k]? = some p) : p.2.2.2.size ≤ sizes L := by
  have h1 := sizes_snoc (L.take k) p
  rw [← take_snoc' hp] at h1
  have h2 := sizes_take L (k + 1)
  omega
/-- what Add makes of the parts, and what it answers; N: how many numbers there are -/
def addRL (most opn : Int) (N : Nat) (L : List PT) (id : Int) (n o : Nat) (t : ByteArray) : List PT × ByteArray × Bool × Int :=
  if L.any (fun q => decide (badP id n o q)) then (L, ⟨#[]⟩, false, 8)
  else if (psL L id).length + 1 = o then (dropL L id, str (wholeK n (lst t) (psL L id) o), true, 0)
  else if (psL L id).length = 0 ∧ opn ≤ (N : Int) then (L, ⟨#[]⟩, false, 4)
  else if most < ((sizes L + t.size : Nat) : Int) then (L, ⟨#[]⟩, false, 5)
  else (L ++ [(id, (n : Int), (o : Int), t)], ⟨#[]⟩, false, 0)
def RetR (w : World) (most opn : Int) (r : List PT × ByteArray × Bool × Int) (e : Ending) (w' : World) : Prop := RetAdd w most opn r.1 r.2.1 r.2.2.1 r.2.2.2 e w'
theorem retR_mk {w w' : World} {most opn : Int} {r : List PT × ByteArray × Bool × Int} {L' : List PT} {s : ByteArray} {b : Bool} {f : Int} {a : Option Addr} {cp : Nat} (hr : r = (L', s, b, f)) (hc : L'.length ≤ cp) (hw : RowL w' a L') (hb : Below w.heap.size w w') :
    RetR w most opn r (.returned (.tuple #[JV most opn a L'.length cp, .string s, .bool b, .int .i64 f])) w' := by subst hr; exact ⟨a, cp, rfl, hc, hw, hb⟩
theorem cell_al {w : World} {p : Addr} {v : Value} (h : w.cell? p = some v) (o : Obj) : (w.alloc o).cell? p = some v := by rw [World.cell?_alloc_some _ _ _ (by rw [h]; rfl)]; exact h
set_option maxRecDepth 100000 in
set_option maxHeartbeats 12000000 in
theorem radd_loop (most opn : Int) (a : Option Addr) (L : List PT) (cp : Nat) (id : Int) (n o : Nat) (t : ByteArray) (w : World) (hL : RowL w a L) (hcp : L.length ≤ cp) (ok : LOk L id) (hm : MayP id n o t) (Nn : Nat) (hNn : ∀ out, Outs L out → (∀ p ∈ L, p.1 ∈ out) → out.length = Nn) :
    Calls Try.prog 20 #[.agg #[.int .i64 most, .int .i64 opn, .slice a L.length cp], .agg #[.int .i64 id, .int .i64 (n : Int), .int .i64 (o : Int), .string t]] w (RetR w most opn (addRL most opn Nn L id n o t)) := by
  obtain ⟨i9, ha0, ha1, ha2, ha3⟩ := info_parts info9
  have HM := sh (rmay id n o t)
  rw [decide_eq_true hm] at HM
  obtain ⟨m1, m2, m3, m4, m5, m6, m7, m8⟩ := hm
  have S0 := sh (ra_start w most opn a L cp id n o t hL)
  have OK := sh ok
  have hlen := ok.len
  have HNn := sh hNn
  clear hL m8 ok hNn
  have p0 := S0.out.P.cell 0
  go_enter Try.func20, Try.ntmps20
  go_wp2_with fail
  generalize hN : w.heap.size = N at *
  generalize (((w.alloc (.cells #[.int .i64 most, .int .i64 opn, .slice a L.length cp] 46)).alloc (.cells #[.int .i64 id, .int .i64 n, .int .i64 o, .string t] 31)).alloc (.cells #[.int .i64 0, .int .i64 0, .slice none 0 0] 46)) = W0 at *
  refine (HM.out _).mono ?_
  rintro e' W1 ⟨rfl, hb1⟩
  have S1 := sh (S0.out.below hb1)
  clear HM S0 hb1 p0
  have hmk : (Instr.makeSlice 70 (.int .i64 (o : Int)) (.int .i64 (o : Int))).run Try.prog W1 = .ok (.slice (some ⟨W1.heap.size, 0, none⟩) o o) (W1.alloc (.cells (Array.replicate o (.string ⟨#[]⟩)) 9)) := by
    have h := run_makeSlice (P := Try.prog) W1 70 9 i9 (.string ⟨#[]⟩) Try.underlying70 ha0 ha1 .i64 .i64 (o : Int) (o : Int) (by omega) (Int.le_refl _) (by rw [ha2]; omega) (by rw [ha3]; omega) (by omega)
    rw [ha2, madeS] at h
    simpa using h
  have p2 : W1.cell? ⟨N + 1, 2, none⟩ = some (.int .i64 (o : Int)) := S1.out.P.cell 2
  have S2 := sh (S1.out.below ((Below.refl _ W1).alloc (Nat.le_refl _) (.cells (Array.replicate o (.string ⟨#[]⟩)) 9)))
  have X2 := sh (tx_made W1 o)
  have hTN : N + 1 + 1 < W1.heap.size := S1.out.R.lt
  clear S1
  go_wp2_with fail
  clear hmk p2
  generalize (W1.alloc (.cells (Array.replicate o (.string ⟨#[]⟩)) 9)) = W2 at *
  generalize W1.heap.size = T at *
  go_loopw [9, 10] (fun v9 v10 wr => ∃ k : Nat, k ≤ L.length ∧ v10 = .int .i64 (k : Int) ∧ v9 = .int .i64 ((psL (L.take k) id).length : Int) ∧ Sh (∀ q ∈ L.take k, ¬ badP id n o q) ∧ Sh (TX wr T o (psL (L.take k) id)) ∧ Sh (RA w N most opn a L cp id n o t wr)) (fun _ v10 _ => L.length - (RowKit.intOf v10).toNat)
  case atStart => exact ⟨0, by omega, rfl, rfl, ⟨by simp⟩, X2, S2⟩
  case round =>
    clear X2 S2
    obtain ⟨k, hk, rfl, rfl, HBd, HX, HR⟩ := hrel
    have j2 := HR.out.J.cell 2
    have p0 : wr.cell? ⟨N + 1, 0, none⟩ = some (.int .i64 id) := HR.out.P.cell 0
    have p1 : wr.cell? ⟨N + 1, 1, none⟩ = some (.int .i64 (n : Int)) := HR.out.P.cell 1
    have p2 : wr.cell? ⟨N + 1, 2, none⟩ = some (.int .i64 (o : Int)) := HR.out.P.cell 2
    have hpl := psL_len (L.take k) id
    rw [List.length_take] at hpl
    by_cases hlt : k < L.length
    · obtain ⟨p, hp⟩ : ∃ p, L[k]? = some p := ⟨_, List.getElem?_eq_getElem hlt⟩
      obtain ⟨g, rfl, hg, a0, a1, a2, a3⟩ := HR.out.row.at_ hp
      have HQ := sh (Bk.made wr 31 #[.int .i64 p.1, .int .i64 p.2.1, .int .i64 p.2.2.1, .string p.2.2.2])
      have HRq := sh (HR.out.below ((Below.refl _ wr).alloc (Nat.le_refl _) (.cells #[.int .i64 p.1, .int .i64 p.2.1, .int .i64 p.2.2.1, .string p.2.2.2] 31)))
      have HXq := sh (HX.out.below ((Below.refl _ wr).alloc (Nat.le_refl _) (.cells #[.int .i64 p.1, .int .i64 p.2.1, .int .i64 p.2.2.1, .string p.2.2.2] 31)))
      have hTl := HX.out.lt
      have hNl := HR.out.R.lt
      have hN1 : N + 1 < wr.heap.size := by omega
      have hN0 : N < wr.heap.size := by omega
      have hsn := psL_snoc (L.take k) p id
      rw [← take_snoc' hp] at hsn
      have HSN := sh hsn
      have HTK := sh (take_snoc' hp)
      by_cases e1 : p.1 = id
      · have b1 : (p.1 != id) = false := by rw [bne_eq_false_iff_eq]; exact e1
        by_cases e2 : p.2.2.1 = (o : Int)
        · have b2 : (p.2.2.1 != (o : Int)) = false := by rw [bne_eq_false_iff_eq]; exact e2
          by_cases e3 : p.2.1 = (n : Int)
          · have b3 : (p.2.1 == (n : Int)) = true := by rw [beq_iff_eq]; exact e3
            have HB8 := sh (show addRL most opn Nn L id n o t = (L, ⟨#[]⟩, false, 8) by
              unfold addRL
              rw [if_pos (List.any_eq_true.2 ⟨p, List.mem_of_getElem? hp, decide_eq_true ⟨e1, .inr e3⟩⟩)])
            have j0 := HR.out.J.cell 0
            have j1 := HR.out.J.cell 1
            have r0 := HR.out.R.cell 0
            have r1 := HR.out.R.cell 1
            have r2 := HR.out.R.cell 2
            have y0 := HR.out.R.free 0
            have y1 := HR.out.R.free 1
            have y2 := HR.out.R.free 2
            have hN2 : N + 1 + 1 < wr.heap.size := hNl
            obtain ⟨W9, hW9, e0, e1', e2', hrow, hbel⟩ := HR.out.back
            have hF := sh (And.intro (hrow.below ((Below.refl _ W9).alloc (Nat.le_refl _) (.cells #[.int .i64 p.1, .int .i64 p.2.1, .int .i64 p.2.2.1, .string p.2.2.2] 31))) (hbel.alloc (show N ≤ W9.heap.size by rw [hW9]; simp [World.setCell]; omega) (.cells #[.int .i64 p.1, .int .i64 p.2.1, .int .i64 p.2.2.1, .string p.2.2.2] 31)))
            replace e0 := cell_al e0 (.cells #[.int .i64 p.1, .int .i64 p.2.1, .int .i64 p.2.2.1, .string p.2.2.2] 31)
            replace e1' := cell_al e1' (.cells #[.int .i64 p.1, .int .i64 p.2.1, .int .i64 p.2.2.1, .string p.2.2.2] 31)
            replace e2' := cell_al e2' (.cells #[.int .i64 p.1, .int .i64 p.2.1, .int .i64 p.2.2.1, .string p.2.2.2] 31)
            have HW9 := sh hW9
            clear hrow hbel hsn e1 e2 e3 hp HSN HTK HBd hW9
            go_wp2_with fail
            rw [← HW9.out]
            clear j0 j1 j2 r0 r1 r2 y0 y1 y2 p0 p1 p2 a0 a1 a2 a3
            refine bodyPost_ret (v := .tuple #[JV most opn (some ⟨g, 0, none⟩) L.length cp, .string ⟨#[]⟩, .bool false, .int .i64 8]) ?_ ?_ (retR_mk HB8.out hcp hF.out.1 (by rw [hN]; exact hF.out.2))
            · simp [results, Try.results20, go_sem, e0, e1', e2', JV]
            · rfl
          · have b3 : (p.2.1 == (n : Int)) = false := by rw [beq_eq_false_iff_ne]; exact e3
            have hrg := OK.out.rng p (List.mem_of_getElem? hp)
            have hq' : p.2.1 = ((p.2.1.toNat : Nat) : Int) := by omega
            have hqo : p.2.1.toNat < o := by omega
            have hno := psL_take_nd OK.out.nd k hp e1
            rw [hq'] at hno
            have HN2 := sh (show psL (L.take (k + 1)) id = psL (L.take k) id ++ [((p.2.1.toNat : Int), p.2.2.2)] by rw [HSN.out, if_pos e1, ← hq'])
            have HXs := sh ((HX.out.store (t := p.2.2.2) hqo hno).below ((Below.refl _ _).alloc (Nat.le_refl _) (.cells #[.int .i64 p.1, .int .i64 p.2.1, .int .i64 p.2.2.1, .string p.2.2.2] 31)))
            have HRs := sh ((HR.out.setT (i := p.2.1.toNat) HX.out (by omega) (.string p.2.2.2)).below ((Below.refl _ _).alloc (Nat.le_refl _) (.cells #[.int .i64 p.1, .int .i64 p.2.1, .int .i64 p.2.2.1, .string p.2.2.2] 31)))
            have HB2 : Sh (∀ q ∈ L.take (k + 1), ¬ badP id n o q) := ⟨fun q hq => by
              rw [HTK.out] at hq
              rcases List.mem_append.1 hq with hq | hq
              · exact HBd.out q hq
              · obtain rfl : q = p := by simpa using hq
                exact fun h => h.2.elim (fun h => h e2) e3⟩
            have fT := HXq.out.free p.2.1.toNat
            have cT := HXq.out.at_ hqo
            have HL2 := sh (show ((psL (L.take (k + 1)) id).length : Int) = ((psL (L.take k) id).length : Int) + 1 by rw [HN2.out]; simp)
            have hq0 : (0 : Int) ≤ p.2.1 := hrg.1
            have hq1 : p.2.1 < (o : Int) := by omega
            clear hsn e1 e2 e3 hp HSN HTK HBd hno hrg hq'
            go_wp2_with fail
            go_roundw
            case rel => exact ⟨k + 1, by omega, by go_num, by rw [HL2.out], HB2, ⟨by rw [HN2.out]; exact HXs.out⟩, HRs⟩
            case measure => simp [RowKit.intOf]; omega
        · have b2 : (p.2.2.1 != (o : Int)) = true := by rw [bne_iff_ne]; exact e2
          have HB8 := sh (show addRL most opn Nn L id n o t = (L, ⟨#[]⟩, false, 8) by
            unfold addRL
            rw [if_pos (List.any_eq_true.2 ⟨p, List.mem_of_getElem? hp, decide_eq_true ⟨e1, .inl e2⟩⟩)])
          have j0 := HR.out.J.cell 0
          have j1 := HR.out.J.cell 1
          have r0 := HR.out.R.cell 0
          have r1 := HR.out.R.cell 1
          have r2 := HR.out.R.cell 2
          have y0 := HR.out.R.free 0
          have y1 := HR.out.R.free 1
          have y2 := HR.out.R.free 2
          have hN2 : N + 1 + 1 < wr.heap.size := hNl
          obtain ⟨W9, hW9, e0, e1', e2', hrow, hbel⟩ := HR.out.back
          have hF := sh (And.intro (hrow.below ((Below.refl _ W9).alloc (Nat.le_refl _) (.cells #[.int .i64 p.1, .int .i64 p.2.1, .int .i64 p.2.2.1, .string p.2.2.2] 31))) (hbel.alloc (show N ≤ W9.heap.size by rw [hW9]; simp [World.setCell]; omega) (.cells #[.int .i64 p.1, .int .i64 p.2.1, .int .i64 p.2.2.1, .string p.2.2.2] 31)))
          replace e0 := cell_al e0 (.cells #[.int .i64 p.1, .int .i64 p.2.1, .int .i64 p.2.2.1, .string p.2.2.2] 31)
          replace e1' := cell_al e1' (.cells #[.int .i64 p.1, .int .i64 p.2.1, .int .i64 p.2.2.1, .string p.2.2.2] 31)
          replace e2' := cell_al e2' (.cells #[.int .i64 p.1, .int .i64 p.2.1, .int .i64 p.2.2.1, .string p.2.2.2] 31)
          have HW9 := sh hW9
          clear hrow hbel hsn e1 e2 hp HSN HTK HBd hW9
          go_wp2_with fail
          rw [← HW9.out]
          clear j0 j1 j2 r0 r1 r2 y0 y1 y2 p0 p1 p2 a0 a1 a2 a3
          refine bodyPost_ret (v := .tuple #[JV most opn (some ⟨g, 0, none⟩) L.length cp, .string ⟨#[]⟩, .bool false, .int .i64 8]) ?_ ?_ (retR_mk HB8.out hcp hF.out.1 (by rw [hN]; exact hF.out.2))
          · simp [results, Try.results20, go_sem, e0, e1', e2', JV]
          · rfl
      · have b1 : (p.1 != id) = true := by rw [bne_iff_ne]; exact e1
        have HN2 := sh (show psL (L.take (k + 1)) id = psL (L.take k) id by rw [HSN.out, if_neg e1, List.append_nil])
        have HB2 : Sh (∀ q ∈ L.take (k + 1), ¬ badP id n o q) := ⟨fun q hq => by
          rw [HTK.out] at hq
          rcases List.mem_append.1 hq with hq | hq
          · exact HBd.out q hq
          · obtain rfl : q = p := by simpa using hq
            exact fun h => e1 h.1⟩
        clear hsn e1 hp HSN HTK HBd
        go_wp2_with fail
        go_roundw
        case rel => exact ⟨k + 1, by omega, by go_num, by rw [HN2.out], HB2, ⟨by rw [HN2.out]; exact HXq.out⟩, HRq⟩
        case measure => simp [RowKit.intOf]; omega
    · have hkk : k = L.length := by omega
      subst hkk
      rw [List.take_of_length_le (Nat.le_refl _)] at HX HBd hpl ⊢
      have hno : lookP (psL L id) (n : Int) = none := by
        cases h : lookP (psL L id) (n : Int) with
        | none => rfl
        | some u =>
          exfalso
          obtain ⟨q, hq, he⟩ := List.mem_map.1 (lookP_mem h)
          obtain ⟨hq1, hq2⟩ := List.mem_filter.1 hq
          exact HBd.out q hq1 ⟨by simpa using hq2, .inr (by have := congrArg Prod.fst he; exact this)⟩
      have hno2 : n < o := by omega
      have HA0 : Sh (addRL most opn Nn L id n o t = (if (psL L id).length + 1 = o then (dropL L id, str (wholeK n (lst t) (psL L id) o), true, 0)
          else if (psL L id).length = 0 ∧ opn ≤ (Nn : Int) then (L, ⟨#[]⟩, false, 4) else if most < ((sizes L + t.size : Nat) : Int) then (L, ⟨#[]⟩, false, 5) else (L ++ [(id, (n : Int), (o : Int), t)], ⟨#[]⟩, false, 0))) := ⟨by
        unfold addRL
        rw [if_neg]
        intro hany
        obtain ⟨q, hq, hb⟩ := List.any_eq_true.1 hany
        exact HBd.out q hq (of_decide_eq_true hb)⟩
      have HX3 := sh (HX.out.store (t := t) hno2 hno)
      have HR3 := sh (HR.out.setT (i := n) HX.out (by omega) (.string t))
      have HTX := sh (show ∀ q ∈ psL L id, q.2.size ≤ 65536 from fun q hq => by
        obtain ⟨p, hp, rfl⟩ := List.mem_map.1 hq
        exact OK.out.tx p (List.mem_filter.1 hp).1)
      have HNo := sh hno
      have fT := HX.out.free n
      have cT := HX.out.at_ hno2
      have p3 : wr.cell? ⟨N + 1, 3, none⟩ = some (.string t) := HR.out.P.cell 3
      have hq0 : (n : Int) < (o : Int) := by omega
      clear HBd hno
      generalize psL L id = ps at *
      by_cases e1 : ps.length + 1 = o
      · have be1 : ((ps.length : Int) + 1 == (o : Int)) = true := by rw [beq_iff_eq]; omega
        have HA1 := sh (HA0.out.trans (if_pos e1))
        clear HA0 e1
        go_wp2_with fail
        clear HX HR p0 p1 p2 p3 j2 fT cT
        generalize wr.setCell ⟨T, n, none⟩ (.string t) = W3 at *
        have p2 : W3.cell? ⟨N + 1, 2, none⟩ = some (.int .i64 (o : Int)) := HR3.out.P.cell 2
        have HWL := sh (fun k => wholeK_len (n := (n : Int)) (t := lst t) (ps := ps) (by rw [← size_lst]; exact m7) HTX.out k)
        go_loopw [12, 13] (fun v12 v13 wq => ∃ i : Nat, i ≤ o ∧ v13 = .int .i64 (i : Int) ∧ v12 = .string (str (wholeK n (lst t) ps i)) ∧ wq = W3) (fun _ v13 _ => o - (RowKit.intOf v13).toNat)
        case atStart => exact ⟨0, by omega, rfl, rfl, rfl⟩
        case round =>
          obtain ⟨i, hi, rfl, rfl, hwq⟩ := hrel
          rw [hwq]
          clear hwq
          have hwl := HWL.out i
          by_cases hio : i < o
          · have cT := HX3.out.at_ hio
            obtain ⟨u, hu⟩ : ∃ u, (lookP (ps ++ [((n : Int), t)]) (i : Int)).getD ⟨#[]⟩ = u := ⟨_, rfl⟩
            rw [hu] at cT
            have hus : u.size ≤ 65536 := by
              rw [← hu]
              refine look_size (fun q hq => ?_) _
              rcases List.mem_append.1 hq with hq | hq
              · exact HTX.out q hq
              · obtain rfl : q = ((n : Int), t) := by simpa using hq
                exact m7
            have HE := sh (show str (wholeK n (lst t) ps i) ++ u = str (wholeK n (lst t) ps (i + 1)) by
              rw [wholeK_succ, ← str_append]
              congr 1
              rw [← hu, lookP_snoc]
              by_cases e : (i : Int) = (n : Int)
              · rw [if_pos e, e, HNo.out, if_neg (by simp), if_pos rfl]
                exact (str_lst t).symm
              · rw [if_neg e]
                have : ¬ (n : Int) = (i : Int) := fun e' => e e'.symm
                cases h : lookP ps (i : Int) with
                | none => simp [this]; exact (str_lst ⟨#[]⟩).symm
                | some x => simp; exact (str_lst x).symm)
            have hsz : (str (wholeK n (lst t) ps i)).size ≤ 70000000 := by rw [size_str]; omega
            clear hu hwl
            generalize str (wholeK n (lst t) ps i) = A0 at *
            go_wp2_with fail
            go_roundw
            case rel => exact ⟨i + 1, by omega, by go_num, by rw [HE.out], by first | trivial | rfl⟩
            case measure => simp [RowKit.intOf]; omega
          · obtain rfl : i = o := by omega
            have hD := rdrop most opn a L cp id W3 HR3.out.row hlen
            unfold DropPost JV at hD
            have HD := sh hD
            clear hD hwl
            have p0 : W3.cell? ⟨N + 1, 0, none⟩ = some (.int .i64 id) := HR3.out.P.cell 0
            have j0 := HR3.out.J.cell 0
            have j1 := HR3.out.J.cell 1
            have j2 := HR3.out.J.cell 2
            go_wp2_with fail
            refine HD.out.mono ?_
            rintro e' W4 ⟨a4, c4, rfl, hc4, hr4, hb4⟩
            have HR4b := sh (HR3.out.below hb4)
            have Hr4b := sh hr4
            have HR4 := sh ((HR3.out.below hb4).below ((Below.refl _ W4).alloc (Nat.le_refl _) (.cells #[.int .i64 most, .int .i64 opn, .slice a4 (dropL L id).length c4] 46)))
            have HK4 := sh (Bk.made W4 46 #[.int .i64 most, .int .i64 opn, .slice a4 (dropL L id).length c4])
            have Hr4 := sh (hr4.below ((Below.refl _ W4).alloc (Nat.le_refl _) (.cells #[.int .i64 most, .int .i64 opn, .slice a4 (dropL L id).length c4] 46)))
            have Hc4 := sh hc4
            have hR4 := (HR3.out.below hb4).R
            have r0 := hR4.cell 0
            have r1 := hR4.cell 1
            have r2 := hR4.cell 2
            have y0 := hR4.free 0
            have y1 := hR4.free 1
            have y2 := hR4.free 2
            have hl4 := hR4.lt
            clear hr4 hc4 hb4 j0 j1 j2 p0 p2
            go_wp2_with fail
            obtain ⟨W9, hW9, e0, e1', e2', hrow, hbel⟩ := ra_back (most := most) (opn := opn) (n := (dropL L id).length) (c := c4) HR4b.out.R (show N ≤ N + 1 + 1 by omega) Hr4b.out HR4b.out.bel
            have hF := sh (And.intro (hrow.below ((Below.refl _ W9).alloc (Nat.le_refl _) (.cells #[.int .i64 most, .int .i64 opn, .slice a4 (dropL L id).length c4] 46))) (hbel.alloc (show N ≤ W9.heap.size by rw [hW9]; simp [World.setCell]; omega) (.cells #[.int .i64 most, .int .i64 opn, .slice a4 (dropL L id).length c4] 46)))
            replace e0 := cell_al e0 (.cells #[.int .i64 most, .int .i64 opn, .slice a4 (dropL L id).length c4] 46)
            replace e1' := cell_al e1' (.cells #[.int .i64 most, .int .i64 opn, .slice a4 (dropL L id).length c4] 46)
            replace e2' := cell_al e2' (.cells #[.int .i64 most, .int .i64 opn, .slice a4 (dropL L id).length c4] 46)
            rw [← hW9]
            clear hrow hbel hW9 r0 r1 r2 y0 y1 y2
            refine bodyPost_ret (v := .tuple #[JV most opn a4 (dropL L id).length c4, .string (str (wholeK n (lst t) ps i)), .bool true, .int .i64 0]) ?_ ?_ (retR_mk HA1.out Hc4.out hF.out.1 (by rw [hN]; exact hF.out.2))
            · simp [results, Try.results20, go_sem, e0, e1', e2', JV]
            · rfl
      · have be1 : ((ps.length : Int) + 1 == (o : Int)) = false := by rw [beq_eq_false_iff_ne]; omega
        have HA1 := sh (HA0.out.trans (if_neg e1))
        clear HA0 e1
        go_wp2_with fail
        clear HX HR p0 p1 p2 p3 j2 fT cT
        generalize wr.setCell ⟨T, n, none⟩ (.string t) = W3 at *
        have HI := sh (fun (W : World) (hS : W.cell? ⟨N, 0, none⟩ = some (.int .i64 most) ∧ W.cell? ⟨N, 1, none⟩ = some (.int .i64 opn) ∧ W.cell? ⟨N, 2, none⟩ = some (.slice a L.length cp) ∧ W.cell? ⟨N + 1, 3, none⟩ = some (.string t) ∧ RA w N most opn a L cp id n o t W) => rids most opn a L cp W hS.2.2.2.2.row hlen OK.out.pos)
        have HU := sh (fun (W : World) (hS : W.cell? ⟨N, 0, none⟩ = some (.int .i64 most) ∧ W.cell? ⟨N, 1, none⟩ = some (.int .i64 opn) ∧ W.cell? ⟨N, 2, none⟩ = some (.slice a L.length cp) ∧ W.cell? ⟨N + 1, 3, none⟩ = some (.string t) ∧ RA w N most opn a L cp id n o t W) => rused most opn a L cp W hS.2.2.2.2.row hlen OK.out.siz)
        have HS3 := sh (ra_cells HR3.out)
        have hsz := OK.out.siz
        by_cases e5 : ps.length = 0
        · have b5 : ((ps.length : Int) == 0) = true := by rw [beq_iff_eq]; omega
          by_cases e6 : opn ≤ (Nn : Int)
          · have HA2 := sh (HA1.out.trans (if_pos ⟨e5, e6⟩))
            clear HA1 e5 HU
            go_region_held3 (fun W => W.cell? ⟨N, 0, none⟩ = some (.int .i64 most) ∧ W.cell? ⟨N, 1, none⟩ = some (.int .i64 opn) ∧ W.cell? ⟨N, 2, none⟩ = some (.slice a L.length cp) ∧ W.cell? ⟨N + 1, 3, none⟩ = some (.string t) ∧ RA w N most opn a L cp id n o t W)
              (first | assumption | exact HS3.out | exact ra_keep (by assumption) (by assumption))
              (first | (go_at_call 21; refine (HI.out _ (by assumption)).mono ?_; rintro e' w4 ⟨v4, out, rfl, hO, hall, hown, hb4⟩; obtain ⟨a4, c4, rfl⟩ := own_len hown; have hln : (out.length : Int) = (Nn : Int) := (by rw [HNn.out out hO hall])))
            all_goals
              rename_i hH
              have HR5 := sh hH.2.2.2.2
              clear hH
              obtain ⟨W9, hW9, e0, e1', e2', hrow, hbel⟩ := HR5.out.back
              have hF := sh (And.intro hrow hbel)
              have r0 := HR5.out.R.cell 0
              have r1 := HR5.out.R.cell 1
              have r2 := HR5.out.R.cell 2
              have y0 := HR5.out.R.free 0
              have y1 := HR5.out.R.free 1
              have y2 := HR5.out.R.free 2
              have j0 := HR5.out.J.cell 0
              have j1 := HR5.out.J.cell 1
              have j2 := HR5.out.J.cell 2
              clear hrow hbel
              go_wp2_with fail
              rw [← hW9]
              clear hW9 r0 r1 r2 y0 y1 y2 j0 j1 j2
              refine bodyPost_ret (v := .tuple #[JV most opn a L.length cp, .string ⟨#[]⟩, .bool false, .int .i64 4]) ?_ ?_ (retR_mk HA2.out hcp hF.out.1 (by rw [hN]; exact hF.out.2))
              · simp [results, Try.results20, go_sem, e0, e1', e2', JV]
              · rfl
          · have HA2 := sh (HA1.out.trans (if_neg (fun h => e6 h.2)))
            clear HA1 e5
            go_region_held3 (fun W => W.cell? ⟨N, 0, none⟩ = some (.int .i64 most) ∧ W.cell? ⟨N, 1, none⟩ = some (.int .i64 opn) ∧ W.cell? ⟨N, 2, none⟩ = some (.slice a L.length cp) ∧ W.cell? ⟨N + 1, 3, none⟩ = some (.string t) ∧ RA w N most opn a L cp id n o t W)
              (first | assumption | exact HS3.out | exact ra_keep (by assumption) (by assumption))
              (first | (go_at_call 21; refine (HI.out _ (by assumption)).mono ?_; rintro e' w4 ⟨v4, out, rfl, hO, hall, hown, hb4⟩; obtain ⟨a4, c4, rfl⟩ := own_len hown; have hln : (out.length : Int) = (Nn : Int) := (by rw [HNn.out out hO hall])))
            all_goals
              rename_i hH
              have HR5 := sh hH.2.2.2.2
              clear hH
              go_wp2_with fail
              have HS5 := sh (ra_cells HR5.out)
              have hwr : IntKind.i64.wrap ((sizes L : Int) + (t.size : Int)) = (sizes L : Int) + (t.size : Int) := IntWalk.i64_in _ (by omega)
              by_cases e7 : most < ((sizes L + t.size : Nat) : Int)
              · have HA3 := sh (HA2.out.trans (if_pos e7))
                have e7' : most < (sizes L : Int) + (t.size : Int) := by omega
                clear HA2 e7 HI
                go_region_held3 (fun W => W.cell? ⟨N, 0, none⟩ = some (.int .i64 most) ∧ W.cell? ⟨N, 1, none⟩ = some (.int .i64 opn) ∧ W.cell? ⟨N, 2, none⟩ = some (.slice a L.length cp) ∧ W.cell? ⟨N + 1, 3, none⟩ = some (.string t) ∧ RA w N most opn a L cp id n o t W)
                  (first | assumption | exact HS5.out | exact ra_keep (by assumption) (by assumption))
                  (first | (go_at_call 22; refine (HU.out _ (by assumption)).mono ?_; rintro e' w5 ⟨rfl, hb5⟩))
                all_goals
                  rename_i hH
                  replace HR5 := sh hH.2.2.2.2
                  clear hH
                  obtain ⟨W9, hW9, e0, e1', e2', hrow, hbel⟩ := HR5.out.back
                  have hF := sh (And.intro hrow hbel)
                  have r0 := HR5.out.R.cell 0
                  have r1 := HR5.out.R.cell 1
                  have r2 := HR5.out.R.cell 2
                  have y0 := HR5.out.R.free 0
                  have y1 := HR5.out.R.free 1
                  have y2 := HR5.out.R.free 2
                  have j0 := HR5.out.J.cell 0
                  have j1 := HR5.out.J.cell 1
                  have j2 := HR5.out.J.cell 2
                  clear hrow hbel
                  go_wp2_with fail
                  rw [← hW9]
                  clear hW9 r0 r1 r2 y0 y1 y2 j0 j1 j2
                  refine bodyPost_ret (v := .tuple #[JV most opn a L.length cp, .string ⟨#[]⟩, .bool false, .int .i64 5]) ?_ ?_ (retR_mk HA3.out hcp hF.out.1 (by rw [hN]; exact hF.out.2))
                  · simp [results, Try.results20, go_sem, e0, e1', e2', JV]
                  · rfl
              · have HA3 := sh (HA2.out.trans (if_neg e7))
                have e7' : ¬ most < (sizes L : Int) + (t.size : Int) := by omega
                clear HA2 e7 HI
                go_region_held3 (fun W => W.cell? ⟨N, 0, none⟩ = some (.int .i64 most) ∧ W.cell? ⟨N, 1, none⟩ = some (.int .i64 opn) ∧ W.cell? ⟨N, 2, none⟩ = some (.slice a L.length cp) ∧ W.cell? ⟨N + 1, 3, none⟩ = some (.string t) ∧ RA w N most opn a L cp id n o t W)
                  (first | assumption | exact HS5.out | exact ra_keep (by assumption) (by assumption))
                  (first | (go_at_call 22; refine (HU.out _ (by assumption)).mono ?_; rintro e' w5 ⟨rfl, hb5⟩))
                all_goals
                  rename_i hH
                  replace HR5 := sh hH.2.2.2.2
                  clear hH
                  go_wp2_with fail
                  have j2 := HR5.out.J.cell 2
                  have f2 := HR5.out.J.free 2
                  have p0 := HR5.out.P.cell 0
                  have p1 := HR5.out.P.cell 1
                  have p2 := HR5.out.P.cell 2
                  have p3 := HR5.out.P.cell 3
                  have hN0 : N < w5.heap.size := HR5.out.J.lt
                  have hN1 : N + 1 < w5.heap.size := HR5.out.P.lt
                  have HL := sh hlen
                  clear HU HS5 OK HNn HNo HTX
                  go_region_law (first
                    | (refine step_first (g := w5.heap.size) rfl _ _ rfl (z1 w5) (by rfl) (by rfl) HR5.out.row HL.out ?_
                       intro a1 c1 W1 ho1 hb1 _
                       have hE1 := True.intro
                       have HR1 := sh (HR5.out.below hb1)
                       have p0 := HR1.out.P.cell 0
                       have p1 := HR1.out.P.cell 1
                       have p2 := HR1.out.P.cell 2
                       have p3 := HR1.out.P.cell 3
                       have hN1 := HR1.out.P.lt)
                    | (refine step_first (g := w5.heap.size) rfl _ _ rfl (z2 w5 _) (by rfl) (by rfl) HR5.out.row HL.out ?_
                       intro a1 c1 W1 ho1 hb1 hk1
                       have hE1 := hk1 _ _ _ (e2 w5 _) (by omega)
                       clear hk1
                       have HR1 := sh (HR5.out.below hb1))
                    | (refine step_first (g := w5.heap.size + 1) rfl _ _ rfl (z3 w5 _) (by rfl) (by rfl) HR5.out.row HL.out ?_
                       intro a1 c1 W1 ho1 hb1 hk1
                       have hE1 := hk1 _ _ _ (e3 w5 _) (by omega)
                       clear hk1
                       have HR1 := sh (HR5.out.below hb1))
                    | (refine step_second (W0 := w5) (p := (id, (n : Int), (o : Int), t)) rfl _ _ rfl (by rfl) (by rfl) HL.out (by first | exact ho1 | exact ho1.alloc _) (by first | exact hb1 | exact hb1.alloc hb1.size _) (by first | exact hE1 | exact Bk.made _ _ _) ?_
                       intro a2 c2 W2 hc2 hr2 hb2
                       have HR2 := sh (HR5.out.below hb2)
                       have j2 := HR2.out.J.cell 2
                       have f2 := HR2.out.J.free 2))
                  all_goals
                    have hJ2 := HR2.out.J
                    have hR2 := HR2.out.R
                    have j0 := hJ2.cell 0
                    have j1 := hJ2.cell 1
                    have r0 := hR2.cell 0
                    have r1 := hR2.cell 1
                    have r2 := hR2.cell 2
                    have y0 := hR2.free 0
                    have y1 := hR2.free 1
                    have y2 := hR2.free 2
                    have hl2 := hR2.lt
                    clear hJ2 hR2 HR5 hE1 ho1 hb1 HR1
                    go_wp2_with fail
                    obtain ⟨W9, hW9, q0, q1, q2, hrow, hbel⟩ := ra_fin (most := most) (opn := opn) (n := L.length + 1) (c := c2) HR2.out.J HR2.out.R (by omega) hr2 HR2.out.bel
                    rw [← hW9]
                    have hF := sh (And.intro hrow hbel)
                    clear hrow hbel hW9 r0 r1 r2 y0 y1 y2 j0 j1 j2 f2 HR2 hr2 hb2
                    refine bodyPost_ret (v := .tuple #[JV most opn a2 (L ++ [(id, (n : Int), (o : Int), t)]).length c2, .string ⟨#[]⟩, .bool false, .int .i64 0]) ?_ ?_ (retR_mk HA3.out hc2 hF.out.1 (by rw [hN]; exact hF.out.2))
                    · simp [results, Try.results20, go_sem, q0, q1, q2, JV]
                    · rfl
        · have b5 : ((ps.length : Int) == 0) = false := by rw [beq_eq_false_iff_ne]; omega
          have HA2 := sh (HA1.out.trans (if_neg (fun h => e5 h.1)))
          clear HA1 e5 HS3
          go_quiet (fail)
          all_goals
            have HR5 := sh (HR3.out.drewN nq)
            go_wp2_with fail
            have HS5 := sh (ra_cells HR5.out)
            have hwr : IntKind.i64.wrap ((sizes L : Int) + (t.size : Int)) = (sizes L : Int) + (t.size : Int) := IntWalk.i64_in _ (by omega)
            by_cases e7 : most < ((sizes L + t.size : Nat) : Int)
            · have HA3 := sh (HA2.out.trans (if_pos e7))
              have e7' : most < (sizes L : Int) + (t.size : Int) := by omega
              clear HA2 e7 HI
              go_region_held3 (fun W => W.cell? ⟨N, 0, none⟩ = some (.int .i64 most) ∧ W.cell? ⟨N, 1, none⟩ = some (.int .i64 opn) ∧ W.cell? ⟨N, 2, none⟩ = some (.slice a L.length cp) ∧ W.cell? ⟨N + 1, 3, none⟩ = some (.string t) ∧ RA w N most opn a L cp id n o t W)
                (first | assumption | exact HS5.out | exact ra_keep (by assumption) (by assumption))
                (first | (go_at_call 22; refine (HU.out _ (by assumption)).mono ?_; rintro e' w5 ⟨rfl, hb5⟩))
              all_goals
                rename_i hH
                replace HR5 := sh hH.2.2.2.2
                clear hH
                obtain ⟨W9, hW9, e0, e1', e2', hrow, hbel⟩ := HR5.out.back
                have hF := sh (And.intro hrow hbel)
                have r0 := HR5.out.R.cell 0
                have r1 := HR5.out.R.cell 1
                have r2 := HR5.out.R.cell 2
                have y0 := HR5.out.R.free 0
                have y1 := HR5.out.R.free 1
                have y2 := HR5.out.R.free 2
                have j0 := HR5.out.J.cell 0
                have j1 := HR5.out.J.cell 1
                have j2 := HR5.out.J.cell 2
                clear hrow hbel
                go_wp2_with fail
                rw [← hW9]
                clear hW9 r0 r1 r2 y0 y1 y2 j0 j1 j2
                refine bodyPost_ret (v := .tuple #[JV most opn a L.length cp, .string ⟨#[]⟩, .bool false, .int .i64 5]) ?_ ?_ (retR_mk HA3.out hcp hF.out.1 (by rw [hN]; exact hF.out.2))
                · simp [results, Try.results20, go_sem, e0, e1', e2', JV]
                · rfl
            · have HA3 := sh (HA2.out.trans (if_neg e7))
              have e7' : ¬ most < (sizes L : Int) + (t.size : Int) := by omega
              clear HA2 e7 HI
              go_region_held3 (fun W => W.cell? ⟨N, 0, none⟩ = some (.int .i64 most) ∧ W.cell? ⟨N, 1, none⟩ = some (.int .i64 opn) ∧ W.cell? ⟨N, 2, none⟩ = some (.slice a L.length cp) ∧ W.cell? ⟨N + 1, 3, none⟩ = some (.string t) ∧ RA w N most opn a L cp id n o t W)
                (first | assumption | exact HS5.out | exact ra_keep (by assumption) (by assumption))
                (first | (go_at_call 22; refine (HU.out _ (by assumption)).mono ?_; rintro e' w5 ⟨rfl, hb5⟩))
              all_goals
                rename_i hH
                replace HR5 := sh hH.2.2.2.2
                clear hH
                go_wp2_with fail
                have j2 := HR5.out.J.cell 2
                have f2 := HR5.out.J.free 2
                have p0 := HR5.out.P.cell 0
                have p1 := HR5.out.P.cell 1
                have p2 := HR5.out.P.cell 2
                have p3 := HR5.out.P.cell 3
                have hN0 : N < w5.heap.size := HR5.out.J.lt
                have hN1 : N + 1 < w5.heap.size := HR5.out.P.lt
                have HL := sh hlen
                clear HU HS5 OK HNn HNo HTX
                go_region_law (first
                  | (refine step_first (g := w5.heap.size) rfl _ _ rfl (z1 w5) (by rfl) (by rfl) HR5.out.row HL.out ?_
                     intro a1 c1 W1 ho1 hb1 _
                     have hE1 := True.intro
                     have HR1 := sh (HR5.out.below hb1)
                     have p0 := HR1.out.P.cell 0
                     have p1 := HR1.out.P.cell 1
                     have p2 := HR1.out.P.cell 2
                     have p3 := HR1.out.P.cell 3
                     have hN1 := HR1.out.P.lt)
                  | (refine step_first (g := w5.heap.size) rfl _ _ rfl (z2 w5 _) (by rfl) (by rfl) HR5.out.row HL.out ?_
                     intro a1 c1 W1 ho1 hb1 hk1
                     have hE1 := hk1 _ _ _ (e2 w5 _) (by omega)
                     clear hk1
                     have HR1 := sh (HR5.out.below hb1))
                  | (refine step_first (g := w5.heap.size + 1) rfl _ _ rfl (z3 w5 _) (by rfl) (by rfl) HR5.out.row HL.out ?_
                     intro a1 c1 W1 ho1 hb1 hk1
                     have hE1 := hk1 _ _ _ (e3 w5 _) (by omega)
                     clear hk1
                     have HR1 := sh (HR5.out.below hb1))
                  | (refine step_second (W0 := w5) (p := (id, (n : Int), (o : Int), t)) rfl _ _ rfl (by rfl) (by rfl) HL.out (by first | exact ho1 | exact ho1.alloc _) (by first | exact hb1 | exact hb1.alloc hb1.size _) (by first | exact hE1 | exact Bk.made _ _ _) ?_
                     intro a2 c2 W2 hc2 hr2 hb2
                     have HR2 := sh (HR5.out.below hb2)
                     have j2 := HR2.out.J.cell 2
                     have f2 := HR2.out.J.free 2))
                all_goals
                  have hJ2 := HR2.out.J
                  have hR2 := HR2.out.R
                  have j0 := hJ2.cell 0
                  have j1 := hJ2.cell 1
                  have r0 := hR2.cell 0
                  have r1 := hR2.cell 1
                  have r2 := hR2.cell 2
                  have y0 := hR2.free 0
                  have y1 := hR2.free 1
                  have y2 := hR2.free 2
                  have hl2 := hR2.lt
                  clear hJ2 hR2 HR5 hE1 ho1 hb1 HR1
                  go_wp2_with fail
                  obtain ⟨W9, hW9, q0, q1, q2, hrow, hbel⟩ := ra_fin (most := most) (opn := opn) (n := L.length + 1) (c := c2) HR2.out.J HR2.out.R (by omega) hr2 HR2.out.bel
                  rw [← hW9]
                  have hF := sh (And.intro hrow hbel)
                  clear hrow hbel hW9 r0 r1 r2 y0 y1 y2 j0 j1 j2 f2 HR2 hr2 hb2
                  refine bodyPost_ret (v := .tuple #[JV most opn a2 (L ++ [(id, (n : Int), (o : Int), t)]).length c2, .string ⟨#[]⟩, .bool false, .int .i64 0]) ?_ ?_ (retR_mk HA3.out hc2 hF.out.1 (by rw [hN]; exact hF.out.2))
                  · simp [results, Try.results20, go_sem, q0, q1, q2, JV]
                  · rfl
end Go.Proofs.Ytoclbcpfiacoaaa
