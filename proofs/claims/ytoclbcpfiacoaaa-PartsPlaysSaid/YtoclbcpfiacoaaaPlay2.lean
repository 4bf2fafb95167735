/- PartsPlays: both joiners, act for act: what holds between. -/
import Derived.Test.YtoclbcpfiacoaaaPlay1
namespace Go.Proofs.Ytoclbcpfiacoaaa
set_option linter.unusedVariables false
set_option linter.unusedSimpArgs false
open Go.RowKit

theorem Bk.kp {w w' : World} {b : Nat} {t : TypeId} {cs : Array Value} (h : Bk w b t cs) (hk : Kp w w') (h1 : t ≠ 86) (h2 : t ≠ 92) : Bk w' b t cs := hk _ _ h (by
  rintro (⟨es, c, e⟩ | ⟨cs', t', f, e, ht⟩)
  · cases e
  · cases e; exact ht.elim h1 h2)
/-- what holds ahead of each act: B: the heap's size when the joiner was made; N: the reference joiner's box -/
structure PlS (B N : Nat) (most opn : Int) (A : List AB) (a : Option Addr) (L : List PT) (cp k : Nat) (W : World) : Prop where
  jn : Jn W B (B + 1) B most opn A
  ok : AOk most opn A
  rel : Rel A L
  box : Bk W N 46 #[.int .i64 most, .int .i64 opn, .slice a L.length cp]
  row : RowL W a L
  hcp : L.length ≤ cp
  len : L.length ≤ k
  siz : sizes L ≤ 300 * k
section
variable {B N : Nat} {most opn : Int} {A : List AB} {a : Option Addr} {L : List PT} {cp k : Nat} {W W' : World}
theorem PlS.below (h : PlS B N most opn A a L cp k W) (hb : Below W.heap.size W W') : PlS B N most opn A a L cp k W' :=
  ⟨h.jn.below hb, h.ok, h.rel, h.box.below hb h.box.lt, h.row.below hb, h.hcp, h.len, h.siz⟩
theorem PlS.drewN (h : PlS B N most opn A a L cp k W) (n : Nat) : PlS B N most opn A a L cp k (W.drewN n) := h.below (below_drewN (Below.refl _ _) n)
end
theorem plS_start (W : World) (most opn : Int) (h1 : 0 ≤ most ∧ most ≤ 1073741824) (h2 : 1 ≤ opn ∧ opn ≤ 32) :
    PlS W.heap.size (W.heap.size + 1 + 1) most opn [] none [] 0 0 (((W.alloc (.map #[] 0)).alloc (.cells #[.int .i64 most, .int .i64 opn, .int .i64 0, .map (some W.heap.size)] 86)).alloc (.cells #[.int .i64 most, .int .i64 opn, .slice none 0 0] 46)) := by
  have hj := jn_new most opn W W.heap.size (Nat.le_refl _)
  have hb := Bk.made ((W.alloc (.map #[] 0)).alloc (.cells #[.int .i64 most, .int .i64 opn, .int .i64 0, .map (some W.heap.size)] 86)) 46 #[.int .i64 most, .int .i64 opn, .slice none 0 0]
  rw [World.size_alloc, World.size_alloc] at hb
  exact ⟨hj.below ((Below.refl _ _).alloc (Nat.le_refl _) _), aok_nil h1 h2, rel_nil, hb, .inl rfl, Nat.le_refl _, Nat.le_refl _, Nat.le_refl _⟩
/-- what Add of the reference makes of its parts -/
def addR (most opn : Int) (N : Nat) (L : List PT) (id n of : Int) (t : ByteArray) : List PT × ByteArray × Bool × Int := if MayP id n of t then addRL most opn N L id n.toNat of.toNat t else (L, ⟨#[]⟩, false, 1)
theorem addR_len (most opn : Int) (N : Nat) (L : List PT) (id n of : Int) (t : ByteArray) : (addR most opn N L id n of t).1.length ≤ L.length + 1 ∧ sizes (addR most opn N L id n of t).1 ≤ sizes L + t.size := by
  unfold addR addRL
  split
  · split
    · simp
    · split
      · have h1 := dropL_len L id
        have h2 := sizes_drop id L
        simp only
        omega
      · split
        · simp
        · split
          · simp
          · simp only [sizes_snoc, List.length_append, List.length_singleton]; omega
  · simp
theorem rel_addR {most opn : Int} {A : List AB} {L : List PT} (h : Rel A L) (ok : AOk most opn A) (id n of : Int) (t : ByteArray) :
    (addB most opn A id n of t).2 = (addR most opn A.length L id n of t).2 ∧ Rel (addB most opn A id n of t).1 (addR most opn A.length L id n of t).1 := by
  unfold addR
  by_cases hm : MayP id n of t
  · rw [if_pos hm]
    obtain ⟨n', rfl⟩ := Int.eq_ofNat_of_zero_le hm.2.2.2.2.1
    obtain ⟨o', rfl⟩ := Int.eq_ofNat_of_zero_le (show 0 ≤ of by have := hm.2.2.1; omega)
    exact h.add ok id n' o' t hm
  · rw [if_neg hm]
    unfold addB
    rw [if_neg hm]
    exact ⟨rfl, h⟩
def AddRPost (w : World) (most opn : Int) (L' : List PT) (r : List AB × ByteArray × Bool × Int) (e : Ending) (w' : World) : Prop :=
  ∃ a cp, e = .returned (.tuple #[.agg #[.int .i64 most, .int .i64 opn, .slice a L'.length cp], .string r.2.1, .bool r.2.2.1, .int .i64 r.2.2.2]) ∧ L'.length ≤ cp ∧ RowL w' a L' ∧ Below w.heap.size w w'
theorem radd_any {most opn : Int} {A : List AB} {a : Option Addr} {L : List PT} {cp : Nat} (rel : Rel A L) (ok : AOk most opn A) (hcp : L.length ≤ cp) (hlen : L.length ≤ 1000) (hsz : sizes L ≤ 1000000) (id n of : Int) (t : ByteArray) (w : World) (hrow : RowL w a L) :
    Calls Try.prog 20 #[.agg #[.int .i64 most, .int .i64 opn, .slice a L.length cp], .agg #[.int .i64 id, .int .i64 n, .int .i64 of, .string t]] w (AddRPost w most opn (addR most opn A.length L id n of t).1 (addB most opn A id n of t)) := by
  have hr := (rel_addR rel ok id n of t).1
  have key : Calls Try.prog 20 #[.agg #[.int .i64 most, .int .i64 opn, .slice a L.length cp], .agg #[.int .i64 id, .int .i64 n, .int .i64 of, .string t]] w (RetR w most opn (addR most opn A.length L id n of t)) := by
    unfold addR
    by_cases hm : MayP id n of t
    · rw [if_pos hm]
      obtain ⟨n', rfl⟩ := Int.eq_ofNat_of_zero_le hm.2.2.2.2.1
      obtain ⟨o', rfl⟩ := Int.eq_ofNat_of_zero_le (show 0 ≤ of by have := hm.2.2.1; omega)
      exact radd_loop most opn a L cp id n' o' t w hrow hcp (rel.lok ok hlen hsz id) hm A.length fun out ho hall => rel.outs_len ok ho hall
    · rw [if_neg hm]
      exact radd_bad most opn a L cp id n of t w hrow hcp hm
  refine key.mono fun e w' ⟨a', cp', h1, h2, h3, h4⟩ => ⟨a', cp', ?_, h2, h3, h4⟩
  rw [h1, hr]
  rfl
/-- Drop of the reference: it says the same -/
def DropRPost (w : World) (most opn : Int) (L' : List PT) (b : Bool) (e : Ending) (w' : World) : Prop :=
  ∃ a cp, e = .returned (.tuple #[.agg #[.int .i64 most, .int .i64 opn, .slice a L'.length cp], .bool b]) ∧ L'.length ≤ cp ∧ RowL w' a L' ∧ Below w.heap.size w w'
theorem rdrop_any {most opn : Int} {A : List AB} {a : Option Addr} {L : List PT} {cp : Nat} (rel : Rel A L) (ok : AOk most opn A) (hlen : L.length ≤ 1000) (id : Int) (w : World) (hrow : RowL w a L) :
    Calls Try.prog 18 #[.agg #[.int .i64 most, .int .i64 opn, .slice a L.length cp], .int .i64 id] w (DropRPost w most opn (dropL L id) (findA A id).isSome) := by
  rw [rel.found ok id]
  exact (rdrop most opn a L cp id w hrow hlen).mono fun e w' h => h
theorem JnV.setBox {w : World} {B g m : Nat} {most opn u : Int} {S : List BD} (h : JnV w B g m most opn u S) {p : Addr} {t : TypeId} {cs : Array Value} (hb : Bk w p.block t cs) (h1 : t ≠ 86) (h2 : t ≠ 92) (v : Value) : JnV (w.setCell p v) B g m most opn u S := by
  have hg : w.grownBy (w.setCell p v) (some p.block) := only_set (only_refl w _) rfl v
  have hm := h.joiM
  obtain ⟨D, ho, ha, hs⟩ := h.map
  refine ⟨h.gB, h.mB, h.gb.far (h.gb.ne hb h1.symm) v, ⟨D, ho.kept hg ?_, ha, hs⟩, fun b hb' => (h.bds b hb').grown hg ?_ ?_, h.nd, h.mm⟩
  · obtain ⟨es, c, hmm, _⟩ := ho
    intro e
    exact hb.ne_map hmm (Option.some.inj e).symm
  · intro e
    exact (h.bds b hb').bk.ne hb h2.symm (Option.some.inj e)
  · obtain ⟨D', ⟨es, c, hmm, _⟩, _⟩ := (h.bds b hb').mp
    intro e
    exact hb.ne_map hmm (Option.some.inj e).symm
theorem Jn.set {w : World} {B g m : Nat} {most opn : Int} {A : List AB} (h : Jn w B g m most opn A) {p : Addr} {t : TypeId} {cs : Array Value} (hb : Bk w p.block t cs) (h1 : t ≠ 86) (h2 : t ≠ 92) (v : Value) : Jn (w.setCell p v) B g m most opn A := by
  obtain ⟨S, rfl, h⟩ := h
  exact ⟨S, rfl, JnV.setBox h hb h1 h2 v⟩
/-- the reference's box is stored anew -/
theorem box_store {W : World} {B N : Nat} {most opn : Int} {A : List AB} {x0 x1 x2 : Value} (hj : Jn W B (B + 1) B most opn A) (hb : Bk W N 46 #[x0, x1, x2]) (hN : B ≤ N) {a' : Option Addr} {L' : List PT} {cp' : Nat} (hr : RowL W a' L') :
    ∃ W', W' = ((W.setCell ⟨N, 0, none⟩ (.int .i64 most)).setCell ⟨N, 1, none⟩ (.int .i64 opn)).setCell ⟨N, 2, none⟩ (.slice a' L'.length cp') ∧
      Jn W' B (B + 1) B most opn A ∧ Bk W' N 46 #[.int .i64 most, .int .i64 opn, .slice a' L'.length cp'] ∧ RowL W' a' L' ∧ Below B W W' ∧ ∀ b t cs, Bk W b t cs → t ≠ 46 → Bk W' b t cs := by
  have h1 := hb.put 0 (.int .i64 most)
  have h2 := h1.put 1 (.int .i64 opn)
  have h3 := h2.put 2 (.slice a' L'.length cp')
  refine ⟨_, rfl, ((hj.set (p := ⟨N, 0, none⟩) hb (by decide) (by decide) _).set (p := ⟨N, 1, none⟩) h1 (by decide) (by decide) _).set (p := ⟨N, 2, none⟩) h2 (by decide) (by decide) _, h3, ((hr.set (p := ⟨N, 0, none⟩) hb (by decide) _).set (p := ⟨N, 1, none⟩) h1 (by decide) _).set (p := ⟨N, 2, none⟩) h2 (by decide) _,
    (((Below.refl B W).setCell (p := ⟨N, 0, none⟩) hN _).setCell (p := ⟨N, 1, none⟩) hN _).setCell (p := ⟨N, 2, none⟩) hN _, fun b t cs hk ht => ?_⟩
  have hne : b ≠ N := hk.ne hb ht
  exact ((hk.far (p := ⟨N, 0, none⟩) hne _).far (p := ⟨N, 1, none⟩) hne _).far (p := ⟨N, 2, none⟩) hne _
section
variable {B N : Nat} {most opn : Int} {A : List AB} {a : Option Addr} {L : List PT} {cp k : Nat} {W W1 W2 : World}
/-- behind an act: the joiner's own memory, then the reference's box -/
theorem PlS.next (h : PlS B N most opn A a L cp k W) {A' : List AB} {L' : List PT} {a' : Option Addr} {cp' k' : Nat} (hj : Jn W2 B (B + 1) B most opn A') (ok : AOk most opn A') (rel : Rel A' L')
    (hb : Bk W2 N 46 #[.int .i64 most, .int .i64 opn, .slice a' L'.length cp']) (hr : RowL W2 a' L') (hc : L'.length ≤ cp') (hl : L'.length ≤ k') (hs : sizes L' ≤ 300 * k') : PlS B N most opn A' a' L' cp' k' W2 := ⟨hj, ok, rel, hb, hr, hc, hl, hs⟩
end
/-- a row of numbers that lies in memory -/
def RowI (W : World) (a : Option Addr) (xs : List Int) : Prop := xs = [] ∨ ∃ g, a = some ⟨g, 0, none⟩ ∧ g < W.heap.size ∧ ∀ i x, xs[i]? = some x → W.cell? ⟨g, i, none⟩ = some (.int .i64 x)
theorem RowI.below {W W' : World} {a : Option Addr} {xs : List Int} (h : RowI W a xs) (hb : Below W.heap.size W W') : RowI W' a xs := by
  rcases h with h | ⟨g, h1, h2, h3⟩
  · exact .inl h
  · exact .inr ⟨g, h1, Nat.lt_of_lt_of_le h2 hb.size, fun i x hi => (World.cell?_of_block (hb.block _ h2)).trans (h3 i x hi)⟩
theorem RowI.at_ {W : World} {a : Option Addr} {xs : List Int} (h : RowI W a xs) {i : Nat} {x : Int} (hi : xs[i]? = some x) : ∃ g, a = some ⟨g, 0, none⟩ ∧ W.cell? ⟨g, i, none⟩ = some (.int .i64 x) := by
  rcases h with h | ⟨g, h1, h2, h3⟩
  · subst h; cases hi
  · exact ⟨g, h1, h3 i x hi⟩
theorem rowI_of {W : World} {B n : Nat} {v : Value} {xs : List Int} (h : W.ownsRow B 3 1 v n (xs.map (Value.int .i64))) : ∃ a c, v = .slice a n c ∧ RowI W a xs := by
  obtain ⟨a, c, rfl⟩ := own_len h
  refine ⟨a, c, rfl, ?_⟩
  rcases h.2 with ⟨_, h0⟩ | ⟨g, cap, cur, e, hB, hb, _⟩
  · left
    have := h.1
    rw [List.length_map] at this
    exact List.eq_nil_of_length_eq_zero (by omega)
  · simp only [Value.slice.injEq] at e
    obtain ⟨rfl, _, _⟩ := e
    refine .inr ⟨g, rfl, bk_lt' hb, fun i x hi => ?_⟩
    have := h.cells (g := g) rfl i (.int .i64 x) (by rw [List.getElem?_map, hi]; rfl)
    rwa [addr_add] at this
/-- what the end of a round reads: both rows of numbers -/
structure PlE (B N : Nat) (most opn : Int) (A : List AB) (a : Option Addr) (L : List PT) (cp k : Nat) (w2 : World) (xa xb : Option Addr) (W : World) : Prop where
  s : PlS B N most opn A a L cp k W
  ra : RowI W xa (idsA A)
  rb : RowI W xb (idsA A)
  bel : Below B w2 W
theorem PlE.below {B N : Nat} {most opn : Int} {A : List AB} {a : Option Addr} {L : List PT} {cp k : Nat} {w2 W W' : World} {xa xb : Option Addr} (h : PlE B N most opn A a L cp k w2 xa xb W) (hb : Below W.heap.size W W') : PlE B N most opn A a L cp k w2 xa xb W' := by
  obtain ⟨S, _, hj⟩ := h.s.jn
  have hB := hj.gB
  have hl := hj.gb.lt
  exact ⟨h.s.below hb, h.ra.below hb, h.rb.below hb, h.bel.trans (hb.mono (by omega))⟩
theorem ple_keep {B N : Nat} {most opn : Int} {A : List AB} {a : Option Addr} {L : List PT} {cp k : Nat} {w2 W W' : World} {xa xb : Option Addr}
    (h : W.cell? ⟨N, 0, none⟩ = some (.int .i64 most) ∧ W.cell? ⟨N, 1, none⟩ = some (.int .i64 opn) ∧ W.cell? ⟨N, 2, none⟩ = some (.slice a L.length cp) ∧ PlE B N most opn A a L cp k w2 xa xb W) (hb : Below W.heap.size W W') :
    W'.cell? ⟨N, 0, none⟩ = some (.int .i64 most) ∧ W'.cell? ⟨N, 1, none⟩ = some (.int .i64 opn) ∧ W'.cell? ⟨N, 2, none⟩ = some (.slice a L.length cp) ∧ PlE B N most opn A a L cp k w2 xa xb W' := by
  have h' := h.2.2.2.below hb
  exact ⟨h'.s.box.cell 0, h'.s.box.cell 1, h'.s.box.cell 2, h'⟩
theorem ple_cells {B N : Nat} {most opn : Int} {A : List AB} {a : Option Addr} {L : List PT} {cp k : Nat} {w2 W : World} {xa xb : Option Addr} (h : PlE B N most opn A a L cp k w2 xa xb W) :
    W.drew.cell? ⟨N, 0, none⟩ = some (.int .i64 most) ∧ W.drew.cell? ⟨N, 1, none⟩ = some (.int .i64 opn) ∧ W.drew.cell? ⟨N, 2, none⟩ = some (.slice a L.length cp) ∧ PlE B N most opn A a L cp k w2 xa xb W.drew := by
  have h' := h.below (below_drewN (Below.refl _ _) 1)
  exact ⟨h'.s.box.cell 0, h'.s.box.cell 1, h'.s.box.cell 2, h'⟩
/-- the two calls that tell which bodies are open -/
theorem open_pl {B N : Nat} {most opn : Int} {A : List AB} {a : Option Addr} {L : List PT} {cp k : Nat} {W : World} (h : PlS B N most opn A a L cp k W) :
    Calls Try.prog 15 #[.pointer (some ⟨B + 1, 0, none⟩)] W fun e w' => ∃ xa ca, e = .returned (.slice xa A.length ca) ∧ RowI w' xa (idsA A) ∧ Below W.heap.size W w' :=
  (open_any h.jn (by have := h.ok.len; have := h.ok.o0; omega)).mono fun e w' ⟨v, h1, h2, h3⟩ => by
    obtain ⟨a, c, rfl, hr⟩ := rowI_of h2
    exact ⟨a, c, h1, hr, h3⟩
theorem ids_pl {B N : Nat} {most opn : Int} {A : List AB} {a : Option Addr} {L : List PT} {cp k : Nat} {W : World} (h : PlS B N most opn A a L cp k W) (hk : k ≤ 1000) :
    Calls Try.prog 21 #[.agg #[.int .i64 most, .int .i64 opn, .slice a L.length cp]] W fun e w' => ∃ xb cb, e = .returned (.slice xb A.length cb) ∧ RowI w' xb (idsA A) ∧ Below W.heap.size W w' := by
  have hlen : L.length ≤ 1000 := Nat.le_trans h.len hk
  have hsz : sizes L ≤ 1000000 := by have := h.siz; omega
  refine (rids most opn a L cp W h.row hlen (h.rel.lok h.ok hlen hsz 0).pos).mono fun e w' ⟨v, out, h1, hO, hall, h2, h3⟩ => ?_
  obtain ⟨a', c', rfl, hr⟩ := rowI_of h2
  have e1 := h.rel.outs_len h.ok hO hall
  have e2 := h.rel.outs_ids h.ok hO hall
  rw [e2] at hr
  rw [e1] at h1
  exact ⟨a', c', h1, hr, h3⟩
theorem used_pl {B N : Nat} {most opn : Int} {A : List AB} {a : Option Addr} {L : List PT} {cp k : Nat} {W : World} (h : PlS B N most opn A a L cp k W) (hk : k ≤ 1000) :
    Calls Try.prog 22 #[.agg #[.int .i64 most, .int .i64 opn, .slice a L.length cp]] W fun e w' => e = .returned (.int .i64 (usedA A : Nat)) ∧ Below W.heap.size W w' := by
  rw [h.rel.use]
  exact rused most opn a L cp W h.row (Nat.le_trans h.len hk) (by have := h.siz; omega)
end Go.Proofs.Ytoclbcpfiacoaaa
