/- ScorePlays: both boards, act for act: what holds between. -/
import Derived.Test.YtckdahojhdbpjaaDoorPly1
namespace Go.Proofs.YtckdahojhdbpjaaDoor
set_option linter.unusedVariables false
set_option linter.unusedSimpArgs false
open Go.RowKit

theorem Brd.set {w : World} {B g m n : Nat} {lim hal ban : Int} {L : LA} (h : Brd w B g m n lim hal ban L) {p : Addr} {t : TypeId} {cs : Array Value} (hb : Bk w p.block t cs) (h1 : t ≠ 59) (h2 : t ≠ 64) (v : Value) : Brd (w.setCell p v) B g m n lim hal ban L := by
  obtain ⟨S, rfl, h⟩ := h
  have hg : w.grownBy (w.setCell p v) (some p.block) := only_set (only_refl w _) rfl v
  obtain ⟨D, ho, ha⟩ := h.map
  refine ⟨S, rfl, h.gB, h.mB, h.gb.far (h.gb.ne hb h1.symm) v, ⟨D, ho.kept hg ?_, ha⟩, fun b hb' => ?_, h.nd⟩
  · obtain ⟨es, c, hmm, _⟩ := ho
    intro e
    exact hb.ne_map hmm (Option.some.inj e).symm
  · obtain ⟨q1, q2, q3⟩ := h.prs b hb'
    exact ⟨q1, q2.far (q2.ne hb h2.symm) v, q3⟩
theorem Brd.mono {w : World} {B g m n n' : Nat} {lim hal ban : Int} {L : LA} (h : Brd w B g m n lim hal ban L) (hn : n ≤ n') : Brd w B g m n' lim hal ban L := by
  obtain ⟨S, rfl, h⟩ := h
  obtain ⟨D, ho, ha⟩ := h.map
  exact ⟨S, rfl, h.gB, h.mB, h.gb, ⟨D, ho.mono hn, ha⟩, h.prs, h.nd⟩
theorem Brd.lt {w : World} {B g m n : Nat} {lim hal ban : Int} {L : LA} (h : Brd w B g m n lim hal ban L) : B ≤ w.heap.size := by
  obtain ⟨S, rfl, h⟩ := h
  have := h.gB
  have := h.gb.lt
  omega
/-- the limits -/
structure Lm (lim hal ban : Int) : Prop where
  l1 : 1 ≤ lim
  l2 : lim ≤ 1000000
  h1 : 1 ≤ hal
  h2 : hal ≤ 1099511627776
  b1 : 1 ≤ ban
  b2 : ban ≤ 1099511627776
theorem lm_of {lim hal ban : Int} (h : rightB lim hal ban = true) : Lm lim hal ban := by
  have h' : 1 ≤ lim ∧ lim ≤ 1000000 ∧ 1 ≤ hal ∧ hal ≤ 1099511627776 ∧ 1 ≤ ban ∧ ban ≤ 1099511627776 := of_decide_eq_true h
  exact ⟨h'.1, h'.2.1, h'.2.2.1, h'.2.2.2.1, h'.2.2.2.2.1, h'.2.2.2.2.2⟩
/-- what holds ahead of each act: B: the heap's size when the board was made; N: the reference's board -/
structure PlS (B N : Nat) (lim hal ban : Int) (L : LA) (a : Option Addr) (cp k : Nat) (W : World) : Prop where
  bd : Brd W B (B + 1) B k lim hal ban L
  tab : Tab W
  box : Bk W N 43 #[.int .i64 lim, .int .i64 hal, .int .i64 ban, .slice a L.length cp]
  row : RowP W a L
  hcp : L.length ≤ cp
  len : L.length ≤ k
  b0 : 0 < B
section
variable {B N : Nat} {lim hal ban : Int} {L : LA} {a : Option Addr} {cp k : Nat} {W W' : World}
theorem PlS.below (h : PlS B N lim hal ban L a cp k W) (hb : Below W.heap.size W W') : PlS B N lim hal ban L a cp k W' :=
  ⟨h.bd.below hb, h.tab.below hb (by have := h.b0; have := h.bd.lt; omega), h.box.below hb h.box.lt, h.row.below hb, h.hcp, h.len, h.b0⟩
theorem PlS.drewN (h : PlS B N lim hal ban L a cp k W) (n : Nat) : PlS B N lim hal ban L a cp k (W.drewN n) := h.below (below_drewN (Below.refl _ _) n)
end
/-- what holds behind an act: Y: what the reference's board is to be; Q: the act -/
structure PlM (B N Y Q : Nat) (lim hal ban : Int) (L : LA) (a : Option Addr) (cp k : Nat) (kd : Int) (pr : ByteArray) (nw er : Int) (w2 W : World) : Prop where
  bd : Brd W B (B + 1) B k lim hal ban L
  tab : Tab W
  nbox : ∃ (x0 x1 x2 : Int) (a0 : Option Addr) (n0 c0 : Nat), Bk W N 43 #[.int .i64 x0, .int .i64 x1, .int .i64 x2, .slice a0 n0 c0]
  ybox : Bk W Y 43 #[.int .i64 lim, .int .i64 hal, .int .i64 ban, .slice a L.length cp]
  row : RowP W a L
  qbox : Bk W Q 45 #[.int .u8 kd, .string pr, .int .i64 nw, .int .i64 er]
  hcp : L.length ≤ cp
  len : L.length ≤ k
  b0 : 0 < B
  nB : B ≤ N
  yB : B ≤ Y
  bel : Below B w2 W
section
variable {B N Y Q : Nat} {lim hal ban : Int} {L : LA} {a : Option Addr} {cp k : Nat} {kd : Int} {pr : ByteArray} {nw er : Int} {w2 W W' : World}
theorem PlM.below (h : PlM B N Y Q lim hal ban L a cp k kd pr nw er w2 W) (hb : Below W.heap.size W W') : PlM B N Y Q lim hal ban L a cp k kd pr nw er w2 W' := by
  obtain ⟨x0, x1, x2, a0, n0, c0, hn⟩ := h.nbox
  exact ⟨h.bd.below hb, h.tab.below hb (by have := h.b0; have := h.bd.lt; omega), ⟨x0, x1, x2, a0, n0, c0, hn.below hb hn.lt⟩, h.ybox.below hb h.ybox.lt, h.row.below hb, h.qbox.below hb h.qbox.lt, h.hcp, h.len, h.b0, h.nB, h.yB, h.bel.trans (hb.mono h.bd.lt)⟩
theorem PlM.drewN (h : PlM B N Y Q lim hal ban L a cp k kd pr nw er w2 W) (n : Nat) : PlM B N Y Q lim hal ban L a cp k kd pr nw er w2 (W.drewN n) := h.below (below_drewN (Below.refl _ _) n)
/-- behind the code's own act: the reference's act is still to come -/
theorem PlM.acted (h : PlM B N Y Q lim hal ban L a cp k kd pr nw er w2 W) (hb : Below B W W') (hk : Kp W W') : Tab W' ∧ RowP W' a L ∧ Bk W' Q 45 #[.int .u8 kd, .string pr, .int .i64 nw, .int .i64 er] ∧ Bk W' Y 43 #[.int .i64 lim, .int .i64 hal, .int .i64 ban, .slice a L.length cp] ∧ (∃ (x0 x1 x2 : Int) (a0 : Option Addr) (n0 c0 : Nat), Bk W' N 43 #[.int .i64 x0, .int .i64 x1, .int .i64 x2, .slice a0 n0 c0]) ∧ Below B w2 W' := by
  obtain ⟨x0, x1, x2, a0, n0, c0, hn⟩ := h.nbox
  exact ⟨h.tab.below hb h.b0, h.row.kp hk, h.qbox.kp hk (by decide), h.ybox.kp hk (by decide), ⟨x0, x1, x2, a0, n0, c0, hn.kp hk (by decide)⟩, h.bel.trans hb⟩
/-- the reference's board is stored -/
theorem PlM.stored (h : PlM B N Y Q lim hal ban L a cp k kd pr nw er w2 W) :
    PlS B N lim hal ban L a cp k ((((W.setCell ⟨N, 0, none⟩ (.int .i64 lim)).setCell ⟨N, 1, none⟩ (.int .i64 hal)).setCell ⟨N, 2, none⟩ (.int .i64 ban)).setCell ⟨N, 3, none⟩ (.slice a L.length cp)) ∧
    Bk ((((W.setCell ⟨N, 0, none⟩ (.int .i64 lim)).setCell ⟨N, 1, none⟩ (.int .i64 hal)).setCell ⟨N, 2, none⟩ (.int .i64 ban)).setCell ⟨N, 3, none⟩ (.slice a L.length cp)) Q 45 #[.int .u8 kd, .string pr, .int .i64 nw, .int .i64 er] ∧
    Below B w2 ((((W.setCell ⟨N, 0, none⟩ (.int .i64 lim)).setCell ⟨N, 1, none⟩ (.int .i64 hal)).setCell ⟨N, 2, none⟩ (.int .i64 ban)).setCell ⟨N, 3, none⟩ (.slice a L.length cp)) := by
  obtain ⟨x0, x1, x2, a0, n0, c0, hn⟩ := h.nbox
  obtain ⟨s1, s2, s3⟩ := res_store lim hal ban L.length cp hn h.row
  have h1 := hn.put 0 (.int .i64 lim)
  have h2 := h1.put 1 (.int .i64 hal)
  have h3 := h2.put 2 (.int .i64 ban)
  have hq : Q ≠ N := h.qbox.ne hn (by decide)
  refine ⟨⟨(((h.bd.set (p := ⟨N, 0, none⟩) hn (by decide) (by decide) _).set (p := ⟨N, 1, none⟩) h1 (by decide) (by decide) _).set (p := ⟨N, 2, none⟩) h2 (by decide) (by decide) _).set (p := ⟨N, 3, none⟩) h3 (by decide) (by decide) _,
    h.tab.below (s3 (w := W) (B := B) h.nB (Below.refl B W)) h.b0, s1, s2, h.hcp, h.len, h.b0⟩, ?_, s3 h.nB h.bel⟩
  exact (((h.qbox.far (p := ⟨N, 0, none⟩) hq _).far (p := ⟨N, 1, none⟩) hq _).far (p := ⟨N, 2, none⟩) hq _).far (p := ⟨N, 3, none⟩) hq _
end
theorem plM_new {B N Y Q : Nat} {lim hal ban : Int} {L : LA} {a : Option Addr} {cp k : Nat} {kd : Int} {pr : ByteArray} {nw er : Int} {w2 W : World}
    (hbd : Brd W B (B + 1) B k lim hal ban L) (htab : Tab W) (hn : ∃ (x0 x1 x2 : Int) (a0 : Option Addr) (n0 c0 : Nat), Bk W N 43 #[.int .i64 x0, .int .i64 x1, .int .i64 x2, .slice a0 n0 c0]) {y0 y1 y2 : Value} {y3 : Value} (hy : Bk W Y 43 #[y0, y1, y2, y3]) (hr : RowP W a L)
    (hq : Bk W Q 45 #[.int .u8 kd, .string pr, .int .i64 nw, .int .i64 er]) (hc : L.length ≤ cp) (hl : L.length ≤ k) (b0 : 0 < B) (nB : B ≤ N) (yB : B ≤ Y) (nY : N ≠ Y) (hb : Below B w2 W) :
    PlM B N Y Q lim hal ban L a cp k kd pr nw er w2 ((((W.setCell ⟨Y, 0, none⟩ (.int .i64 lim)).setCell ⟨Y, 1, none⟩ (.int .i64 hal)).setCell ⟨Y, 2, none⟩ (.int .i64 ban)).setCell ⟨Y, 3, none⟩ (.slice a L.length cp)) := by
  obtain ⟨s1, s2, s3⟩ := res_store lim hal ban L.length cp hy hr
  obtain ⟨x0, x1, x2, a0, n0, c0, hn⟩ := hn
  have h1 := hy.put 0 (.int .i64 lim)
  have h2 := h1.put 1 (.int .i64 hal)
  have h3 := h2.put 2 (.int .i64 ban)
  have hqY : Q ≠ Y := hq.ne hy (by decide)
  exact ⟨(((hbd.set (p := ⟨Y, 0, none⟩) hy (by decide) (by decide) _).set (p := ⟨Y, 1, none⟩) h1 (by decide) (by decide) _).set (p := ⟨Y, 2, none⟩) h2 (by decide) (by decide) _).set (p := ⟨Y, 3, none⟩) h3 (by decide) (by decide) _,
    htab.below (s3 (w := W) (B := B) yB (Below.refl B W)) b0, ⟨x0, x1, x2, a0, n0, c0, (((hn.far (p := ⟨Y, 0, none⟩) nY _).far (p := ⟨Y, 1, none⟩) nY _).far (p := ⟨Y, 2, none⟩) nY _).far (p := ⟨Y, 3, none⟩) nY _⟩, s1, s2,
    (((hq.far (p := ⟨Y, 0, none⟩) hqY _).far (p := ⟨Y, 1, none⟩) hqY _).far (p := ⟨Y, 2, none⟩) hqY _).far (p := ⟨Y, 3, none⟩) hqY _, hc, hl, b0, nB, yB, s3 yB hb⟩
/-- the start -/
theorem plS_start {w W : World} {B : Nat} {lim hal ban : Int} (hB : W.heap.size = B) (h0 : 0 < B) (hT : Tab W) :
    PlS B (B + 1 + 1) lim hal ban [] none 0 0 (((W.alloc (.map #[] 0)).alloc (.cells #[.int .i64 lim, .int .i64 hal, .int .i64 ban, .map (some B)] 59)).alloc (.cells #[.int .i64 lim, .int .i64 hal, .int .i64 ban, .slice none 0 0] 43)) := by
  subst hB
  have hj := brd_new lim hal ban W W.heap.size (Nat.le_refl _)
  have hb := Bk.made ((W.alloc (.map #[] 0)).alloc (.cells #[.int .i64 lim, .int .i64 hal, .int .i64 ban, .map (some W.heap.size)] 59)) 43 #[.int .i64 lim, .int .i64 hal, .int .i64 ban, .slice none 0 0]
  rw [World.size_alloc, World.size_alloc] at hb
  exact ⟨hj.below ((Below.refl _ _).alloc (Nat.le_refl _) _), hT.below ((((Below.refl W.heap.size W).alloc (Nat.le_refl _) _).alloc (by simp) _).alloc (by simp; omega) _) h0, hb, .inl rfl, Nat.le_refl _, Nat.le_refl _, h0⟩
theorem faultL_len (lim hal ban : Int) (L : LA) (nm : ByteArray) (now e : Int) : (faultL lim hal ban L nm now e).1.length ≤ L.length + 1 := by
  unfold faultL
  split
  · simp
  · split
    · simp [updL]
    · simp
/-- what the end of a round reads: both rows of names -/
structure PlE (B N Q : Nat) (lim hal ban : Int) (L : LA) (a : Option Addr) (cp k : Nat) (kd : Int) (pr : ByteArray) (nw er : Int) (w2 : World) (xa xb : Option Addr) (W : World) : Prop where
  s : PlS B N lim hal ban L a cp k W
  ra : RowS W xa (namesL L)
  rb : RowS W xb (namesL L)
  qbox : Bk W Q 45 #[.int .u8 kd, .string pr, .int .i64 nw, .int .i64 er]
  bel : Below B w2 W
section
variable {B N Q : Nat} {lim hal ban : Int} {L : LA} {a : Option Addr} {cp k : Nat} {kd : Int} {pr : ByteArray} {nw er : Int} {w2 W W' : World} {xa xb : Option Addr}
theorem PlE.below (h : PlE B N Q lim hal ban L a cp k kd pr nw er w2 xa xb W) (hb : Below W.heap.size W W') : PlE B N Q lim hal ban L a cp k kd pr nw er w2 xa xb W' :=
  ⟨h.s.below hb, h.ra.below hb, h.rb.below hb, h.qbox.below hb h.qbox.lt, h.bel.trans (hb.mono h.s.bd.lt)⟩
end
/-- what the look at one peer reads -/
abbrev PeC (B N Q : Nat) (lim hal ban : Int) (L : LA) (a : Option Addr) (cp k : Nat) (kd : Int) (pr : ByteArray) (nw er : Int) (w2 : World) (xa xb : Option Addr) (ga gb gp j i : Nat) (y : ByteArray) (til : Int) (W : World) : Prop :=
  W.cell? ⟨ga, j, none⟩ = some (.string y) ∧ W.cell? ⟨gb, j, none⟩ = some (.string y) ∧ W.cell? ⟨N, 0, none⟩ = some (.int .i64 lim) ∧ W.cell? ⟨N, 1, none⟩ = some (.int .i64 hal) ∧ W.cell? ⟨N, 2, none⟩ = some (.int .i64 ban) ∧ W.cell? ⟨N, 3, none⟩ = some (.slice a L.length cp) ∧
  W.cell? ⟨gp, i * 4 + 3, none⟩ = some (.int .i64 til) ∧ PlE B N Q lim hal ban L a cp k kd pr nw er w2 xa xb W
theorem pec_keep {B N Q : Nat} {lim hal ban : Int} {L : LA} {a : Option Addr} {cp k : Nat} {kd : Int} {pr : ByteArray} {nw er : Int} {w2 W W' : World} {xa xb : Option Addr} {ga gb gp j i : Nat} {y : ByteArray} {til : Int}
    (h : PeC B N Q lim hal ban L a cp k kd pr nw er w2 xa xb ga gb gp j i y til W) (hb : Below W.heap.size W W') : PeC B N Q lim hal ban L a cp k kd pr nw er w2 xa xb ga gb gp j i y til W' := by
  obtain ⟨h1, h2, h3, h4, h5, h6, h7, h8⟩ := h
  have e : ∀ {b o : Nat} {v : Value}, W.cell? ⟨b, o, none⟩ = some v → W'.cell? ⟨b, o, none⟩ = some v := fun {b o v} hc => (hb.cell (p := ⟨b, o, none⟩) (World.block_lt_of_cell? W ⟨b, o, none⟩ hc)).trans hc
  exact ⟨e h1, e h2, e h3, e h4, e h5, e h6, e h7, h8.below hb⟩
theorem until_mem {L : LA} {p : PQ} (nd : NmNd L) (hp : p ∈ L) : untilL L p.1 = p.2.til := by unfold untilL; rw [acc_mem nd hp]
end Go.Proofs.YtckdahojhdbpjaaDoor
