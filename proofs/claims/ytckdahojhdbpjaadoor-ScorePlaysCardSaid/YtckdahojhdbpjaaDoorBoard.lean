/- A board in memory: its struct, its map, its peers' structs; and what Fault, Score, Until, Banned do to it. -/
import Derived.Test.YtckdahojhdbpjaaDoorFaultN
import Derived.Test.YtckdahojhdbpjaaDoorSmall
import Derived.Maps.Ext
namespace Go.Proofs.YtckdahojhdbpjaaDoor
set_option linter.unusedVariables false
set_option linter.unusedSimpArgs false
open Go.RowKit

structure Pr where
  nm : ByteArray
  blk : Nat
  acc : Acc
abbrev LA := List (ByteArray × Acc)
def keyL (nm : ByteArray) : Lit := .string nm.data.toList
theorem keyL_inj {a b : ByteArray} (h : keyL a = keyL b) : a = b := by
  unfold keyL at h
  injection h with h
  cases a; cases b
  simp only [ByteArray.mk.injEq]
  exact Array.toList_inj.1 h
theorem keyL_is (a : ByteArray) : WideAt.IsKeyLit (keyL a) := trivial

def blkS : List Pr → ByteArray → Option Nat
  | [], _ => none
  | p :: S, nm => if p.nm = nm then some p.blk else blkS S nm
def accL : LA → ByteArray → Option Acc
  | [], _ => none
  | p :: L, nm => if p.1 = nm then some p.2 else accL L nm
def updS (S : List Pr) (nm : ByteArray) (a : Acc) : List Pr := S.map fun p => if p.nm = nm then ⟨p.nm, p.blk, a⟩ else p
def updL (L : LA) (nm : ByteArray) (a : Acc) : LA := L.map fun p => if p.1 = nm then (p.1, a) else p
def strip (p : Pr) : ByteArray × Acc := (p.nm, p.acc)
theorem strip_upd (S : List Pr) (nm : ByteArray) (a : Acc) : (updS S nm a).map strip = updL (S.map strip) nm a := by
  unfold updS updL
  rw [List.map_map, List.map_map]
  refine List.map_congr_left fun p _ => ?_
  by_cases h : p.nm = nm <;> simp [h, strip]
theorem upd_nm (S : List Pr) (nm : ByteArray) (a : Acc) (p : Pr) : (if p.nm = nm then (⟨p.nm, p.blk, a⟩ : Pr) else p).nm = p.nm := by split <;> rfl
theorem upd_blk (S : List Pr) (nm : ByteArray) (a : Acc) (p : Pr) : (if p.nm = nm then (⟨p.nm, p.blk, a⟩ : Pr) else p).blk = p.blk := by split <;> rfl
theorem blk_upd (nm nm' : ByteArray) (a : Acc) : ∀ S : List Pr, blkS (updS S nm a) nm' = blkS S nm'
  | [] => rfl
  | p :: S => by
    have ih := blk_upd nm nm' a S
    unfold updS at ih ⊢
    simp only [List.map_cons, blkS, upd_nm S, upd_blk S, ih]
theorem blk_snoc (nm : ByteArray) (q : Pr) : ∀ S : List Pr, blkS (S ++ [q]) nm = if (blkS S nm).isSome then blkS S nm else if q.nm = nm then some q.blk else none
  | [] => by simp [blkS]
  | p :: S => by
    simp only [List.cons_append, blkS]
    by_cases h : p.nm = nm
    · simp [h]
    · simp only [h, if_false]; exact blk_snoc nm q S
/-- which peer it is -/
theorem blk_some {nm : ByteArray} {b : Nat} : ∀ {S : List Pr}, blkS S nm = some b → ∃ p ∈ S, p.nm = nm ∧ p.blk = b ∧ accL (S.map strip) nm = some p.acc
  | p :: S, h => by
    simp only [blkS] at h
    by_cases e : p.nm = nm
    · simp only [e, if_true] at h
      exact ⟨p, by simp, e, by simpa using h, by simp [accL, strip, e]⟩
    · simp only [e, if_false] at h
      obtain ⟨q, hq, h1, h2, h3⟩ := blk_some h
      exact ⟨q, by simp [hq], h1, h2, by simp [accL, strip, e]; exact h3⟩
theorem blk_none {nm : ByteArray} : ∀ {S : List Pr}, blkS S nm = none → accL (S.map strip) nm = none ∧ ∀ p ∈ S, p.nm ≠ nm
  | [], _ => ⟨rfl, by simp⟩
  | p :: S, h => by
    simp only [blkS] at h
    by_cases e : p.nm = nm
    · simp [e] at h
    · simp only [e, if_false] at h
      obtain ⟨h1, h2⟩ := blk_none h
      exact ⟨by simp [accL, strip, e]; exact h1, by intro q hq; rcases List.mem_cons.1 hq with rfl | hq; exact e; exact h2 q hq⟩

theorem pw_eq {α : Type} {R : α → α → Prop} (hs : ∀ a b, R a b → R b a) : ∀ {l : List α}, l.Pairwise R → ∀ {x y : α}, x ∈ l → y ∈ l → x = y ∨ R x y
  | [], _, _, _, hx, _ => by cases hx
  | a :: l, h, x, y, hx, hy => by
    obtain ⟨h1, h2⟩ := List.pairwise_cons.1 h
    rcases List.mem_cons.1 hx with ex | hx' <;> rcases List.mem_cons.1 hy with ey | hy'
    · exact .inl (ex.trans ey.symm)
    · exact .inr (ex ▸ h1 _ hy')
    · exact .inr (hs _ _ (ey ▸ h1 _ hx'))
    · exact pw_eq hs h2 hx' hy'
/-- the map's datum says of each name which block its peer lies in -/
def Agr (D : DataW Nat) (S : List Pr) : Prop :=
  ∀ nm, Maps.has D (keyL nm) = (blkS S nm).isSome ∧ D.atKey (keyL nm) .nil = (match blkS S nm with | some b => .held b | none => .nil)

structure BrdS (w : World) (B g m n : Nat) (lim hal ban : Int) (S : List Pr) : Prop where
  gB : B ≤ g
  mB : B ≤ m
  gb : Bk w g 59 #[.int .i64 lim, .int .i64 hal, .int .i64 ban, .map (some m)]
  map : ∃ D, w.ownsMap Tryd.prog 9 ptrElem m n D ∧ Agr D S
  prs : ∀ p ∈ S, B ≤ p.blk ∧ Bk w p.blk 64 p.acc.cells ∧ p.acc.ok ∧ p.nm.size ≤ maxLen
  nd : S.Pairwise fun p q => p.nm ≠ q.nm ∧ p.blk ≠ q.blk
/-- a board of limits lim, hal, ban that holds these accounts, in order of their coming -/
def Brd (w : World) (B g m n : Nat) (lim hal ban : Int) (L : LA) : Prop := ∃ S, S.map strip = L ∧ BrdS w B g m n lim hal ban S

theorem zero60 (w : World) : (zeroValue 60).run Tryd.prog w = .ok (.pointer none) w := by kernel_rfl
theorem look_at {w : World} {B g m n : Nat} {lim hal ban : Int} {S : List Pr} (h : BrdS w B g m n lim hal ban S) (nm : ByteArray) (hnm : nm.size ≤ maxLen) :
    (blkS S nm = none ∧ (Instr.lookup 57 (.map (some m)) (.string nm) true).run Tryd.prog w = .ok (.tuple #[.pointer none, .bool false]) w ∧ (Instr.lookup 57 (.map (some m)) (.string nm) false).run Tryd.prog w = .ok (.pointer none) w) ∨
    ∃ b, blkS S nm = some b ∧ (Instr.lookup 57 (.map (some m)) (.string nm) true).run Tryd.prog w = .ok (.tuple #[.pointer (some ⟨b, 0, none⟩), .bool true]) w ∧ (Instr.lookup 57 (.map (some m)) (.string nm) false).run Tryd.prog w = .ok (.pointer (some ⟨b, 0, none⟩)) w := by
  obtain ⟨D, ho, ha⟩ := h.map
  obtain ⟨a1, a2⟩ := ha nm
  have hkey : keyOf Tryd.prog 9 (.string nm) = some (keyL nm) := WideMaps.keyOf_string_mk Tryd.underlying9 hnm
  obtain ⟨v, ps, hr, hv⟩ := ho.look_ok (Maps.string_keyed Tryd.underlying9) Tryd.underlying57 (zero60 w) ptrElem_nil hkey
  obtain ⟨v', ps', hr', hv'⟩ := ho.lookup (Maps.string_keyed Tryd.underlying9) Tryd.underlying57 (zero60 w) ptrElem_nil hkey
  rw [a1] at hr
  rw [a2] at hv hv'
  cases hb : blkS S nm with
  | none =>
    rw [hb] at hr hv hv'
    rw [ptrElem_none hv] at hr
    rw [ptrElem_none hv'] at hr'
    exact .inl ⟨rfl, hr, hr'⟩
  | some b =>
    rw [hb] at hr hv hv'
    rw [ptrElem_held hv] at hr
    rw [ptrElem_held hv'] at hr'
    exact .inr ⟨b, rfl, hr, hr'⟩
theorem Brd.below {w w' : World} {B g m n : Nat} {lim hal ban : Int} {L : LA} (h : Brd w B g m n lim hal ban L) (hb : Below w.heap.size w w') : Brd w' B g m n lim hal ban L := by
  obtain ⟨S, rfl, h⟩ := h
  obtain ⟨D, ho, ha⟩ := h.map
  exact ⟨S, rfl, h.gB, h.mB, h.gb.below hb h.gb.lt, ⟨D, ho.kept (row := none) ⟨hb.os, hb.tape, hb.output, hb.size, fun i hi _ => hb.block i hi⟩ (by simp), ha⟩,
    fun p hp => let ⟨h1, h2, h3⟩ := h.prs p hp; ⟨h1, h2.below hb h2.lt, h3⟩, h.nd⟩
theorem Brd.drewN {w : World} {B g m n : Nat} {lim hal ban : Int} {L : LA} (h : Brd w B g m n lim hal ban L) (k : Nat) : Brd (w.drewN k) B g m n lim hal ban L := h.below (below_drewN (Below.refl _ _) k)

def scoreL (hal : Int) (L : LA) (nm : ByteArray) (now : Int) : Int := match accL L nm with | some a => atZ hal a.pts a.at_ now | none => 0
def untilL (L : LA) (nm : ByteArray) : Int := match accL L nm with | some a => a.til | none => 0
def faultL (lim hal ban : Int) (L : LA) (nm : ByteArray) (now e : Int) : LA × Int :=
  if ptsZ e = 0 then (L, scoreL hal L nm now)
  else match accL L nm with
    | some a => (updL L nm (faultA lim hal ban now (ptsZ e) a), (faultA lim hal ban now (ptsZ e) a).pts)
    | none => (L ++ [(nm, faultA lim hal ban now (ptsZ e) ⟨0, clipZ now, 0⟩)], (faultA lim hal ban now (ptsZ e) ⟨0, clipZ now, 0⟩).pts)

theorem score_brd {w : World} {B g m n : Nat} {lim hal ban : Int} {L : LA} (h : Brd w B g m n lim hal ban L) (h1 : 1 ≤ hal) (nm : ByteArray) (hnm : nm.size ≤ maxLen) (now : Int) :
    Calls Tryd.prog 10 #[.pointer (some ⟨g, 0, none⟩), .string nm, .int .i64 now] w fun e' w' => e' = .returned (.int .i64 (scoreL hal L nm now)) ∧ ∃ k, w' = w.drewN k := by
  obtain ⟨S, rfl, h⟩ := h
  rcases look_at h nm hnm with ⟨hb, _, hl⟩ | ⟨b, hb, _, hl⟩
  · refine (score_none lim hal ban now g m nm w h.gb hl).mono fun e' w' ⟨h1, h2⟩ => ?_
    subst h1; subst h2
    exact ⟨ret_int (by unfold scoreL; rw [(blk_none hb).1]), 0, rfl⟩
  · obtain ⟨p, hp, rfl, rfl, hacc⟩ := blk_some hb
    obtain ⟨_, hB, hok, _⟩ := h.prs p hp
    refine (score_some lim hal ban now p.acc.pts p.acc.at_ p.acc.til g p.blk m p.nm w h1 hok h.gb hB hl).mono fun e' w' ⟨h1, h2⟩ => ?_
    subst h1
    exact ⟨ret_int (by unfold scoreL; rw [hacc]), h2⟩
theorem until_brd {w : World} {B g m n : Nat} {lim hal ban : Int} {L : LA} (h : Brd w B g m n lim hal ban L) (nm : ByteArray) (hnm : nm.size ≤ maxLen) :
    Calls Tryd.prog 13 #[.pointer (some ⟨g, 0, none⟩), .string nm] w fun e' w' => e' = .returned (.int .i64 (untilL L nm)) ∧ w = w' := by
  obtain ⟨S, rfl, h⟩ := h
  rcases look_at h nm hnm with ⟨hb, _, hl⟩ | ⟨b, hb, _, hl⟩
  · refine (until_none lim hal ban g m nm w h.gb hl).mono fun e' w' ⟨h1, h2⟩ => ?_
    subst h1
    exact ⟨ret_int (by unfold untilL; rw [(blk_none hb).1]), h2⟩
  · obtain ⟨p, hp, rfl, rfl, hacc⟩ := blk_some hb
    obtain ⟨_, hB, _, _⟩ := h.prs p hp
    refine (until_some lim hal ban p.acc.pts p.acc.at_ p.acc.til g p.blk m p.nm w h.gb hB hl).mono fun e' w' ⟨h1, h2⟩ => ?_
    subst h1
    exact ⟨ret_int (by unfold untilL; rw [hacc]), h2⟩
theorem banned_brd {w : World} {B g m n : Nat} {lim hal ban : Int} {L : LA} (h : Brd w B g m n lim hal ban L) (nm : ByteArray) (hnm : nm.size ≤ maxLen) (now : Int) :
    Calls Tryd.prog 12 #[.pointer (some ⟨g, 0, none⟩), .string nm, .int .i64 now] w fun e' w' => e' = .returned (.bool (decide (clipZ now < untilL L nm))) ∧ w = w' :=
  banned_of now _ _ nm w (until_brd h nm hnm)

def FaultBrd (w : World) (B g m n : Nat) (lim hal ban : Int) (r : LA × Int) (e' : Ending) (w' : World) : Prop :=
  e' = .returned (.int .i64 r.2) ∧ Brd w' B g m (n + 1) lim hal ban r.1 ∧ Below B w w'
theorem fault_brd {w : World} {B g m n : Nat} {lim hal ban : Int} {L : LA} (h : Brd w B g m n lim hal ban L) (hl : 1 ≤ lim) (hlM : lim ≤ 1000000) (h1 : 1 ≤ hal) (hb1 : 1 ≤ ban) (hb2 : ban ≤ 1099511627776)
    (hT : Tab w) (hB0 : 0 < B) (nm : ByteArray) (hnm : nm.size ≤ maxLen) (hn : n < maxLen) (now e : Int) :
    Calls Tryd.prog 9 #[.pointer (some ⟨g, 0, none⟩), .string nm, .int .i64 now, .int .i64 e] w (FaultBrd w B g m n lim hal ban (faultL lim hal ban L nm now e)) := by
  have hqe := ptsZ_bd e
  by_cases hz : ptsZ e = 0
  · refine (fault_zero now e _ _ g rfl nm w _ hT hz (score_brd h h1 nm hnm now)).mono fun e' w' ⟨h1, k, h2⟩ => ?_
    subst h1; subst h2
    unfold FaultBrd faultL
    rw [if_pos hz]
    obtain ⟨S, hS, hh⟩ := h.drewN k
    obtain ⟨D, ho, ha⟩ := hh.map
    exact ⟨rfl, ⟨S, hS, hh.gB, hh.mB, hh.gb, ⟨D, ho.mono (Nat.le_succ _), ha⟩, hh.prs, hh.nd⟩, below_drewN (Below.refl _ _) k⟩
  · obtain ⟨S, rfl, h⟩ := h
    obtain ⟨D, ho, ha⟩ := h.map
    have hml := ho.lt
    rcases look_at h nm hnm with ⟨hb, hlook, _⟩ | ⟨b, hb, hlook, _⟩
    · refine (fault_new lim hal ban now e g m n D nm w hl hlM h1 hb1 hb2 hT (by have := h.mB; omega) (by omega) hnm hn h.gb ho hlook).mono fun e' w' ⟨w1, hs, ho1, hg1, he, hf⟩ => ?_
      subst he
      obtain ⟨hacc, hno⟩ := blk_none hb
      unfold FaultBrd faultL
      rw [if_neg hz, hacc]
      have hgm : g ≠ m := by obtain ⟨es, clock, hb', _⟩ := ho; exact h.gb.ne_map hb'
      have hgl := h.gb.lt
      have hBw : B ≤ w.heap.size := by have := h.gB; omega
      refine ⟨rfl, ⟨S ++ [⟨nm, w.heap.size, faultA lim hal ban now (ptsZ e) ⟨0, clipZ now, 0⟩⟩], by simp [strip], h.gB, h.mB, ?_, ?_, ?_, ?_⟩, ?_⟩
      · exact (h.gb.grown hg1 (by simpa using hgm)).grown hf.only (by simp; omega)
      · refine ⟨_, ho1.kept hf.only (by simp; omega), fun nm' => ?_⟩
        by_cases e1 : nm = nm'
        · subst e1
          have k1 := Maps.has_put_same (ho.isMap) (keyL_is nm) (.held w.heap.size)
          have k2 := Maps.atKey_put_same (ho.isMap) (keyL_is nm) (.held w.heap.size) .nil
          rw [blk_snoc, hb]
          exact ⟨k1.trans (by simp), k2.trans (by simp)⟩
        · have hne : keyL nm' ≠ keyL nm := fun h => e1 (keyL_inj h).symm
          have k1 := Maps.has_put_other (D := D) hne (.held w.heap.size)
          have k2 := Maps.atKey_put_other (D := D) hne (.held w.heap.size) .nil
          obtain ⟨a1, a2⟩ := ha nm'
          rw [blk_snoc]
          refine ⟨k1.trans ?_, k2.trans ?_⟩
          · rw [a1]; cases blkS S nm' <;> simp [e1]
          · rw [a2]; cases blkS S nm' <;> simp [e1]
      · intro p hp
        rcases List.mem_append.1 hp with hp | hp
        · obtain ⟨p1, p2, p3⟩ := h.prs p hp
          have hpl := p2.lt
          have hpm : p.blk ≠ m := by obtain ⟨es, clock, hb', _⟩ := ho; exact p2.ne_map hb'
          exact ⟨p1, (p2.grown hg1 (by simpa using hpm)).grown hf.only (by simp; omega), p3⟩
        · obtain rfl : p = _ := by simpa using hp
          exact ⟨hBw, hf.bk, faultA_ok ⟨by simp, by simp, (clipZ_bd now).1, (clipZ_bd now).2, by simp, by simp⟩ hl hlM hb1 hb2 hqe.1, hnm⟩
      · refine List.pairwise_append.2 ⟨h.nd, by simp, fun p hp q hq => ?_⟩
        obtain rfl : q = _ := by simpa using hq
        obtain ⟨_, p2, _⟩ := h.prs p hp
        have := p2.lt
        exact ⟨hno p hp, by simp; omega⟩
      · exact ((Below.refl B w).grown hg1 hBw (by intro k hk; cases hk; exact h.mB)).grown hf.only (by omega) (by intro k hk; cases hk; omega)
    · obtain ⟨p, hp, rfl, rfl, hacc⟩ := blk_some hb
      obtain ⟨hpB, hB, hok, hpn⟩ := h.prs p hp
      refine (fault_old lim hal ban now e p.acc.pts p.acc.at_ p.acc.til g p.blk m p.nm w hl hlM h1 hb1 hb2 hok hT (by omega) h.gb hB hlook).mono fun e' w' ⟨he, hbk, hg⟩ => ?_
      subst he
      unfold FaultBrd faultL
      rw [if_neg hz, hacc]
      have hpm : p.blk ≠ m := by obtain ⟨es, clock, hb', _⟩ := ho; exact hB.ne_map hb'
      have hgp : g ≠ p.blk := h.gb.ne hB (by decide)
      refine ⟨rfl, ⟨updS S p.nm (faultA lim hal ban now (ptsZ e) p.acc), strip_upd _ _ _, h.gB, h.mB, h.gb.grown hg (by simpa using hgp), ⟨D, (ho.kept hg (by simpa using hpm.symm)).mono (Nat.le_succ _), fun nm' => by rw [blk_upd]; exact ha nm'⟩, ?_, ?_⟩, ?_⟩
      · intro q hq
        obtain ⟨r, hr, rfl⟩ := List.mem_map.1 hq
        obtain ⟨r1, r2, r3, r4⟩ := h.prs r hr
        have hrp := pw_eq (fun a b hab => ⟨hab.1.symm, hab.2.symm⟩) h.nd hr hp
        by_cases e1 : r.nm = p.nm
        · rw [if_pos e1]
          have : r = p := hrp.resolve_right fun hh => hh.1 e1
          subst this
          exact ⟨r1, hbk, faultA_ok hok hl hlM hb1 hb2 hqe.1, r4⟩
        · rw [if_neg e1]
          refine ⟨r1, r2.grown hg ?_, r3, r4⟩
          rcases hrp with rfl | hrp
          · exact absurd rfl e1
          · simpa using hrp.2
      · refine List.pairwise_map.2 (h.nd.imp fun {a b} hab => ?_)
        rw [upd_nm S, upd_nm S, upd_blk S, upd_blk S]
        exact hab
      · exact (Below.refl B w).grown hg (by have := h.gB; have := h.gb.lt; omega) (by intro k hk; cases hk; exact hpB)
end Go.Proofs.YtckdahojhdbpjaaDoor
