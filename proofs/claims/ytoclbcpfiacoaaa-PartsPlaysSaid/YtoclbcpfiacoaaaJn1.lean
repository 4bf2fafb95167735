/- A joiner in memory: its struct, its map, its bodies' structs and maps. No program is walked. -/
import Derived.Test.YtoclbcpfiacoaaaDrop1
import Derived.Maps.Ext
namespace Go.Proofs.Ytoclbcpfiacoaaa
set_option linter.unusedVariables false
set_option linter.unusedSimpArgs false
open Go.RowKit

abbrev PL := List (Int × ByteArray)
/-- a body that is open: its number, how many parts it has in all, those that are there -/
abbrev AB := Int × Int × PL
structure BD where
  id : Int
  blk : Nat
  mb : Nat
  of : Int
  ps : PL
def BD.strip (b : BD) : AB := (b.id, b.of, b.ps)
def kI (n : Int) : Lit := .int .i64 n
theorem kI_inj {a b : Int} (h : kI a = kI b) : a = b := by unfold kI at h; injection h
theorem kI_is (a : Int) : WideAt.IsKeyLit (kI a) := trivial

def findS : List BD → Int → Option BD
  | [], _ => none
  | b :: S, id => if b.id = id then some b else findS S id
def findA : List AB → Int → Option (Int × PL)
  | [], _ => none
  | b :: A, id => if b.1 = id then some b.2 else findA A id
def lookP : PL → Int → Option ByteArray
  | [], _ => none
  | q :: ps, n => if q.1 = n then some q.2 else lookP ps n
def eraseS (S : List BD) (id : Int) : List BD := S.filter fun b => !decide (b.id = id)
def eraseA (A : List AB) (id : Int) : List AB := A.filter fun b => !decide (b.1 = id)
def updS (S : List BD) (id : Int) (ps : PL) : List BD := S.map fun b => if b.id = id then ⟨b.id, b.blk, b.mb, b.of, ps⟩ else b
def updA (A : List AB) (id : Int) (ps : PL) : List AB := A.map fun b => if b.1 = id then (b.1, b.2.1, ps) else b
def usedP (ps : PL) : Nat := (ps.map fun q => q.2.size).sum
def usedA (A : List AB) : Nat := (A.map fun b => usedP b.2.2).sum
theorem strip_erase (S : List BD) (id : Int) : (eraseS S id).map BD.strip = eraseA (S.map BD.strip) id := by
  unfold eraseS eraseA
  rw [List.filter_map]
  rfl
theorem strip_upd (S : List BD) (id : Int) (ps : PL) : (updS S id ps).map BD.strip = updA (S.map BD.strip) id ps := by
  unfold updS updA
  rw [List.map_map, List.map_map]
  refine List.map_congr_left fun p _ => ?_
  by_cases h : p.id = id <;> simp [h, BD.strip]
theorem find_strip : ∀ (S : List BD) (id : Int), findA (S.map BD.strip) id = (findS S id).map fun b => (b.of, b.ps)
  | [], _ => rfl
  | b :: S, id => by
    by_cases h : b.id = id
    · simp [findA, findS, BD.strip, h]
    · simp only [List.map_cons, findA, findS, BD.strip, h, if_false]; exact find_strip S id
theorem findS_some {id : Int} {b : BD} : ∀ {S : List BD}, findS S id = some b → b ∈ S ∧ b.id = id
  | p :: S, h => by
    simp only [findS] at h
    by_cases e : p.id = id
    · rw [if_pos e] at h; cases h; exact ⟨by simp, e⟩
    · rw [if_neg e] at h
      obtain ⟨h1, h2⟩ := findS_some h
      exact ⟨by simp [h1], h2⟩
theorem findS_none {id : Int} : ∀ {S : List BD}, findS S id = none → ∀ b ∈ S, b.id ≠ id
  | [], _ => by simp
  | p :: S, h => by
    simp only [findS] at h
    by_cases e : p.id = id
    · rw [if_pos e] at h; cases h
    · rw [if_neg e] at h
      intro b hb
      rcases List.mem_cons.1 hb with rfl | hb
      · exact e
      · exact findS_none h b hb
theorem findS_snoc (id : Int) (q : BD) : ∀ S : List BD, findS (S ++ [q]) id = if (findS S id).isSome then findS S id else if q.id = id then some q else none
  | [] => by simp [findS]
  | p :: S => by
    simp only [List.cons_append, findS]
    by_cases h : p.id = id
    · simp [h]
    · simp only [h, if_false]; exact findS_snoc id q S
theorem findS_erase (id id' : Int) : ∀ S : List BD, findS (eraseS S id) id' = if id = id' then none else findS S id'
  | [] => by simp [eraseS, findS]
  | p :: S => by
    have ih := findS_erase id id' S
    unfold eraseS at ih ⊢
    by_cases h : p.id = id
    · rw [List.filter_cons_of_neg (by simp [h]), ih]
      by_cases e : id = id'
      · simp [e]
      · simp [e, findS, h]
    · rw [List.filter_cons_of_pos (by simp [h])]
      simp only [findS, ih]
      by_cases e : p.id = id'
      · have : id ≠ id' := fun e' => h (e.trans e'.symm)
        simp [e, this]
      · simp [e]
theorem findS_upd (id id' : Int) (ps : PL) : ∀ S : List BD, findS (updS S id ps) id' = (findS S id').map fun b => if b.id = id then ⟨b.id, b.blk, b.mb, b.of, ps⟩ else b
  | [] => rfl
  | p :: S => by
    have ih := findS_upd id id' ps S
    unfold updS at ih ⊢
    have hid : (if p.id = id then (⟨p.id, p.blk, p.mb, p.of, ps⟩ : BD) else p).id = p.id := by split <;> rfl
    simp only [List.map_cons, findS, hid, ih]
    by_cases h : p.id = id' <;> simp [h]
theorem lookP_snoc (n : Int) (q : Int × ByteArray) : ∀ ps : PL, lookP (ps ++ [q]) n = if (lookP ps n).isSome then lookP ps n else if q.1 = n then some q.2 else none
  | [] => by simp [lookP]
  | p :: ps => by
    simp only [List.cons_append, lookP]
    by_cases h : p.1 = n
    · simp [h]
    · simp only [h, if_false]; exact lookP_snoc n q ps
theorem lookP_mem {n : Int} {t : ByteArray} : ∀ {ps : PL}, lookP ps n = some t → (n, t) ∈ ps
  | p :: ps, h => by
    simp only [lookP] at h
    by_cases e : p.1 = n
    · rw [if_pos e] at h; cases h; simp [← e]
    · rw [if_neg e] at h; exact List.mem_cons_of_mem _ (lookP_mem h)
theorem lookP_none {n : Int} : ∀ {ps : PL}, lookP ps n = none → ∀ q ∈ ps, q.1 ≠ n
  | [], _ => by simp
  | p :: ps, h => by
    simp only [lookP] at h
    by_cases e : p.1 = n
    · rw [if_pos e] at h; cases h
    · rw [if_neg e] at h
      intro q hq
      rcases List.mem_cons.1 hq with rfl | hq
      · exact e
      · exact lookP_none h q hq

theorem pw_eq {α : Type} {R : α → α → Prop} (hs : ∀ a b, R a b → R b a) : ∀ {l : List α}, l.Pairwise R → ∀ {x y : α}, x ∈ l → y ∈ l → x = y ∨ R x y
  | [], _, _, _, hx, _ => by cases hx
  | a :: l, h, x, y, hx, hy => by
    obtain ⟨h1, h2⟩ := List.pairwise_cons.1 h
    rcases List.mem_cons.1 hx with ex | hx' <;> rcases List.mem_cons.1 hy with ey | hy'
    · exact .inl (ex.trans ey.symm)
    · exact .inr (ex ▸ h1 _ hy')
    · exact .inr (hs _ _ (ey ▸ h1 _ hx'))
    · exact pw_eq hs h2 hx' hy'
/-- the joiner's map's datum says of each number which block its body lies in -/
def AgrS (D : DataW Nat) (S : List BD) : Prop :=
  ∀ id, Maps.has D (kI id) = (findS S id).isSome ∧ D.atKey (kI id) .nil = (match findS S id with | some b => .held b.blk | none => .nil)
/-- a body's map's datum says of each number which text -/
def AgrP (D : DataW Nat) (ps : PL) : Prop :=
  ∀ n, Maps.has D (kI n) = (lookP ps n).isSome ∧ D.atKey (kI n) (.lit (.string [])) = .lit (.string ((lookP ps n).getD ⟨#[]⟩).data.toList)
structure BdOk (w : World) (B : Nat) (b : BD) : Prop where
  bB : B ≤ b.blk
  mB : B ≤ b.mb
  bk : Bk w b.blk 92 #[.int .i64 b.of, .map (some b.mb)]
  mp : ∃ D, w.ownsMap Try.prog 3 (plainElem Try.prog 9) b.mb b.ps.length D ∧ AgrP D b.ps ∧ Maps.size D = b.ps.length
structure JnV (w : World) (B g m : Nat) (most opn u : Int) (S : List BD) : Prop where
  gB : B ≤ g
  mB : B ≤ m
  gb : Bk w g 86 #[.int .i64 most, .int .i64 opn, .int .i64 u, .map (some m)]
  map : ∃ D, w.ownsMap Try.prog 3 ptrElem m S.length D ∧ AgrS D S ∧ Maps.size D = S.length
  bds : ∀ b ∈ S, BdOk w B b
  nd : S.Pairwise fun p q => p.id ≠ q.id ∧ p.blk ≠ q.blk ∧ p.mb ≠ q.mb
  mm : ∀ b ∈ S, b.mb ≠ m
abbrev JnS (w : World) (B g m : Nat) (most opn : Int) (S : List BD) : Prop := JnV w B g m most opn (usedA (S.map BD.strip) : Nat) S
/-- what a joiner holds, and what bounds it -/
structure AOk (most opn : Int) (A : List AB) : Prop where
  m0 : 0 ≤ most ∧ most ≤ 1073741824
  o0 : 1 ≤ opn ∧ opn ≤ 32
  len : (A.length : Int) ≤ opn
  use : (usedA A : Int) ≤ most
  bds : ∀ b ∈ A, 0 ≤ b.1 ∧ b.1 ≤ 2147483647 ∧ 1 ≤ b.2.1 ∧ b.2.1 ≤ 1024 ∧ 1 ≤ b.2.2.length ∧ (b.2.2.length : Int) < b.2.1 ∧ (b.2.2.map Prod.fst).Nodup ∧ ∀ q ∈ b.2.2, 0 ≤ q.1 ∧ q.1 < b.2.1 ∧ 1 ≤ q.2.size ∧ q.2.size ≤ 65536
  nd : A.Pairwise fun p q => p.1 ≠ q.1

theorem tight {H : Type} {P : Program} {k : TypeId} {R : Value → Option (DataW H × List MemPlace)} {w : World} {b n : Nat} {D : DataW H} (h : w.ownsMap P k R b n D) : w.ownsMap P k R b (Maps.size D) D := by
  obtain ⟨es, clock, hb, F, hs, rfl⟩ := h
  refine ⟨es, clock, hb, F, ?_, rfl⟩
  have e1 : Maps.size (DataW.map ((es.toList.map (WideElems.rg P k R)).foldr DataW.insert [])) = es.size := by simp [Maps.size, length_sorted]
  exact Nat.le_of_eq e1.symm
theorem key_int {n : Int} (h0 : -9223372036854775808 ≤ n) (h1 : n ≤ 9223372036854775807) : keyOf Try.prog 3 (.int .i64 n) = some (kI n) := Maps.keyOf_int_mk Try.underlying3 (WalkArith.wf_i64 ⟨h0, h1⟩)
theorem str_lit (s : ByteArray) : (⟨s.data.toList.toArray⟩ : ByteArray) = s := by cases s; simp
theorem plain_str {v : Value} {d : DataW Nat} {ps : List MemPlace} {s : ByteArray} (h : plainElem Try.prog 9 v = some (d, ps)) (hd : d = .lit (.string s.data.toList)) : v = .string s := by
  obtain ⟨s', rfl, hz, _⟩ := plainElem_string_inv Try.underlying9 h
  simp only [Prod.mk.injEq] at hz
  rw [hd] at hz
  have := hz.1
  simp only [DataW.lit.injEq, Lit.string.injEq] at this
  have e : s.data = s'.data := by rw [← Array.toList_inj]; exact this
  cases s; cases s'; simp only at e; rw [e]
theorem plain_empty : plainElem (H := Nat) Try.prog 9 (.string ⟨#[]⟩) = some (.lit (.string []), []) := plainElem_string Try.underlying9 (by unfold maxLen; decide)

section
variable {w w' : World} {B g m : Nat} {most opn u : Int} {S : List BD} {b : BD}
theorem BdOk.below (h : BdOk w B b) (hb : Below w.heap.size w w') : BdOk w' B b := by
  obtain ⟨D, ho, h2, h3⟩ := h.mp
  exact ⟨h.bB, h.mB, h.bk.below hb h.bk.lt, D, ho.kept (row := none) ⟨hb.os, hb.tape, hb.output, hb.size, fun i hi _ => hb.block i hi⟩ (by simp), h2, h3⟩
theorem BdOk.grown {row : Option Nat} (h : BdOk w B b) (hg : w.grownBy w' row) (h1 : some b.blk ≠ row) (h2 : some b.mb ≠ row) : BdOk w' B b := by
  obtain ⟨D, ho, h3, h4⟩ := h.mp
  exact ⟨h.bB, h.mB, h.bk.grown hg h1, D, ho.kept hg h2, h3, h4⟩
theorem JnV.below (h : JnV w B g m most opn u S) (hb : Below w.heap.size w w') : JnV w' B g m most opn u S := by
  obtain ⟨D, ho, ha, hs⟩ := h.map
  exact ⟨h.gB, h.mB, h.gb.below hb h.gb.lt, ⟨D, ho.kept (row := none) ⟨hb.os, hb.tape, hb.output, hb.size, fun i hi _ => hb.block i hi⟩ (by simp), ha, hs⟩, fun b hb' => (h.bds b hb').below hb, h.nd, h.mm⟩
theorem JnV.drewN (h : JnV w B g m most opn u S) (k : Nat) : JnV (w.drewN k) B g m most opn u S := h.below (below_drewN (Below.refl _ _) k)
theorem JnV.drew (h : JnV w B g m most opn u S) : JnV w.drew B g m most opn u S := h.drewN 1
theorem JnV.gm (h : JnV w B g m most opn u S) : g ≠ m := by
  obtain ⟨D, ⟨es, c, hb, _⟩, _⟩ := h.map
  exact h.gb.ne_map hb
theorem BdOk.gmb (h : BdOk w B b) : b.blk ≠ b.mb := by
  obtain ⟨D, ⟨es, c, hb, _⟩, _⟩ := h.mp
  exact h.bk.ne_map hb
theorem BdOk.ltm (h : BdOk w B b) : b.mb < w.heap.size := by obtain ⟨D, ho, _⟩ := h.mp; exact ho.lt
theorem JnV.ltm (h : JnV w B g m most opn u S) : m < w.heap.size := by obtain ⟨D, ho, _⟩ := h.map; exact ho.lt
/-- a lookup in the joiner's map -/
theorem look_S (h : JnV w B g m most opn u S) (id : Int) (h0 : -9223372036854775808 ≤ id) (h1 : id ≤ 9223372036854775807) :
    (findS S id = none ∧ (Instr.lookup 84 (.map (some m)) (.int .i64 id) true).run Try.prog w = .ok (.tuple #[.pointer none, .bool false]) w) ∨
    ∃ b, findS S id = some b ∧ (Instr.lookup 84 (.map (some m)) (.int .i64 id) true).run Try.prog w = .ok (.tuple #[.pointer (some ⟨b.blk, 0, none⟩), .bool true]) w := by
  obtain ⟨D, ho, ha, _⟩ := h.map
  obtain ⟨a1, a2⟩ := ha id
  obtain ⟨v, ps, hr, hv⟩ := ho.look_ok (Maps.int_keyed Try.underlying3) Try.underlying84 (zero88 w) ptrElem_nil (key_int h0 h1)
  rw [a1] at hr
  rw [a2] at hv
  cases hb : findS S id with
  | none =>
    rw [hb] at hr hv
    rw [ptrElem_none hv] at hr
    exact .inl ⟨rfl, hr⟩
  | some b =>
    rw [hb] at hr hv
    rw [ptrElem_held hv] at hr
    exact .inr ⟨b, rfl, hr⟩
/-- a lookup in a body's map -/
theorem look_P (h : BdOk w B b) (n : Int) (h0 : -9223372036854775808 ≤ n) (h1 : n ≤ 9223372036854775807) :
    (Instr.lookup 90 (.map (some b.mb)) (.int .i64 n) true).run Try.prog w = .ok (.tuple #[.string ((lookP b.ps n).getD ⟨#[]⟩), .bool (lookP b.ps n).isSome]) w ∧
    (Instr.lookup 90 (.map (some b.mb)) (.int .i64 n) false).run Try.prog w = .ok (.string ((lookP b.ps n).getD ⟨#[]⟩)) w := by
  obtain ⟨D, ho, ha, _⟩ := h.mp
  obtain ⟨a1, a2⟩ := ha n
  obtain ⟨v, ps, hr, hv⟩ := ho.look_ok (Maps.int_keyed Try.underlying3) Try.underlying90 (zero9 w) plain_empty (key_int h0 h1)
  obtain ⟨v', ps', hr', hv'⟩ := ho.lookup (Maps.int_keyed Try.underlying3) Try.underlying90 (zero9 w) plain_empty (key_int h0 h1)
  rw [plain_str hv a2, a1] at hr
  rw [plain_str hv' a2] at hr'
  exact ⟨hr, hr'⟩
theorem len_S (h : JnV w B g m most opn u S) : (Builtin.len_ #[84] 3 #[.map (some m)]).run Try.prog w = .ok (.int .i64 (S.length : Int)) w := by
  obtain ⟨D, ho, _, hs⟩ := h.map
  have := ho.len Try.underlying84 3
  rw [hs] at this
  exact this
theorem len_P (h : BdOk w B b) : (Builtin.len_ #[90] 3 #[.map (some b.mb)]).run Try.prog w = .ok (.int .i64 (b.ps.length : Int)) w := by
  obtain ⟨D, ho, _, hs⟩ := h.mp
  have := ho.len Try.underlying90 3
  rw [hs] at this
  exact this
theorem JnV.grown {row : Option Nat} (h : JnV w B g m most opn u S) (hg : w.grownBy w' row) (h1 : some g ≠ row) (h2 : some m ≠ row) (h3 : ∀ b ∈ S, some b.blk ≠ row ∧ some b.mb ≠ row) : JnV w' B g m most opn u S := by
  obtain ⟨D, ho, ha, hs⟩ := h.map
  exact ⟨h.gB, h.mB, h.gb.grown hg h1, ⟨D, ho.kept hg h2, ha, hs⟩, fun b hb => (h.bds b hb).grown hg (h3 b hb).1 (h3 b hb).2, h.nd, h.mm⟩
theorem JnV.bg (h : JnV w B g m most opn u S) (hb : BdOk w B b) : b.blk ≠ g ∧ b.mb ≠ g ∧ b.blk ≠ m := by
  refine ⟨hb.bk.ne h.gb (by decide), ?_, ?_⟩
  · obtain ⟨D', ⟨es, c, hh, _⟩, _⟩ := hb.mp; exact (h.gb.ne_map hh).symm
  · obtain ⟨D', ⟨es, c, hh, _⟩, _⟩ := h.map; exact hb.bk.ne_map hh
/-- the count stored -/
theorem JnV.set (h : JnV w B g m most opn u S) (v : Int) : JnV (w.setCell ⟨g, 2, none⟩ (.int .i64 v)) B g m most opn v S := by
  have hg := only_set (only_refl w (some g)) (p := ⟨g, 2, none⟩) rfl (.int .i64 v)
  obtain ⟨D, ho, ha, hs⟩ := h.map
  exact ⟨h.gB, h.mB, h.gb.put 2 _, ⟨D, ho.kept hg (by simpa using h.gm.symm), ha, hs⟩, fun b hb => (h.bds b hb).grown hg (by simpa using (h.bg (h.bds b hb)).1) (by simpa using (h.bg (h.bds b hb)).2.1), h.nd, h.mm⟩
/-- a text stored into a body's map -/
theorem BdOk.store {n : Int} {t : ByteArray} (h : BdOk w B b) (h0 : -9223372036854775808 ≤ n) (h1 : n ≤ 9223372036854775807) (ht : t.size ≤ 65536) (hl : b.ps.length ≤ 2000) (hn : lookP b.ps n = none) :
    ∃ w', (Instr.mapUpdate 90 (.map (some b.mb)) (.int .i64 n) (.string t)).run Try.prog w = .ok () w' ∧ BdOk w' B ⟨b.id, b.blk, b.mb, b.of, b.ps ++ [(n, t)]⟩ ∧ w.grownBy w' (some b.mb) := by
  obtain ⟨D, ho, ha, hs⟩ := h.mp
  obtain ⟨w', hrun, ho', hg⟩ := ho.update (Maps.int_keyed Try.underlying3) Try.underlying90 (by unfold maxLen; omega) (key_int h0 h1) (plainElem_string Try.underlying9 (s := t) (by unfold maxLen; omega))
  refine ⟨w', hrun, ⟨h.bB, h.mB, h.bk.grown hg (by simpa using h.gmb), ⟨_, by simpa using ho', fun n' => ?_, ?_⟩⟩, hg⟩
  · obtain ⟨a1, a2⟩ := ha n'
    rw [lookP_snoc]
    by_cases e : n = n'
    · subst e
      rw [hn]
      exact ⟨(Maps.has_put_same ho.isMap (kI_is n) _).trans (by simp), (Maps.atKey_put_same ho.isMap (kI_is n) _ _).trans (by simp)⟩
    · have hne : kI n' ≠ kI n := fun e' => e (kI_inj e').symm
      refine ⟨(Maps.has_put_other hne _).trans ?_, (Maps.atKey_put_other hne _ _).trans ?_⟩
      · rw [a1]; cases lookP b.ps n' <;> simp [e]
      · rw [a2]; cases lookP b.ps n' <;> simp [e]
  · rw [Maps.size_put (ho.tidy (Maps.int_keyed Try.underlying3)), show kI n = kI n from rfl, (ha n).1, hn, hs]
    simp
/-- a body that is new, stored into the joiner's map -/
theorem JnV.snoc (h : JnV w B g m most opn u S) (hb : BdOk w B b) (h0 : -9223372036854775808 ≤ b.id) (h1 : b.id ≤ 9223372036854775807) (hl : S.length ≤ 2000) (hn : findS S b.id = none) (hfr : ∀ c ∈ S, c.blk ≠ b.blk ∧ c.mb ≠ b.mb) (hbm : b.mb ≠ m) :
    ∃ w', (Instr.mapUpdate 84 (.map (some m)) (.int .i64 b.id) (.pointer (some ⟨b.blk, 0, none⟩))).run Try.prog w = .ok () w' ∧ JnV w' B g m most opn u (S ++ [b]) ∧ w.grownBy w' (some m) := by
  obtain ⟨D, ho, ha, hs⟩ := h.map
  obtain ⟨w', hrun, ho', hg⟩ := ho.update (Maps.int_keyed Try.underlying3) Try.underlying84 (by unfold maxLen; omega) (key_int h0 h1) (ptrElem_mk b.blk)
  refine ⟨w', hrun, ⟨h.gB, h.mB, h.gb.grown hg (by simpa using h.gm), ⟨_, by simpa using ho', fun id' => ?_, ?_⟩, fun c hc => ?_, ?_, fun c hc => ?_⟩, hg⟩
  · obtain ⟨a1, a2⟩ := ha id'
    rw [findS_snoc]
    by_cases e : b.id = id'
    · subst e
      rw [hn]
      exact ⟨(Maps.has_put_same ho.isMap (kI_is b.id) _).trans (by simp), (Maps.atKey_put_same ho.isMap (kI_is b.id) _ _).trans (by simp)⟩
    · have hne : kI id' ≠ kI b.id := fun e' => e (kI_inj e').symm
      refine ⟨(Maps.has_put_other hne _).trans ?_, (Maps.atKey_put_other hne _ _).trans ?_⟩
      · rw [a1]; cases findS S id' <;> simp [e]
      · rw [a2]; cases findS S id' <;> simp [e]
  · rw [Maps.size_put (ho.tidy (Maps.int_keyed Try.underlying3)), (ha b.id).1, hn, hs]
    simp
  · rcases List.mem_append.1 hc with hc | hc
    · exact (h.bds c hc).grown hg (by simpa using (h.bg (h.bds c hc)).2.2) (by simpa using h.mm c hc)
    · obtain rfl : c = b := by simpa using hc
      exact hb.grown hg (by simpa using (h.bg hb).2.2) (by simpa using hbm)
  · refine List.pairwise_append.2 ⟨h.nd, by simp, fun p hp q hq => ?_⟩
    obtain rfl : q = b := by simpa using hq
    exact ⟨findS_none hn p hp, (hfr p hp).1, (hfr p hp).2⟩
  · rcases List.mem_append.1 hc with hc | hc
    · exact h.mm c hc
    · obtain rfl : c = b := by simpa using hc
      exact hbm
theorem updS_mem {S : List BD} {id : Int} {ps : PL} {c : BD} (h : c ∈ updS S id ps) : ∃ c0 ∈ S, c = if c0.id = id then ⟨c0.id, c0.blk, c0.mb, c0.of, ps⟩ else c0 := by
  obtain ⟨c0, h0, rfl⟩ := List.mem_map.1 h
  exact ⟨c0, h0, rfl⟩
/-- a body of the joiner's holds more than it held -/
theorem JnV.upd {ps : PL} (h : JnV w B g m most opn u S) (hb : b ∈ S) (hg : w.grownBy w' (some b.mb)) (hok : BdOk w' B ⟨b.id, b.blk, b.mb, b.of, ps⟩) : JnV w' B g m most opn u (updS S b.id ps) := by
  obtain ⟨D, ho, ha, hs⟩ := h.map
  have hlen : (updS S b.id ps).length = S.length := by simp [updS]
  have hbo := h.bg (h.bds b hb)
  have hbm := h.mm b hb
  refine ⟨h.gB, h.mB, h.gb.grown hg (by simpa using hbo.2.1.symm), ⟨D, by rw [hlen]; exact ho.kept hg (by simpa using hbm.symm), fun id' => ?_, by rw [hlen]; exact hs⟩, fun c hc => ?_, ?_, fun c hc => ?_⟩
  · rw [findS_upd]
    obtain ⟨a1, a2⟩ := ha id'
    refine ⟨a1.trans (by cases findS S id' <;> rfl), a2.trans ?_⟩
    cases findS S id' with
    | none => rfl
    | some c => simp only [Option.map_some]; split <;> rfl
  · obtain ⟨c0, h0, rfl⟩ := updS_mem hc
    have hcb := pw_eq (fun a b hab => ⟨hab.1.symm, hab.2.1.symm, hab.2.2.symm⟩) h.nd h0 hb
    by_cases e : c0.id = b.id
    · rw [if_pos e]
      have : c0 = b := hcb.resolve_right fun hh => hh.1 e
      subst this
      exact hok
    · rw [if_neg e]
      rcases hcb with rfl | hcb
      · exact absurd rfl e
      · refine (h.bds c0 h0).grown hg ?_ (by simpa using hcb.2.2)
        obtain ⟨D', ⟨es, cc, hh, _⟩, _⟩ := (h.bds b hb).mp
        have := (h.bds c0 h0).bk.ne_map hh
        simpa using this
  · refine List.pairwise_map.2 (h.nd.imp fun {p q} hab => ?_)
    have e1 : ∀ c : BD, (if c.id = b.id then (⟨c.id, c.blk, c.mb, c.of, ps⟩ : BD) else c).id = c.id := fun c => by split <;> rfl
    have e2 : ∀ c : BD, (if c.id = b.id then (⟨c.id, c.blk, c.mb, c.of, ps⟩ : BD) else c).blk = c.blk := fun c => by split <;> rfl
    have e3 : ∀ c : BD, (if c.id = b.id then (⟨c.id, c.blk, c.mb, c.of, ps⟩ : BD) else c).mb = c.mb := fun c => by split <;> rfl
    rw [e1, e1, e2, e2, e3, e3]
    exact hab
  · obtain ⟨c0, h0, rfl⟩ := updS_mem hc
    have := h.mm c0 h0
    split <;> exact this
/-- a body stored anew at its own number -/
theorem JnV.again (h : JnV w B g m most opn u S) (h0 : -9223372036854775808 ≤ b.id) (h1 : b.id ≤ 9223372036854775807) (hl : S.length ≤ 2000) (hn : (findS S b.id).map BD.blk = some b.blk) :
    ∃ w', (Instr.mapUpdate 84 (.map (some m)) (.int .i64 b.id) (.pointer (some ⟨b.blk, 0, none⟩))).run Try.prog w = .ok () w' ∧ JnV w' B g m most opn u S ∧ w.grownBy w' (some m) := by
  obtain ⟨D, ho, ha, hs⟩ := h.map
  obtain ⟨w', hrun, ho', hg⟩ := ho.update (Maps.int_keyed Try.underlying3) Try.underlying84 (by unfold maxLen; omega) (key_int h0 h1) (ptrElem_mk b.blk)
  obtain ⟨b', hb', hbb⟩ := Option.map_eq_some_iff.1 hn
  have hsz : Maps.size (D.put (kI b.id) (.held b.blk)) = S.length := by
    rw [Maps.size_put (ho.tidy (Maps.int_keyed Try.underlying3)), (ha b.id).1, hb', hs]; rfl
  refine ⟨w', hrun, ⟨h.gB, h.mB, h.gb.grown hg (by simpa using h.gm), ⟨_, by rw [← hsz]; exact tight ho', fun id' => ?_, hsz⟩, fun c hc => (h.bds c hc).grown hg (by simpa using (h.bg (h.bds c hc)).2.2) (by simpa using h.mm c hc), h.nd, h.mm⟩, hg⟩
  obtain ⟨a1, a2⟩ := ha id'
  by_cases e : b.id = id'
  · subst e
    rw [hb']
    exact ⟨Maps.has_put_same ho.isMap (kI_is b.id) _, (Maps.atKey_put_same ho.isMap (kI_is b.id) _ _).trans (by show _ = DataW.held b'.blk; rw [hbb])⟩
  · have hne : kI id' ≠ kI b.id := fun e' => e (kI_inj e').symm
    exact ⟨(Maps.has_put_other hne _).trans a1, (Maps.atKey_put_other hne _ _).trans a2⟩
end
/-- an object of a joiner's: a map, a joiner's struct, a body's struct -/
def Joi (o : Obj) : Prop := (∃ es c, o = .map es c) ∨ ∃ cs t f, o = .cells cs t f ∧ (t = 86 ∨ t = 92)
def JoiAt (w : World) (r : Nat) : Prop := ∃ o, w.heap[r]? = some o ∧ Joi o
/-- whatever is no joiner's stands -/
def Kp (w w' : World) : Prop := ∀ (k : Nat) (o : Obj), w.heap[k]? = some o → ¬ Joi o → w'.heap[k]? = some o
theorem Kp.trans {a b c : World} (h : Kp a b) (k : Kp b c) : Kp a c := fun i o hi hj => k i o (h i o hi hj) hj
theorem Kp.of_below {w w' : World} {B : Nat} (h : Below B w w') (hB : w.heap.size ≤ B) : Kp w w' := fun i o hi _ => (h.block i (Nat.lt_of_lt_of_le (bk_lt' hi) hB)).trans hi
theorem Kp.of_grown {w w' : World} {r : Nat} (h : w.grownBy w' (some r)) (hr : JoiAt w r) : Kp w w' := fun i o hi hj => by
  obtain ⟨o', ho, hjo⟩ := hr
  refine (h.block i (bk_lt' hi) fun e => ?_).trans hi
  obtain rfl : i = r := Option.some.inj e
  rw [hi] at ho
  cases ho
  exact hj hjo
/-- what lies below B stands, and whatever is no joiner's -/
structure BK (B : Nat) (w0 w : World) : Prop where
  bel : Below B w0 w
  kp : Kp w0 w
section
variable {B : Nat} {w0 w w' : World}
theorem BK.refl (B : Nat) (w : World) : BK B w w := ⟨Below.refl _ _, fun _ _ h _ => h⟩
theorem BK.below (h : BK B w0 w) (hb : Below w.heap.size w w') (hB : B ≤ w.heap.size) : BK B w0 w' := ⟨h.bel.trans (hb.mono hB), h.kp.trans (Kp.of_below hb (Nat.le_refl _))⟩
theorem BK.drewN (h : BK B w0 w) (k : Nat) : BK B w0 (w.drewN k) := ⟨below_drewN h.bel k, h.kp⟩
theorem BK.drew (h : BK B w0 w) : BK B w0 w.drew := h.drewN 1
theorem BK.trans (h : BK B w0 w) (k : BK B w w') : BK B w0 w' := ⟨h.bel.trans k.bel, h.kp.trans k.kp⟩
theorem BK.grown {r : Nat} (h : BK B w0 w) (hg : w.grownBy w' (some r)) (hB : B ≤ w.heap.size) (hr : B ≤ r) (hj : JoiAt w r) : BK B w0 w' :=
  ⟨h.bel.grown hg hB (fun k e => by cases e; exact hr), h.kp.trans (Kp.of_grown hg hj)⟩
theorem BK.set {p : Addr} (h : BK B w0 w) (hp : B ≤ p.block) (hj : JoiAt w p.block) (v : Value) : BK B w0 (w.setCell p v) :=
  ⟨h.bel.setCell hp v, h.kp.trans (Kp.of_grown (only_set (only_refl w _) rfl v) hj)⟩
end
section
variable {w w' : World} {B g m : Nat} {most opn u : Int} {S : List BD} {b : BD}
theorem BdOk.joiM (h : BdOk w B b) : JoiAt w b.mb := by obtain ⟨D, ⟨es, c, hb, _⟩, _⟩ := h.mp; exact ⟨_, hb, .inl ⟨_, _, rfl⟩⟩
theorem JnV.joiM (h : JnV w B g m most opn u S) : JoiAt w m := by obtain ⟨D, ⟨es, c, hb, _⟩, _⟩ := h.map; exact ⟨_, hb, .inl ⟨_, _, rfl⟩⟩
theorem JnV.joiG (h : JnV w B g m most opn u S) : JoiAt w g := ⟨_, h.gb, .inr ⟨_, _, _, rfl, .inl rfl⟩⟩
end
end Go.Proofs.Ytoclbcpfiacoaaa
