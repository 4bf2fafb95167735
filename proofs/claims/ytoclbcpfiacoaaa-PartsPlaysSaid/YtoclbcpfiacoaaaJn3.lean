/- parts: Drop, whatever the joiner holds. -/
import Derived.Test.YtoclbcpfiacoaaaJn2
namespace Go.Proofs.Ytoclbcpfiacoaaa
set_option linter.unusedVariables false
set_option linter.unusedSimpArgs false
open Go.RowKit

def leftSum (left : Lit → Bool) : PL → Nat
  | [] => 0
  | q :: ps => (if left (kI q.1) then q.2.size else 0) + leftSum left ps
theorem same_kI (a b : Int) : (kI a).sameKey (kI b) = decide (a = b) := by simp [kI, Lit.sameKey]
theorem leftSum_all {left : Lit → Bool} : ∀ {ps : PL}, (∀ q ∈ ps, left (kI q.1) = true) → leftSum left ps = usedP ps
  | [], _ => rfl
  | q :: ps, h => by
    have h1 := h q (by simp)
    have h2 := leftSum_all (left := left) (ps := ps) fun q hq => h q (by simp [hq])
    unfold leftSum
    rw [if_pos h1, h2]
    simp [usedP]
theorem leftSum_no {left : Lit → Bool} : ∀ {ps : PL}, (∀ z, left z = false) → leftSum left ps = 0
  | [], _ => rfl
  | q :: ps, h => by
    unfold leftSum
    rw [if_neg (by rw [h]; simp), leftSum_no h]
theorem leftSum_out {left : Lit → Bool} {x : Int} : ∀ {ps : PL}, x ∉ ps.map Prod.fst → leftSum (fun z => left z && !z.sameKey (kI x)) ps = leftSum left ps
  | [], _ => rfl
  | q :: ps, h => by
    have h1 : q.1 ≠ x := fun e => h (by simp [← e])
    have h2 := leftSum_out (left := left) (x := x) (ps := ps) fun hm => h (by simp only [List.map_cons]; exact List.mem_cons_of_mem _ hm)
    unfold leftSum
    rw [h2, same_kI]
    simp [h1]
theorem leftSum_step {left : Lit → Bool} {x : Int} {c : ByteArray} (hl : left (kI x) = true) : ∀ {ps : PL}, (ps.map Prod.fst).Nodup → lookP ps x = some c → leftSum (fun z => left z && !z.sameKey (kI x)) ps + c.size = leftSum left ps
  | [], _, h => by cases h
  | q :: ps, hn, h => by
    rw [List.map_cons, List.nodup_cons] at hn
    unfold leftSum
    rw [same_kI]
    simp only [lookP] at h
    by_cases e : q.1 = x
    · rw [if_pos e] at h
      cases h
      rw [leftSum_out (by rw [← e]; exact hn.1), e]
      simp [hl]
      omega
    · rw [if_neg e] at h
      have ih := leftSum_step hl hn.2 h
      simp [e]
      omega
theorem usedA_erase {id : Int} {o : Int} {ps : PL} : ∀ {A : List AB}, A.Pairwise (fun p q => p.1 ≠ q.1) → findA A id = some (o, ps) → usedA (eraseA A id) + usedP ps = usedA A
  | [], _, h => by cases h
  | b :: A, hp, h => by
    obtain ⟨h1, h2⟩ := List.pairwise_cons.1 hp
    simp only [findA] at h
    unfold eraseA
    by_cases e : b.1 = id
    · rw [if_pos e] at h
      have hb : b.2 = (o, ps) := Option.some.inj h
      rw [List.filter_cons_of_neg (by simp [e])]
      have hk : A.filter (fun b => !decide (b.1 = id)) = A := List.filter_eq_self.2 fun c hc => by
        have := h1 c hc
        simp only [Bool.not_eq_true', decide_eq_false_iff_not]
        exact fun e' => this (e.trans e'.symm)
      rw [hk]
      simp [usedA, hb]
      omega
    · rw [if_neg e] at h
      rw [List.filter_cons_of_pos (by simp [e])]
      have ih := usedA_erase h2 h
      unfold eraseA at ih
      simp only [usedA, List.map_cons, List.sum_cons] at ih ⊢
      omega
theorem len_eraseS {id : Int} {b : BD} : ∀ {S : List BD}, S.Pairwise (fun p q => p.id ≠ q.id ∧ p.blk ≠ q.blk ∧ p.mb ≠ q.mb) → findS S id = some b → (eraseS S id).length + 1 = S.length
  | [], _, h => by cases h
  | c :: S, hp, h => by
    obtain ⟨h1, h2⟩ := List.pairwise_cons.1 hp
    simp only [findS] at h
    unfold eraseS
    by_cases e : c.id = id
    · rw [List.filter_cons_of_neg (by simp [e])]
      have hk : S.filter (fun b => !decide (b.id = id)) = S := List.filter_eq_self.2 fun d hd => by
        have := (h1 d hd).1
        simp only [Bool.not_eq_true', decide_eq_false_iff_not]
        exact fun e' => this (e.trans e'.symm)
      rw [hk]; simp
    · rw [if_neg e] at h
      rw [List.filter_cons_of_pos (by simp [e])]
      have ih := len_eraseS h2 h
      unfold eraseS at ih
      simp only [List.length_cons]
      omega
set_option maxRecDepth 100000 in
set_option maxHeartbeats 2000000 in
theorem drop_none {w : World} {B g m : Nat} {most opn : Int} {S : List BD} (h : JnS w B g m most opn S) (id : Int) (h0 : -9223372036854775808 ≤ id) (h1 : id ≤ 9223372036854775807) (hf : findS S id = none) :
    Calls Try.prog 17 #[.pointer (some ⟨g, 0, none⟩), .int .i64 id] w fun e w' => e = .returned (.bool false) ∧ w = w' := by
  have l1 : (Instr.lookup 84 (.map (some m)) (.int .i64 id) true).run Try.prog w = .ok (.tuple #[.pointer none, .bool false]) w := by
    rcases look_S h id h0 h1 with ⟨_, l⟩ | ⟨b, hb, _⟩
    · exact l
    · rw [hf] at hb; cases hb
  have c3 := h.gb.cell 3
  clear h
  go_enter Try.func17, Try.ntmps17
  go_wp2
  go_ret
  exact ⟨rfl, rfl⟩
/-- what Drop leaves, put together: the body's block out of the map, its bytes out of the count -/
theorem jn_drop {w w' w'' : World} {B g m : Nat} {most opn : Int} {S : List BD} {b : BD} {id : Int} {n : Nat} {D : DataW Nat} (h : JnS w B g m most opn S) (hf : findS S id = some b)
    (hg : w.grownBy w' (some g)) (hbk : Bk w' g 86 #[.int .i64 most, .int .i64 opn, .int .i64 (usedA (eraseA (S.map BD.strip) id) : Nat), .map (some m)]) (ho : w.ownsMap Try.prog 3 ptrElem m n D) (ha : AgrS D S) (hs : Maps.size D = S.length)
    (ho2 : w''.ownsMap Try.prog 3 ptrElem m n (D.del (kI id))) (hm : w'.mapTurned w'' m) : JnS w'' B g m most opn (eraseS S id) := by
  have hg2 := hm.grown
  have hsz : Maps.size (D.del (kI id)) = (eraseS S id).length := by
    have e1 := Maps.size_del (D := D) (k := kI id) (ho.tidy (Maps.int_keyed Try.underlying3))
    rw [(ha id).1, hf] at e1
    have e2 := len_eraseS h.nd hf
    simp at e1
    omega
  refine ⟨h.gB, h.mB, ?_, ⟨D.del (kI id), ?_, fun id' => ?_, hsz⟩, fun b' hb' => ?_, ?_, fun b' hb' => h.mm b' ((List.mem_filter.1 hb').1)⟩
  · rw [strip_erase]
    exact hbk.grown hg2 (by simpa using h.gm)
  · rw [← hsz]; exact tight ho2
  · rw [findS_erase]
    obtain ⟨a1, a2⟩ := ha id'
    by_cases e : id = id'
    · subst e
      rw [if_pos rfl]
      exact ⟨Maps.has_del_same, Maps.atKey_del_same _⟩
    · rw [if_neg e]
      have hne : kI id' ≠ kI id := fun e' => e (kI_inj e').symm
      exact ⟨(Maps.has_del_other hne).trans a1, (Maps.atKey_del_other hne _).trans a2⟩
  · have hb := h.bds b' ((List.mem_filter.1 hb').1)
    have x1 : b'.blk ≠ g := hb.bk.ne h.gb (by decide)
    have x2 : b'.mb ≠ g := by obtain ⟨D', ⟨es, c, hh, _⟩, _⟩ := hb.mp; exact (h.gb.ne_map hh).symm
    have x3 : b'.blk ≠ m := by obtain ⟨D', ⟨es, c, hh, _⟩, _⟩ := h.map; exact hb.bk.ne_map hh
    have x4 := h.mm b' ((List.mem_filter.1 hb').1)
    exact (hb.grown hg (by simpa using x1) (by simpa using x2)).grown hg2 (by simpa using x3) (by simpa using x4)
  · exact h.nd.sublist List.filter_sublist
set_option maxRecDepth 100000 in
set_option maxHeartbeats 2000000 in
theorem drop_some {w : World} {B g m : Nat} {most opn : Int} {S : List BD} {b : BD} (h : JnS w B g m most opn S) (hmost : most ≤ 1073741824) (hused : (usedA (S.map BD.strip) : Int) ≤ most) (id : Int) (h0 : -9223372036854775808 ≤ id) (h1 : id ≤ 9223372036854775807) (hf : findS S id = some b)
    (hnd : (b.ps.map Prod.fst).Nodup) :
    Calls Try.prog 17 #[.pointer (some ⟨g, 0, none⟩), .int .i64 id] w fun e w' => e = .returned (.bool true) ∧ JnS w' B g m most opn (eraseS S id) ∧ BK B w w' := by
  have l1 : (Instr.lookup 84 (.map (some m)) (.int .i64 id) true).run Try.prog w = .ok (.tuple #[.pointer (some ⟨b.blk, 0, none⟩), .bool true]) w := by
    rcases look_S h id h0 h1 with ⟨hb, _⟩ | ⟨b', hb, l⟩
    · rw [hf] at hb; cases hb
    · rw [hf] at hb; cases hb; exact l
  obtain ⟨hbS, hbid⟩ := findS_some hf
  have hb := h.bds b hbS
  obtain ⟨DT, hoT, haT, hsT⟩ := hb.mp
  have HAT := sh haT
  have HND := sh hnd
  have hgb := h.gb
  have hgl := h.gb.lt
  have hBg := h.gB
  have hTl := hb.ltm
  have hTg : b.mb ≠ g := by obtain ⟨es, c, hh, _⟩ := hoT; exact (hgb.ne_map hh).symm
  have hA : findA (S.map BD.strip) id = some (b.of, b.ps) := by rw [find_strip, hf]; rfl
  have hpw : (S.map BD.strip).Pairwise (fun p q => p.1 ≠ q.1) := List.pairwise_map.2 (h.nd.imp fun hab => hab.1)
  have hUE := usedA_erase hpw hA
  have HE := sh (show usedA (eraseA (S.map BD.strip) id) + leftSum (Maps.has DT) b.ps = usedA (S.map BD.strip) by
    rw [leftSum_all fun q hq => ?_]
    · exact hUE
    · rw [(haT q.1).1]
      cases hh : lookP b.ps q.1 with
      | none => exact absurd rfl (lookP_none hh q hq)
      | some t => rfl)
  obtain ⟨U, hU⟩ : ∃ U, usedA (S.map BD.strip) = U := ⟨_, rfl⟩
  obtain ⟨E, hE⟩ : ∃ E, usedA (eraseA (S.map BD.strip) id) = E := ⟨_, rfl⟩
  have HJ := sh (fun w' w'' n D hg hbk ho ha hs ho2 hm => jn_drop (w' := w') (w'' := w'') (n := n) (D := D) h hf hg hbk ho ha hs ho2 hm)
  obtain ⟨DM, hoM, haM, hsM⟩ := h.map
  have HM := sh (And.intro hoM (And.intro haM hsM))
  have hml := hoM.lt
  have hmg : m ≠ g := h.gm.symm
  have hmT : b.mb ≠ m := h.mm b hbS
  have hmB := h.mB
  rw [hE, hU] at HE
  rw [hE] at HJ
  rw [hU] at hgb hused
  have c2 := hgb.cell 2
  have c3 := hgb.cell 3
  have d1 := hb.bk.cell 1
  have hkey := key_int h0 h1
  have HK := sh hkey
  clear h haT hnd hsT hUE hU hE hA hpw haM hsM hoM hbid hkey
  go_enter Try.func17, Try.ntmps17
  go_wp2_with ((with_reducible show wpList _ _ _ _ _ _); refine wpList_range_own _ rfl (.tmp 25) 90 rfl 3 9 (Maps.int_keyed Try.underlying3) Try.underlying90 _ b.mb _ _ rfl hoT ?_; intro w1 hr1 hg1 hs1)
  go_frame
  go_loopw [8] (fun _ wr => ∃ (cnt : Nat) (left : Lit → Bool) (u : Nat), wr.ranges Try.prog 3 (plainElem Try.prog 9) b.mb w.heap.size b.ps.length DT left cnt ∧ u ≤ U ∧ Sh (u = E + leftSum left b.ps) ∧ Bk wr g 86 #[.int .i64 most, .int .i64 opn, .int .i64 (u : Int), .map (some m)] ∧ w.grownBy wr (some g)) (fun _ wr => wr.rangeLeft b.mb w.heap.size)
  case atStart => exact ⟨_, _, U, hr1, Nat.le_refl _, ⟨HE.out.symm⟩, (hg1.block g hgl (by simp)).trans hgb, hg1.but _⟩
  case round =>
    obtain ⟨cnt, left, u, hr, huU, HU, hJr, hgr⟩ := hrel
    have c3r := hJr.cell 3
    obtain ⟨w9, hrun, ho9, hm9⟩ := (HM.out.1.kept hgr (by simpa using hmg)).drop (Maps.int_keyed Try.underlying3) Try.underlying84 HK.out 0
    go_wp2_with ((with_reducible show wpList _ _ _ _ _ _); refine wpList_next_ranges _ rfl (.tmp 26) rfl 3 (Maps.int_keyed Try.underlying3) (plainElem Try.prog 9) (Value.int .i64) Value.string (fun key kl hkey => by obtain ⟨x, rfl, _⟩ := Maps.keyOf_int_inv Try.underlying3 hkey; exact ⟨x, rfl⟩) (fun v y hv => by obtain ⟨s, rfl, _⟩ := plainElem_string_inv Try.underlying9 hv; exact ⟨s, rfl⟩) b.mb w.heap.size b.ps.length DT left cnt rfl hr ?_ ?_)
    · intro hc0 hl0
      have hu := sh (show u = E by rw [HU.out, leftSum_no hl0]; omega)
      clear hl0 hc0
      go_wp2
      go_ret
      refine ⟨rfl, HJ.out _ _ _ _ hgr (by rw [← hu.out]; exact hJr) HM.out.1 HM.out.2.1 HM.out.2.2 ho9 hm9, ?_⟩
      have hb1 := (BK.refl B w).grown hgr (by omega) hBg ⟨_, hgb, .inr ⟨_, _, _, rfl, .inl rfl⟩⟩
      exact hb1.grown hm9.grown (by have := hgr.size; omega) hmB (by obtain ⟨es, c, es', c', hh, _⟩ := hm9; exact ⟨_, hh, .inl ⟨_, _, rfl⟩⟩)
    · intro x c kl a d w2 cnt' hkey hlk hv hat2 hrg hlt hg2 hsz2 hen
      clear hrun ho9 hm9
      obtain ⟨x', ex, rfl, hwx⟩ := Maps.keyOf_int_inv Try.underlying3 hkey
      cases ex
      change ∀ zd, DT.atKey (kI x) zd = a at hat2
      change left (kI x) = true at hlk
      change w2.ranges Try.prog 3 (plainElem Try.prog 9) b.mb w.heap.size b.ps.length DT (fun z => left z && !z.sameKey (kI x)) cnt' at hrg
      have hx := (HAT.out x).1
      rw [Maps.has_true_of_atKey hat2] at hx
      obtain ⟨t, ht⟩ : ∃ t, lookP b.ps x = some t := Option.isSome_iff_exists.1 hx.symm
      have hat := (HAT.out x).2
      rw [ht] at hat
      have hct : Value.string c = .string t := plain_str hv ((hat2 _).symm.trans hat)
      have hct2 : c = t := by injection hct
      subst hct2
      have HST := sh (leftSum_step hlk HND.out ht)
      have hst := HST.out
      have hJ2 : Bk w2 g 86 #[.int .i64 most, .int .i64 opn, .int .i64 (u : Int), .map (some m)] := (hg2.block g hJr.lt (fun e => by have := Option.some.inj e; omega)).trans hJr
      have c2' := hJ2.cell 2
      have f2 := hJ2.free 2
      have hcu : c.size ≤ u := by have := HU.out; omega
      have hu2 := sh (show u - c.size = E + leftSum (fun z => left z && !z.sameKey (kI x)) b.ps by have := HU.out; omega)
      have hkp := sh (fun v => hrg.kept (only_set (only_refl w2 (some g)) (p := ⟨g, 2, none⟩) rfl v) (fun e => hTg (Option.some.inj e)) (fun e => by have := Option.some.inj e; omega))
      have hgw : Sh (∀ v, w.grownBy (w2.setCell ⟨g, 2, none⟩ v) (some g)) := ⟨fun v => (hgr.andThen hg2 (fun j e => by cases e; exact .inl (Nat.le_refl _))).andThen (only_set (only_refl w2 (some g)) (p := ⟨g, 2, none⟩) rfl v) (fun j e => .inr e)⟩
      clear c3r hkey hv hat2 hx ht hat hlk hwx hct hst HST
      go_wp2
      go_roundw
      case rel => exact ⟨cnt', _, u - c.size, hkp.out _, by omega, hu2, by have h := hJ2.put 2 (.int .i64 ((u - c.size : Nat) : Int)); rw [show ((u - c.size : Nat) : Int) = (u : Int) - (c.size : Int) by omega] at h ⊢; exact h, hgw.out _⟩
      case measure =>
        rw [(hkp.out _).left_eq, hr.left_eq]
        exact hlt
end Go.Proofs.Ytoclbcpfiacoaaa
