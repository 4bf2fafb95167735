/- slices.Sorted(maps.Keys(m)) at string keys, laid at this program. -/
import Derived.Shelf.SlIter.Nil
import Derived.Shelf.SortM.Plain
import Derived.Shelf.SortM.SortNone
import Derived.Ground.GgzProg
import Derived.Ground.SlgmProg
import Derived.Test.YtckdahojhdbpjaaDoorProg
namespace Go.Proofs
open Go.Shelf
def Tryd.keys27_ren : Go.Shelf.Ren := ⟨fun | 7 => 27 | 10 => 32 | n => n, fun | 23 => 57 | 26 => 9 | 3 => 60 | 28 => 68 | 0 => 0 | 27 => 67 | 33 => 73 | 4 => 4 | n => n, fun | n => n⟩
theorem Tryd.keys27 : Go.Proofs.SlLaysZ.n7 Tryd.prog Tryd.keys27_ren := {
  mixed := by kernel_rfl
  f7 := ⟨Tryd.f27.name, by decide, Tryd.func27.trans (congrArg some (by kernel_rfl))⟩
  f10 := ⟨Tryd.f32.name, by decide, Tryd.func32.trans (congrArg some (by kernel_rfl))⟩
  t0 := Tryd.underlying0
  a0 := Tryd.isAgg0
  z0 := Tryd.sizeOf0
  v0 := Tryd.zeroValue0
  t4 := Tryd.underlying4
  a4 := Tryd.isAgg4
  z4 := Tryd.sizeOf4
  v4 := Tryd.zeroValue4
  t23 := Tryd.underlying57
  a23 := Tryd.isAgg57
  z23 := Tryd.sizeOf57
  v23 := Tryd.zeroValue57
  t26 := Tryd.underlying9
  a26 := Tryd.isAgg9
  z26 := Tryd.sizeOf9
  v26 := Tryd.zeroValue9
  t27 := Tryd.underlying67
  a27 := Tryd.isAgg67
  z27 := Tryd.sizeOf67
  v27 := Tryd.zeroValue67
  t28 := Tryd.underlying68
  a28 := Tryd.isAgg68
  z28 := Tryd.sizeOf68
  v28 := Tryd.zeroValue68
  t33 := Tryd.underlying73
  a33 := Tryd.isAgg73
  z33 := Tryd.sizeOf73
  v33 := Tryd.zeroValue73 }
def Tryd.sorted26_ren : Go.Shelf.Ren := ⟨fun | 6 => 26 | 8 => 30 | 9 => 31 | 11 => 33 | 13 => 35 | 12 => 34 | 23 => 45 | 24 => 46 | 14 => 36 | 15 => 37 | 16 => 38 | 17 => 39 | 18 => 40 | 19 => 41 | 20 => 42 | 21 => 43 | 22 => 44 | 25 => 47 | 26 => 48 | 27 => 49 | 28 => 50 | 29 => 51 | 30 => 52 | 31 => 53 | n => n, fun | 26 => 9 | 28 => 68 | 24 => 39 | 0 => 0 | 3 => 3 | 37 => 77 | 48 => 88 | 50 => 90 | 4 => 4 | 40 => 80 | 39 => 79 | 45 => 85 | 5 => 5 | 9 => 9 | 51 => 91 | 55 => 95 | 57 => 97 | 58 => 98 | 33 => 73 | n => n, fun | n => n⟩
theorem Tryd.sorted26 : Go.Proofs.SlLaysZ.n6 Tryd.prog Tryd.sorted26_ren := {
  mixed := by kernel_rfl
  f6 := ⟨Tryd.f26.name, by decide, Tryd.func26.trans (congrArg some (by kernel_rfl))⟩
  f8 := ⟨Tryd.f30.name, by decide, Tryd.func30.trans (congrArg some (by kernel_rfl))⟩
  f11 := ⟨Tryd.f33.name, by decide, Tryd.func33.trans (congrArg some (by kernel_rfl))⟩
  t0 := Tryd.underlying0
  a0 := Tryd.isAgg0
  z0 := Tryd.sizeOf0
  v0 := Tryd.zeroValue0
  t24 := Tryd.underlying39
  a24 := Tryd.isAgg39
  z24 := Tryd.sizeOf39
  v24 := Tryd.zeroValue39
  t26 := Tryd.underlying9
  a26 := Tryd.isAgg9
  z26 := Tryd.sizeOf9
  v26 := Tryd.zeroValue9
  t28 := Tryd.underlying68
  a28 := Tryd.isAgg68
  z28 := Tryd.sizeOf68
  v28 := Tryd.zeroValue68
  i26 := by kernel_rfl }
def Tryd.sort31_ren : Go.Shelf.Ren := ⟨fun | 6 => 31 | 8 => 35 | 9 => 34 | 19 => 45 | 20 => 46 | 21 => 36 | 22 => 37 | 23 => 38 | 24 => 39 | 25 => 40 | 26 => 41 | 27 => 42 | 28 => 43 | 29 => 44 | 36 => 47 | 31 => 48 | 32 => 49 | 37 => 50 | 38 => 51 | 39 => 52 | 41 => 53 | n => n, fun | 27 => 39 | 29 => 9 | 3 => 3 | 32 => 77 | 26 => 39 | 0 => 0 | 44 => 88 | 46 => 90 | 4 => 4 | 36 => 80 | 35 => 79 | 41 => 85 | 5 => 5 | 9 => 9 | 53 => 91 | 57 => 95 | 63 => 97 | 64 => 98 | n => n, fun | n => n⟩
theorem Tryd.sort31 : Go.Proofs.SlLaysM.n6 Tryd.prog Tryd.sort31_ren := {
  mixed := by kernel_rfl
  f6 := ⟨Tryd.f31.name, by decide, Tryd.func31.trans (congrArg some (by kernel_rfl))⟩
  f8 := Tryd.func35.trans (congrArg some (by kernel_rfl))
  f9 := ⟨Tryd.f34.name, by decide, Tryd.func34.trans (congrArg some (by kernel_rfl))⟩
  f19 := Tryd.func45.trans (congrArg some (by kernel_rfl))
  f20 := Tryd.func46.trans (congrArg some (by kernel_rfl))
  f21 := ⟨Tryd.f36.name, by decide, Tryd.func36.trans (congrArg some (by kernel_rfl))⟩
  f22 := ⟨Tryd.f37.name, by decide, Tryd.func37.trans (congrArg some (by kernel_rfl))⟩
  f23 := ⟨Tryd.f38.name, by decide, Tryd.func38.trans (congrArg some (by kernel_rfl))⟩
  f24 := ⟨Tryd.f39.name, by decide, Tryd.func39.trans (congrArg some (by kernel_rfl))⟩
  f25 := ⟨Tryd.f40.name, by decide, Tryd.func40.trans (congrArg some (by kernel_rfl))⟩
  f26 := ⟨Tryd.f41.name, by decide, Tryd.func41.trans (congrArg some (by kernel_rfl))⟩
  f27 := ⟨Tryd.f42.name, by decide, Tryd.func42.trans (congrArg some (by kernel_rfl))⟩
  f28 := ⟨Tryd.f43.name, by decide, Tryd.func43.trans (congrArg some (by kernel_rfl))⟩
  f29 := ⟨Tryd.f44.name, by decide, Tryd.func44.trans (congrArg some (by kernel_rfl))⟩
  f31 := Tryd.func48.trans (congrArg some (by kernel_rfl))
  f32 := Tryd.func49.trans (congrArg some (by kernel_rfl))
  f36 := ⟨Tryd.f47.name, by decide, Tryd.func47.trans (congrArg some (by kernel_rfl))⟩
  f37 := ⟨Tryd.f50.name, by decide, Tryd.func50.trans (congrArg some (by kernel_rfl))⟩
  f38 := ⟨Tryd.f51.name, by decide, Tryd.func51.trans (congrArg some (by kernel_rfl))⟩
  f39 := ⟨Tryd.f52.name, by decide, Tryd.func52.trans (congrArg some (by kernel_rfl))⟩
  f41 := ⟨Tryd.f53.name, by decide, Tryd.func53.trans (congrArg some (by kernel_rfl))⟩
  t0 := Tryd.underlying0
  a0 := Tryd.isAgg0
  z0 := Tryd.sizeOf0
  v0 := Tryd.zeroValue0
  t3 := Tryd.underlying3
  a3 := Tryd.isAgg3
  z3 := Tryd.sizeOf3
  v3 := Tryd.zeroValue3
  t4 := Tryd.underlying4
  a4 := Tryd.isAgg4
  z4 := Tryd.sizeOf4
  v4 := Tryd.zeroValue4
  t5 := Tryd.underlying5
  a5 := Tryd.isAgg5
  z5 := Tryd.sizeOf5
  v5 := Tryd.zeroValue5
  t9 := Tryd.underlying9
  a9 := Tryd.isAgg9
  z9 := Tryd.sizeOf9
  v9 := Tryd.zeroValue9
  t26 := Tryd.underlying39
  a26 := Tryd.isAgg39
  z26 := Tryd.sizeOf39
  v26 := Tryd.zeroValue39
  t27 := Tryd.underlying39
  a27 := Tryd.isAgg39
  z27 := Tryd.sizeOf39
  v27 := Tryd.zeroValue39
  t29 := Tryd.underlying9
  a29 := Tryd.isAgg9
  z29 := Tryd.sizeOf9
  v29 := Tryd.zeroValue9
  t32 := Tryd.underlying77
  a32 := Tryd.isAgg77
  z32 := Tryd.sizeOf77
  v32 := Tryd.zeroValue77
  t35 := Tryd.underlying79
  a35 := Tryd.isAgg79
  z35 := Tryd.sizeOf79
  v35 := Tryd.zeroValue79
  t36 := Tryd.underlying80
  a36 := Tryd.isAgg80
  z36 := Tryd.sizeOf80
  v36 := Tryd.zeroValue80
  t41 := Tryd.underlying85
  a41 := Tryd.isAgg85
  z41 := Tryd.sizeOf85
  v41 := Tryd.zeroValue85
  t44 := Tryd.underlying88
  a44 := Tryd.isAgg88
  z44 := Tryd.sizeOf88
  v44 := Tryd.zeroValue88
  t46 := Tryd.underlying90
  a46 := Tryd.isAgg90
  z46 := Tryd.sizeOf90
  v46 := Tryd.zeroValue90
  t53 := Tryd.underlying91
  a53 := Tryd.isAgg91
  z53 := Tryd.sizeOf91
  v53 := Tryd.zeroValue91
  t57 := Tryd.underlying95
  a57 := Tryd.isAgg95
  z57 := Tryd.sizeOf95
  v57 := Tryd.zeroValue95
  t63 := Tryd.underlying97
  a63 := Tryd.isAgg97
  z63 := Tryd.sizeOf97
  v63 := Tryd.zeroValue97
  t64 := Tryd.underlying98
  a64 := Tryd.isAgg98
  z64 := Tryd.sizeOf98
  v64 := Tryd.zeroValue98 }
open Go.RowKit Go.Maps Go.Sort
theorem Tryd.sorts26 (m : Nat) : AnyZ.SortsIn Tryd.prog Tryd.sorted26_ren Fence.wide m :=
  ⟨fun blk off cap ss W hH hblk hsz => callsIn_wide.2 (AnyM.slices_Sort_string Tryd.sort31 blk off cap ss W hH hblk hsz),
   fun p cap W => callsIn_wide.2 (AnyM.slices_Sort_string_none Tryd.sort31 p cap W)⟩

theorem Tryd.maps_Keys_27 (mb : Option Nat) (W : World) : CallsIn Fence.wide 5 Tryd.prog 27 #[.map mb] W fun e w' => e = .returned (.func (.func 32) #[] #[.pointer (some ⟨W.heap.size, 0, none⟩)]) ∧ w' = W.alloc (.cells #[.map mb] 57) :=
  AnyZ.keys_in Tryd.keys27 Fence.wide 5 trivial rfl mb W

set_option maxHeartbeats 1000000 in
theorem Tryd.slices_Sorted_keys_26_27 {H : Type} (b nn : Nat) (D0 : DataW H) (R : Value → Option (DataW H × List MemPlace)) (w : World) (hown : w.ownsMap Tryd.prog 9 R b nn D0) (hmax : Maps.size D0 ≤ maxLen) (hbytes : Maps.size D0 * 16 ≤ 140737488355328) :
    CallsIn Fence.wide 5 Tryd.prog 26 #[.func (.func 32) #[] #[.pointer (some ⟨w.heap.size, 0, none⟩)]] (w.alloc (.cells #[.map (some b)] 57)) fun e w' => ∃ (v : Value) (ss : List (List UInt8)), e = .returned v ∧ ss.Perm (strKeys D0) ∧
      w'.ownsRow (w.alloc (.cells #[.map (some b)] 57)).heap.size 9 1 v ss.length ((ss.mergeSort (fun x y => decide (x ≤ y))).map encStr) ∧ (v = .slice none 0 0 ↔ ss = []) ∧ Below (w.alloc (.cells #[.map (some b)] 57)).heap.size (w.alloc (.cells #[.map (some b)] 57)) w' := by
  have hbl := hown.lt
  have hseq : SeqGives Fence.wide 2 Tryd.prog 32 #[.pointer (some ⟨w.heap.size, 0, none⟩)] encStr (fun ss => ss.Perm (strKeys D0)) (Maps.size D0) (w.alloc (.cells #[.map (some b)] 57)) :=
    AnyZ.keys_gives (ρ := Tryd.keys27_ren) { Tryd.keys27 with } Fence.wide _ trivial rfl (by omega) w.heap.size b nn D0 _ (by simp) (by simp) (by
      obtain ⟨es, clock, hb, Ft, hs, hD⟩ := hown
      exact ⟨es, clock, (Below.heap_alloc _ _ b hbl).trans hb, Ft, hs, hD⟩)
  exact AnyZ.sorted_in Tryd.sorted26 Fence.wide 5 trivial trivial trivial trivial rfl (by omega) (Tryd.sorts26 _) (enters_of Tryd.func31 (by kernel_rfl) rfl) 32 #[.pointer (some ⟨w.heap.size, 0, none⟩)] trivial (enters_of Tryd.func32 (by kernel_rfl) rfl) _ _ hmax hbytes _ hseq

set_option maxHeartbeats 1000000 in
theorem Tryd.slices_Sorted_keys_nil_26_27 (w : World) :
    CallsIn Fence.wide 5 Tryd.prog 26 #[.func (.func 32) #[] #[.pointer (some ⟨w.heap.size, 0, none⟩)]] (w.alloc (.cells #[.map none] 57)) fun e w' => ∃ (v : Value) (ss : List (List UInt8)), e = .returned v ∧ ss = [] ∧
      w'.ownsRow (w.alloc (.cells #[.map none] 57)).heap.size 9 1 v ss.length ((ss.mergeSort (fun x y => decide (x ≤ y))).map encStr) ∧ (v = .slice none 0 0 ↔ ss = []) ∧ Below (w.alloc (.cells #[.map none] 57)).heap.size (w.alloc (.cells #[.map none] 57)) w' := by
  have hseq : SeqGives Fence.wide 2 Tryd.prog 32 #[.pointer (some ⟨w.heap.size, 0, none⟩)] encStr (fun ss : List (List UInt8) => ss = []) 0 (w.alloc (.cells #[.map none] 57)) :=
    AnyZ.keys_gives_nil (ρ := Tryd.keys27_ren) { Tryd.keys27 with } Fence.wide _ trivial rfl w.heap.size _ (by simp) (by simp)
  exact AnyZ.sorted_in Tryd.sorted26 Fence.wide 5 trivial trivial trivial trivial rfl (by omega) (Tryd.sorts26 _) (enters_of Tryd.func31 (by kernel_rfl) rfl) 32 #[.pointer (some ⟨w.heap.size, 0, none⟩)] trivial (enters_of Tryd.func32 (by kernel_rfl) rfl) _ 0 (Nat.zero_le _) (by omega) _ hseq
end Go.Proofs
