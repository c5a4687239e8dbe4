/-
  DERIVED: THE SHELF's CONTRACTS AT THIS DUMP, IN PLAIN WORDS (tools/lay-plain.mjs out of 'TrydIter.lean', which tools/lay-shelf.mjs wrote): THE SAME DECLARATIONS UNDER THE SAME NAMES: 'import', 'namespace', 'open', 'def', 'theorem' AND NOTHING ELSE: no command of the shelf's: FOR A HAND-IN. Each laying: the table of numbers ('.._ren') and one theorem, a field a fact of the dump's own or the kernel's comparison; each contract: ONE APPLICATION.
-/
import Derived.Shelf.SlGeneric
import Derived.Shelf.SlIter.Nil
import Derived.Shelf.SortM.Plain
import Derived.Shelf.SortM.SortNone
import Derived.Ground.GgzProg
import Derived.Ground.SlgmProg
import Derived.Test.YtckpffkofeoinaaDoorProg
namespace Go.Proofs
open Go.Shelf
def Tryd.keys25_ren : Go.Shelf.Ren := ⟨fun | 7 => 25 | 10 => 50 | n => n, fun | 23 => 40 | 26 => 9 | 3 => 3 | 28 => 53 | 0 => 0 | 27 => 52 | 33 => 23 | 4 => 4 | n => n, fun | n => n⟩
theorem Tryd.keys25 : Go.Proofs.SlLaysZ.n7 Tryd.prog Tryd.keys25_ren := {
  mixed := by kernel_rfl
  f7 := ⟨Tryd.f25.name, by decide, Tryd.func25.trans (congrArg some (by kernel_rfl))⟩
  f10 := ⟨Tryd.f50.name, by decide, Tryd.func50.trans (congrArg some (by kernel_rfl))⟩
  t0 := Tryd.underlying0
  a0 := Tryd.isAgg0
  z0 := Tryd.sizeOf0
  v0 := Tryd.zeroValue0
  t4 := Tryd.underlying4
  a4 := Tryd.isAgg4
  z4 := Tryd.sizeOf4
  v4 := Tryd.zeroValue4
  t23 := Tryd.underlying40
  a23 := Tryd.isAgg40
  z23 := Tryd.sizeOf40
  v23 := Tryd.zeroValue40
  t26 := Tryd.underlying9
  a26 := Tryd.isAgg9
  z26 := Tryd.sizeOf9
  v26 := Tryd.zeroValue9
  t27 := Tryd.underlying52
  a27 := Tryd.isAgg52
  z27 := Tryd.sizeOf52
  v27 := Tryd.zeroValue52
  t28 := Tryd.underlying53
  a28 := Tryd.isAgg53
  z28 := Tryd.sizeOf53
  v28 := Tryd.zeroValue53
  t33 := Tryd.underlying23
  a33 := Tryd.isAgg23
  z33 := Tryd.sizeOf23
  v33 := Tryd.zeroValue23 }
def Tryd.sorted24_ren : Go.Shelf.Ren := ⟨fun | 6 => 24 | 8 => 48 | 9 => 49 | 11 => 64 | 13 => 66 | 12 => 65 | 23 => 84 | 24 => 85 | 14 => 75 | 15 => 76 | 16 => 77 | 17 => 78 | 18 => 79 | 19 => 80 | 20 => 81 | 21 => 82 | 22 => 83 | 25 => 91 | 26 => 92 | 27 => 93 | 28 => 94 | 29 => 95 | 30 => 96 | 31 => 98 | n => n, fun | 26 => 9 | 28 => 53 | 24 => 28 | 0 => 0 | 3 => 3 | 37 => 113 | 48 => 60 | 50 => 128 | 4 => 4 | 40 => 121 | 39 => 120 | 45 => 55 | 5 => 5 | 9 => 9 | 51 => 131 | 55 => 135 | 57 => 143 | 58 => 144 | 33 => 23 | n => n, fun | n => n⟩
theorem Tryd.sorted24 : Go.Proofs.SlLaysZ.n6 Tryd.prog Tryd.sorted24_ren := {
  mixed := by kernel_rfl
  f6 := ⟨Tryd.f24.name, by decide, Tryd.func24.trans (congrArg some (by kernel_rfl))⟩
  f8 := ⟨Tryd.f48.name, by decide, Tryd.func48.trans (congrArg some (by kernel_rfl))⟩
  f11 := ⟨Tryd.f64.name, by decide, Tryd.func64.trans (congrArg some (by kernel_rfl))⟩
  t0 := Tryd.underlying0
  a0 := Tryd.isAgg0
  z0 := Tryd.sizeOf0
  v0 := Tryd.zeroValue0
  t24 := Tryd.underlying28
  a24 := Tryd.isAgg28
  z24 := Tryd.sizeOf28
  v24 := Tryd.zeroValue28
  t26 := Tryd.underlying9
  a26 := Tryd.isAgg9
  z26 := Tryd.sizeOf9
  v26 := Tryd.zeroValue9
  t28 := Tryd.underlying53
  a28 := Tryd.isAgg53
  z28 := Tryd.sizeOf53
  v28 := Tryd.zeroValue53
  i26 := by kernel_rfl }
def Tryd.sort49_ren : Go.Shelf.Ren := ⟨fun | 6 => 49 | 8 => 66 | 9 => 65 | 19 => 84 | 20 => 85 | 21 => 75 | 22 => 76 | 23 => 77 | 24 => 78 | 25 => 79 | 26 => 80 | 27 => 81 | 28 => 82 | 29 => 83 | 36 => 91 | 31 => 92 | 32 => 93 | 37 => 94 | 38 => 95 | 39 => 96 | 41 => 98 | n => n, fun | 27 => 28 | 29 => 9 | 3 => 3 | 32 => 113 | 26 => 28 | 0 => 0 | 44 => 60 | 46 => 128 | 4 => 4 | 36 => 121 | 35 => 120 | 41 => 55 | 5 => 5 | 9 => 9 | 53 => 131 | 57 => 135 | 63 => 143 | 64 => 144 | n => n, fun | n => n⟩
theorem Tryd.sort49 : Go.Proofs.SlLaysM.n6 Tryd.prog Tryd.sort49_ren := {
  mixed := by kernel_rfl
  f6 := ⟨Tryd.f49.name, by decide, Tryd.func49.trans (congrArg some (by kernel_rfl))⟩
  f8 := Tryd.func66.trans (congrArg some (by kernel_rfl))
  f9 := ⟨Tryd.f65.name, by decide, Tryd.func65.trans (congrArg some (by kernel_rfl))⟩
  f19 := Tryd.func84.trans (congrArg some (by kernel_rfl))
  f20 := Tryd.func85.trans (congrArg some (by kernel_rfl))
  f21 := ⟨Tryd.f75.name, by decide, Tryd.func75.trans (congrArg some (by kernel_rfl))⟩
  f22 := ⟨Tryd.f76.name, by decide, Tryd.func76.trans (congrArg some (by kernel_rfl))⟩
  f23 := ⟨Tryd.f77.name, by decide, Tryd.func77.trans (congrArg some (by kernel_rfl))⟩
  f24 := ⟨Tryd.f78.name, by decide, Tryd.func78.trans (congrArg some (by kernel_rfl))⟩
  f25 := ⟨Tryd.f79.name, by decide, Tryd.func79.trans (congrArg some (by kernel_rfl))⟩
  f26 := ⟨Tryd.f80.name, by decide, Tryd.func80.trans (congrArg some (by kernel_rfl))⟩
  f27 := ⟨Tryd.f81.name, by decide, Tryd.func81.trans (congrArg some (by kernel_rfl))⟩
  f28 := ⟨Tryd.f82.name, by decide, Tryd.func82.trans (congrArg some (by kernel_rfl))⟩
  f29 := ⟨Tryd.f83.name, by decide, Tryd.func83.trans (congrArg some (by kernel_rfl))⟩
  f31 := Tryd.func92.trans (congrArg some (by kernel_rfl))
  f32 := Tryd.func93.trans (congrArg some (by kernel_rfl))
  f36 := ⟨Tryd.f91.name, by decide, Tryd.func91.trans (congrArg some (by kernel_rfl))⟩
  f37 := ⟨Tryd.f94.name, by decide, Tryd.func94.trans (congrArg some (by kernel_rfl))⟩
  f38 := ⟨Tryd.f95.name, by decide, Tryd.func95.trans (congrArg some (by kernel_rfl))⟩
  f39 := ⟨Tryd.f96.name, by decide, Tryd.func96.trans (congrArg some (by kernel_rfl))⟩
  f41 := ⟨Tryd.f98.name, by decide, Tryd.func98.trans (congrArg some (by kernel_rfl))⟩
  t0 := Tryd.underlying0
  a0 := Tryd.isAgg0
  z0 := Tryd.sizeOf0
  v0 := Tryd.zeroValue0
  t3 := Tryd.underlying3
  a3 := Tryd.isAgg3
  z3 := Tryd.sizeOf3
  v3 := Tryd.zeroValue3
  t4 := Tryd.underlying4
  a4 := Tryd.isAgg4
  z4 := Tryd.sizeOf4
  v4 := Tryd.zeroValue4
  t5 := Tryd.underlying5
  a5 := Tryd.isAgg5
  z5 := Tryd.sizeOf5
  v5 := Tryd.zeroValue5
  t9 := Tryd.underlying9
  a9 := Tryd.isAgg9
  z9 := Tryd.sizeOf9
  v9 := Tryd.zeroValue9
  t26 := Tryd.underlying28
  a26 := Tryd.isAgg28
  z26 := Tryd.sizeOf28
  v26 := Tryd.zeroValue28
  t27 := Tryd.underlying28
  a27 := Tryd.isAgg28
  z27 := Tryd.sizeOf28
  v27 := Tryd.zeroValue28
  t29 := Tryd.underlying9
  a29 := Tryd.isAgg9
  z29 := Tryd.sizeOf9
  v29 := Tryd.zeroValue9
  t32 := Tryd.underlying113
  a32 := Tryd.isAgg113
  z32 := Tryd.sizeOf113
  v32 := Tryd.zeroValue113
  t35 := Tryd.underlying120
  a35 := Tryd.isAgg120
  z35 := Tryd.sizeOf120
  v35 := Tryd.zeroValue120
  t36 := Tryd.underlying121
  a36 := Tryd.isAgg121
  z36 := Tryd.sizeOf121
  v36 := Tryd.zeroValue121
  t41 := Tryd.underlying55
  a41 := Tryd.isAgg55
  z41 := Tryd.sizeOf55
  v41 := Tryd.zeroValue55
  t44 := Tryd.underlying60
  a44 := Tryd.isAgg60
  z44 := Tryd.sizeOf60
  v44 := Tryd.zeroValue60
  t46 := Tryd.underlying128
  a46 := Tryd.isAgg128
  z46 := Tryd.sizeOf128
  v46 := Tryd.zeroValue128
  t53 := Tryd.underlying131
  a53 := Tryd.isAgg131
  z53 := Tryd.sizeOf131
  v53 := Tryd.zeroValue131
  t57 := Tryd.underlying135
  a57 := Tryd.isAgg135
  z57 := Tryd.sizeOf135
  v57 := Tryd.zeroValue135
  t63 := Tryd.underlying143
  a63 := Tryd.isAgg143
  z63 := Tryd.sizeOf143
  v63 := Tryd.zeroValue143
  t64 := Tryd.underlying144
  a64 := Tryd.isAgg144
  z64 := Tryd.sizeOf144
  v64 := Tryd.zeroValue144 }
open Go.RowKit Go.Maps Go.Sort in
/-- slices.Sort's two contracts at this dump, at the fence that asks nothing. -/
theorem Tryd.sorts24 (m : Nat) : AnyZ.SortsIn Tryd.prog Tryd.sorted24_ren Fence.wide m :=
  ⟨fun blk off cap ss W hH hblk hsz => callsIn_wide.2 (AnyM.slices_Sort_string Tryd.sort49 blk off cap ss W hH hblk hsz),
   fun p cap W => callsIn_wide.2 (AnyM.slices_Sort_string_none Tryd.sort49 p cap W)⟩
open Go.RowKit Go.Maps Go.Sort in
/-- **maps.Keys[map[string]int,string,int], at whatever map, the nil one too:** a function value over ONE NEW BLOCK, which holds the map. -/
theorem Tryd.maps_Keys_25 (mb : Option Nat) (W : World) : CallsIn Fence.wide 5 Tryd.prog 25 #[.map mb] W fun e w' => e = .returned (.func (.func 50) #[] #[.pointer (some ⟨W.heap.size, 0, none⟩)]) ∧ w' = W.alloc (.cells #[.map mb] 40) :=
  AnyZ.keys_in Tryd.keys25 Fence.wide 5 trivial rfl mb W
open Go.RowKit Go.Maps Go.Sort in
/-- **slices.Sorted[string] AT WHAT maps.Keys[map[string]int,string,int] HANDED BACK FOR A MAP THAT IS NOT nil** ('w': the world AHEAD of maps.Keys' call): A NEW SLICE THAT HOLDS THE MAP's KEYS, SORTED; nil just where it has none; nothing that lay before has turned. -/
theorem Tryd.slices_Sorted_keys_24_25 {H : Type} (b nn : Nat) (D0 : DataW H) (R : Value → Option (DataW H × List MemPlace)) (w : World) (hown : w.ownsMap Tryd.prog 9 R b nn D0) (hmax : Maps.size D0 ≤ maxLen) (hbytes : Maps.size D0 * 16 ≤ 140737488355328) :
    CallsIn Fence.wide 5 Tryd.prog 24 #[.func (.func 50) #[] #[.pointer (some ⟨w.heap.size, 0, none⟩)]] (w.alloc (.cells #[.map (some b)] 40)) fun e w' => ∃ (v : Value) (ss : List (List UInt8)), e = .returned v ∧ ss.Perm (strKeys D0) ∧
      w'.ownsRow (w.alloc (.cells #[.map (some b)] 40)).heap.size 9 1 v ss.length ((ss.mergeSort (fun x y => decide (x ≤ y))).map encStr) ∧ (v = .slice none 0 0 ↔ ss = []) ∧ Below (w.alloc (.cells #[.map (some b)] 40)).heap.size (w.alloc (.cells #[.map (some b)] 40)) w' := by
  have hbl := hown.lt
  have hseq : SeqGives Fence.wide 2 Tryd.prog 50 #[.pointer (some ⟨w.heap.size, 0, none⟩)] encStr (fun ss => ss.Perm (strKeys D0)) (Maps.size D0) (w.alloc (.cells #[.map (some b)] 40)) :=
    AnyZ.keys_gives (ρ := Tryd.keys25_ren) { Tryd.keys25 with } Fence.wide _ trivial rfl (by omega) w.heap.size b nn D0 _ (by simp) (by simp) (by
      obtain ⟨es, clock, hb, Ft, hs, hD⟩ := hown
      exact ⟨es, clock, (Below.heap_alloc _ _ b hbl).trans hb, Ft, hs, hD⟩)
  exact AnyZ.sorted_in Tryd.sorted24 Fence.wide 5 trivial trivial trivial trivial rfl (by omega) (Tryd.sorts24 _) (enters_of Tryd.func49 (by kernel_rfl) rfl) 50 #[.pointer (some ⟨w.heap.size, 0, none⟩)] trivial (enters_of Tryd.func50 (by kernel_rfl) rfl) _ _ hmax hbytes _ hseq
open Go.RowKit Go.Maps Go.Sort in
/-- **.. AND FOR THE nil MAP: nil.** -/
theorem Tryd.slices_Sorted_keys_nil_24_25 (w : World) :
    CallsIn Fence.wide 5 Tryd.prog 24 #[.func (.func 50) #[] #[.pointer (some ⟨w.heap.size, 0, none⟩)]] (w.alloc (.cells #[.map none] 40)) fun e w' => ∃ (v : Value) (ss : List (List UInt8)), e = .returned v ∧ ss = [] ∧
      w'.ownsRow (w.alloc (.cells #[.map none] 40)).heap.size 9 1 v ss.length ((ss.mergeSort (fun x y => decide (x ≤ y))).map encStr) ∧ (v = .slice none 0 0 ↔ ss = []) ∧ Below (w.alloc (.cells #[.map none] 40)).heap.size (w.alloc (.cells #[.map none] 40)) w' := by
  have hseq : SeqGives Fence.wide 2 Tryd.prog 50 #[.pointer (some ⟨w.heap.size, 0, none⟩)] encStr (fun ss : List (List UInt8) => ss = []) 0 (w.alloc (.cells #[.map none] 40)) :=
    AnyZ.keys_gives_nil (ρ := Tryd.keys25_ren) { Tryd.keys25 with } Fence.wide _ trivial rfl w.heap.size _ (by simp) (by simp)
  exact AnyZ.sorted_in Tryd.sorted24 Fence.wide 5 trivial trivial trivial trivial rfl (by omega) (Tryd.sorts24 _) (enters_of Tryd.func49 (by kernel_rfl) rfl) 50 #[.pointer (some ⟨w.heap.size, 0, none⟩)] trivial (enters_of Tryd.func50 (by kernel_rfl) rfl) _ 0 (Nat.zero_le _) (by omega) _ hseq
end Go.Proofs
