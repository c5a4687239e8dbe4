/-
  DERIVED: THE SHELF's CONTRACTS AT THIS DUMP, IN PLAIN WORDS (tools/lay-plain.mjs out of 'TryzIter.lean', which tools/lay-shelf.mjs wrote): THE SAME DECLARATIONS UNDER THE SAME NAMES: 'import', 'namespace', 'open', 'def', 'theorem' AND NOTHING ELSE: no command of the shelf's: FOR A HAND-IN. Each laying: the table of numbers ('.._ren') and one theorem, a field a fact of the dump's own or the kernel's comparison; each contract: ONE APPLICATION.
-/
import Derived.Shelf.SlGeneric
import Derived.Shelf.SlIter.Nil
import Derived.Shelf.SortM.Plain
import Derived.Shelf.SortM.SortNone
import Derived.Ground.GgzProg
import Derived.Ground.SlgmProg
import Derived.Test.YtckpffkofeoinaaGreatDoorProg
namespace Go.Proofs
open Go.Shelf
def Tryz.keys28_ren : Go.Shelf.Ren := ⟨fun | 7 => 28 | 10 => 57 | n => n, fun | 23 => 47 | 26 => 9 | 3 => 3 | 28 => 68 | 0 => 0 | 27 => 67 | 33 => 105 | 4 => 4 | n => n, fun | n => n⟩
theorem Tryz.keys28 : Go.Proofs.SlLaysZ.n7 Tryz.prog Tryz.keys28_ren := {
  mixed := by kernel_rfl
  f7 := ⟨Tryz.f28.name, by decide, Tryz.func28.trans (congrArg some (by kernel_rfl))⟩
  f10 := ⟨Tryz.f57.name, by decide, Tryz.func57.trans (congrArg some (by kernel_rfl))⟩
  t0 := Tryz.underlying0
  a0 := Tryz.isAgg0
  z0 := Tryz.sizeOf0
  v0 := Tryz.zeroValue0
  t4 := Tryz.underlying4
  a4 := Tryz.isAgg4
  z4 := Tryz.sizeOf4
  v4 := Tryz.zeroValue4
  t23 := Tryz.underlying47
  a23 := Tryz.isAgg47
  z23 := Tryz.sizeOf47
  v23 := Tryz.zeroValue47
  t26 := Tryz.underlying9
  a26 := Tryz.isAgg9
  z26 := Tryz.sizeOf9
  v26 := Tryz.zeroValue9
  t27 := Tryz.underlying67
  a27 := Tryz.isAgg67
  z27 := Tryz.sizeOf67
  v27 := Tryz.zeroValue67
  t28 := Tryz.underlying68
  a28 := Tryz.isAgg68
  z28 := Tryz.sizeOf68
  v28 := Tryz.zeroValue68
  t33 := Tryz.underlying105
  a33 := Tryz.isAgg105
  z33 := Tryz.sizeOf105
  v33 := Tryz.zeroValue105 }
def Tryz.sorted27_ren : Go.Shelf.Ren := ⟨fun | 6 => 27 | 8 => 55 | 9 => 56 | 11 => 76 | 13 => 78 | 12 => 77 | 23 => 103 | 24 => 104 | 14 => 94 | 15 => 95 | 16 => 96 | 17 => 97 | 18 => 98 | 19 => 99 | 20 => 100 | 21 => 101 | 22 => 102 | 25 => 111 | 26 => 112 | 27 => 113 | 28 => 114 | 29 => 115 | 30 => 116 | 31 => 118 | n => n, fun | 26 => 9 | 28 => 68 | 24 => 33 | 0 => 0 | 3 => 3 | 37 => 130 | 48 => 88 | 50 => 146 | 4 => 4 | 40 => 139 | 39 => 138 | 45 => 63 | 5 => 5 | 9 => 9 | 51 => 149 | 55 => 153 | 57 => 161 | 58 => 162 | 33 => 105 | n => n, fun | n => n⟩
theorem Tryz.sorted27 : Go.Proofs.SlLaysZ.n6 Tryz.prog Tryz.sorted27_ren := {
  mixed := by kernel_rfl
  f6 := ⟨Tryz.f27.name, by decide, Tryz.func27.trans (congrArg some (by kernel_rfl))⟩
  f8 := ⟨Tryz.f55.name, by decide, Tryz.func55.trans (congrArg some (by kernel_rfl))⟩
  f11 := ⟨Tryz.f76.name, by decide, Tryz.func76.trans (congrArg some (by kernel_rfl))⟩
  t0 := Tryz.underlying0
  a0 := Tryz.isAgg0
  z0 := Tryz.sizeOf0
  v0 := Tryz.zeroValue0
  t24 := Tryz.underlying33
  a24 := Tryz.isAgg33
  z24 := Tryz.sizeOf33
  v24 := Tryz.zeroValue33
  t26 := Tryz.underlying9
  a26 := Tryz.isAgg9
  z26 := Tryz.sizeOf9
  v26 := Tryz.zeroValue9
  t28 := Tryz.underlying68
  a28 := Tryz.isAgg68
  z28 := Tryz.sizeOf68
  v28 := Tryz.zeroValue68
  i26 := by kernel_rfl }
def Tryz.sort56_ren : Go.Shelf.Ren := ⟨fun | 6 => 56 | 8 => 78 | 9 => 77 | 19 => 103 | 20 => 104 | 21 => 94 | 22 => 95 | 23 => 96 | 24 => 97 | 25 => 98 | 26 => 99 | 27 => 100 | 28 => 101 | 29 => 102 | 36 => 111 | 31 => 112 | 32 => 113 | 37 => 114 | 38 => 115 | 39 => 116 | 41 => 118 | n => n, fun | 27 => 33 | 29 => 9 | 3 => 3 | 32 => 130 | 26 => 33 | 0 => 0 | 44 => 88 | 46 => 146 | 4 => 4 | 36 => 139 | 35 => 138 | 41 => 63 | 5 => 5 | 9 => 9 | 53 => 149 | 57 => 153 | 63 => 161 | 64 => 162 | n => n, fun | n => n⟩
theorem Tryz.sort56 : Go.Proofs.SlLaysM.n6 Tryz.prog Tryz.sort56_ren := {
  mixed := by kernel_rfl
  f6 := ⟨Tryz.f56.name, by decide, Tryz.func56.trans (congrArg some (by kernel_rfl))⟩
  f8 := Tryz.func78.trans (congrArg some (by kernel_rfl))
  f9 := ⟨Tryz.f77.name, by decide, Tryz.func77.trans (congrArg some (by kernel_rfl))⟩
  f19 := Tryz.func103.trans (congrArg some (by kernel_rfl))
  f20 := Tryz.func104.trans (congrArg some (by kernel_rfl))
  f21 := ⟨Tryz.f94.name, by decide, Tryz.func94.trans (congrArg some (by kernel_rfl))⟩
  f22 := ⟨Tryz.f95.name, by decide, Tryz.func95.trans (congrArg some (by kernel_rfl))⟩
  f23 := ⟨Tryz.f96.name, by decide, Tryz.func96.trans (congrArg some (by kernel_rfl))⟩
  f24 := ⟨Tryz.f97.name, by decide, Tryz.func97.trans (congrArg some (by kernel_rfl))⟩
  f25 := ⟨Tryz.f98.name, by decide, Tryz.func98.trans (congrArg some (by kernel_rfl))⟩
  f26 := ⟨Tryz.f99.name, by decide, Tryz.func99.trans (congrArg some (by kernel_rfl))⟩
  f27 := ⟨Tryz.f100.name, by decide, Tryz.func100.trans (congrArg some (by kernel_rfl))⟩
  f28 := ⟨Tryz.f101.name, by decide, Tryz.func101.trans (congrArg some (by kernel_rfl))⟩
  f29 := ⟨Tryz.f102.name, by decide, Tryz.func102.trans (congrArg some (by kernel_rfl))⟩
  f31 := Tryz.func112.trans (congrArg some (by kernel_rfl))
  f32 := Tryz.func113.trans (congrArg some (by kernel_rfl))
  f36 := ⟨Tryz.f111.name, by decide, Tryz.func111.trans (congrArg some (by kernel_rfl))⟩
  f37 := ⟨Tryz.f114.name, by decide, Tryz.func114.trans (congrArg some (by kernel_rfl))⟩
  f38 := ⟨Tryz.f115.name, by decide, Tryz.func115.trans (congrArg some (by kernel_rfl))⟩
  f39 := ⟨Tryz.f116.name, by decide, Tryz.func116.trans (congrArg some (by kernel_rfl))⟩
  f41 := ⟨Tryz.f118.name, by decide, Tryz.func118.trans (congrArg some (by kernel_rfl))⟩
  t0 := Tryz.underlying0
  a0 := Tryz.isAgg0
  z0 := Tryz.sizeOf0
  v0 := Tryz.zeroValue0
  t3 := Tryz.underlying3
  a3 := Tryz.isAgg3
  z3 := Tryz.sizeOf3
  v3 := Tryz.zeroValue3
  t4 := Tryz.underlying4
  a4 := Tryz.isAgg4
  z4 := Tryz.sizeOf4
  v4 := Tryz.zeroValue4
  t5 := Tryz.underlying5
  a5 := Tryz.isAgg5
  z5 := Tryz.sizeOf5
  v5 := Tryz.zeroValue5
  t9 := Tryz.underlying9
  a9 := Tryz.isAgg9
  z9 := Tryz.sizeOf9
  v9 := Tryz.zeroValue9
  t26 := Tryz.underlying33
  a26 := Tryz.isAgg33
  z26 := Tryz.sizeOf33
  v26 := Tryz.zeroValue33
  t27 := Tryz.underlying33
  a27 := Tryz.isAgg33
  z27 := Tryz.sizeOf33
  v27 := Tryz.zeroValue33
  t29 := Tryz.underlying9
  a29 := Tryz.isAgg9
  z29 := Tryz.sizeOf9
  v29 := Tryz.zeroValue9
  t32 := Tryz.underlying130
  a32 := Tryz.isAgg130
  z32 := Tryz.sizeOf130
  v32 := Tryz.zeroValue130
  t35 := Tryz.underlying138
  a35 := Tryz.isAgg138
  z35 := Tryz.sizeOf138
  v35 := Tryz.zeroValue138
  t36 := Tryz.underlying139
  a36 := Tryz.isAgg139
  z36 := Tryz.sizeOf139
  v36 := Tryz.zeroValue139
  t41 := Tryz.underlying63
  a41 := Tryz.isAgg63
  z41 := Tryz.sizeOf63
  v41 := Tryz.zeroValue63
  t44 := Tryz.underlying88
  a44 := Tryz.isAgg88
  z44 := Tryz.sizeOf88
  v44 := Tryz.zeroValue88
  t46 := Tryz.underlying146
  a46 := Tryz.isAgg146
  z46 := Tryz.sizeOf146
  v46 := Tryz.zeroValue146
  t53 := Tryz.underlying149
  a53 := Tryz.isAgg149
  z53 := Tryz.sizeOf149
  v53 := Tryz.zeroValue149
  t57 := Tryz.underlying153
  a57 := Tryz.isAgg153
  z57 := Tryz.sizeOf153
  v57 := Tryz.zeroValue153
  t63 := Tryz.underlying161
  a63 := Tryz.isAgg161
  z63 := Tryz.sizeOf161
  v63 := Tryz.zeroValue161
  t64 := Tryz.underlying162
  a64 := Tryz.isAgg162
  z64 := Tryz.sizeOf162
  v64 := Tryz.zeroValue162 }
open Go.RowKit Go.Maps Go.Sort in
/-- slices.Sort's two contracts at this dump, at the fence that asks nothing. -/
theorem Tryz.sorts27 (m : Nat) : AnyZ.SortsIn Tryz.prog Tryz.sorted27_ren Fence.wide m :=
  ⟨fun blk off cap ss W hH hblk hsz => callsIn_wide.2 (AnyM.slices_Sort_string Tryz.sort56 blk off cap ss W hH hblk hsz),
   fun p cap W => callsIn_wide.2 (AnyM.slices_Sort_string_none Tryz.sort56 p cap W)⟩
open Go.RowKit Go.Maps Go.Sort in
/-- **maps.Keys[map[string]int,string,int], at whatever map, the nil one too:** a function value over ONE NEW BLOCK, which holds the map. -/
theorem Tryz.maps_Keys_28 (mb : Option Nat) (W : World) : CallsIn Fence.wide 5 Tryz.prog 28 #[.map mb] W fun e w' => e = .returned (.func (.func 57) #[] #[.pointer (some ⟨W.heap.size, 0, none⟩)]) ∧ w' = W.alloc (.cells #[.map mb] 47) :=
  AnyZ.keys_in Tryz.keys28 Fence.wide 5 trivial rfl mb W
open Go.RowKit Go.Maps Go.Sort in
/-- **slices.Sorted[string] AT WHAT maps.Keys[map[string]int,string,int] HANDED BACK FOR A MAP THAT IS NOT nil** ('w': the world AHEAD of maps.Keys' call): A NEW SLICE THAT HOLDS THE MAP's KEYS, SORTED; nil just where it has none; nothing that lay before has turned. -/
theorem Tryz.slices_Sorted_keys_27_28 {H : Type} (b nn : Nat) (D0 : DataW H) (R : Value → Option (DataW H × List MemPlace)) (w : World) (hown : w.ownsMap Tryz.prog 9 R b nn D0) (hmax : Maps.size D0 ≤ maxLen) (hbytes : Maps.size D0 * 16 ≤ 140737488355328) :
    CallsIn Fence.wide 5 Tryz.prog 27 #[.func (.func 57) #[] #[.pointer (some ⟨w.heap.size, 0, none⟩)]] (w.alloc (.cells #[.map (some b)] 47)) fun e w' => ∃ (v : Value) (ss : List (List UInt8)), e = .returned v ∧ ss.Perm (strKeys D0) ∧
      w'.ownsRow (w.alloc (.cells #[.map (some b)] 47)).heap.size 9 1 v ss.length ((ss.mergeSort (fun x y => decide (x ≤ y))).map encStr) ∧ (v = .slice none 0 0 ↔ ss = []) ∧ Below (w.alloc (.cells #[.map (some b)] 47)).heap.size (w.alloc (.cells #[.map (some b)] 47)) w' := by
  have hbl := hown.lt
  have hseq : SeqGives Fence.wide 2 Tryz.prog 57 #[.pointer (some ⟨w.heap.size, 0, none⟩)] encStr (fun ss => ss.Perm (strKeys D0)) (Maps.size D0) (w.alloc (.cells #[.map (some b)] 47)) :=
    AnyZ.keys_gives (ρ := Tryz.keys28_ren) { Tryz.keys28 with } Fence.wide _ trivial rfl (by omega) w.heap.size b nn D0 _ (by simp) (by simp) (by
      obtain ⟨es, clock, hb, Ft, hs, hD⟩ := hown
      exact ⟨es, clock, (Below.heap_alloc _ _ b hbl).trans hb, Ft, hs, hD⟩)
  exact AnyZ.sorted_in Tryz.sorted27 Fence.wide 5 trivial trivial trivial trivial rfl (by omega) (Tryz.sorts27 _) (enters_of Tryz.func56 (by kernel_rfl) rfl) 57 #[.pointer (some ⟨w.heap.size, 0, none⟩)] trivial (enters_of Tryz.func57 (by kernel_rfl) rfl) _ _ hmax hbytes _ hseq
open Go.RowKit Go.Maps Go.Sort in
/-- **.. AND FOR THE nil MAP: nil.** -/
theorem Tryz.slices_Sorted_keys_nil_27_28 (w : World) :
    CallsIn Fence.wide 5 Tryz.prog 27 #[.func (.func 57) #[] #[.pointer (some ⟨w.heap.size, 0, none⟩)]] (w.alloc (.cells #[.map none] 47)) fun e w' => ∃ (v : Value) (ss : List (List UInt8)), e = .returned v ∧ ss = [] ∧
      w'.ownsRow (w.alloc (.cells #[.map none] 47)).heap.size 9 1 v ss.length ((ss.mergeSort (fun x y => decide (x ≤ y))).map encStr) ∧ (v = .slice none 0 0 ↔ ss = []) ∧ Below (w.alloc (.cells #[.map none] 47)).heap.size (w.alloc (.cells #[.map none] 47)) w' := by
  have hseq : SeqGives Fence.wide 2 Tryz.prog 57 #[.pointer (some ⟨w.heap.size, 0, none⟩)] encStr (fun ss : List (List UInt8) => ss = []) 0 (w.alloc (.cells #[.map none] 47)) :=
    AnyZ.keys_gives_nil (ρ := Tryz.keys28_ren) { Tryz.keys28 with } Fence.wide _ trivial rfl w.heap.size _ (by simp) (by simp)
  exact AnyZ.sorted_in Tryz.sorted27 Fence.wide 5 trivial trivial trivial trivial rfl (by omega) (Tryz.sorts27 _) (enters_of Tryz.func56 (by kernel_rfl) rfl) 57 #[.pointer (some ⟨w.heap.size, 0, none⟩)] trivial (enters_of Tryz.func57 (by kernel_rfl) rfl) _ 0 (Nat.zero_le _) (by omega) _ hseq
end Go.Proofs
