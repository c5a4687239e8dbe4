/- levels.New, its first part: the names are copied, the two rows of sets made. -/
import Derived.Test.YtckpffkofeoinaaDoorRight
import Derived.Test.YtckpffkofeoinaaDoorCheck
import Derived.Deep.DeepCutAuto
namespace Go.Proofs.YtckpffkofeoinaaDoor
open Go.RowKit

def zerosC (n : Nat) : Array Value := madeCells #[.int .u32 0] n
theorem zerosC_eq (n : Nat) : zerosC n = (u32s (List.replicate n 0)).toArray := by
  apply Array.toList_inj.1
  rw [zerosC, toList_madeCells_one]
  simp [u32s]

theorem info_set : (Tryd.prog.info? 97).map (fun i => (i.zero, i.size, i.bytes)) = some (some (.int .u32 0), 1, 4) := by kernel_rfl

theorem make_sets {n : Nat} (hn : n ≤ 16) (w : World) : (Instr.makeSlice 56 (.int .i64 n) (.int .i64 n)).run Tryd.prog w = .ok (.slice (some ⟨w.heap.size, 0, none⟩) n n) (w.alloc (.cells (zerosC n) 97)) := by
  obtain ⟨i3, hi3, hz30, hz31, hz32⟩ := info_parts info_set
  have h := run_make (P := Tryd.prog) w 56 97 i3 _ Tryd.underlying56 hi3 hz30 .i64 .i64 n n (by omega) (by omega) (by rw [hz32]; omega) (by omega)
  rw [hz31] at h
  simpa [zerosC, Value.cells] using h

theorem at_new {w : World} {o : Obj} {b : Nat} (h : b = w.heap.size) : (w.alloc o).heap[b]? = some o := by subst h; exact heap_alloc_new w o
theorem at_alloc {w : World} {o x : Obj} {b : Nat} (h : w.heap[b]? = some x) : (w.alloc o).heap[b]? = some x := (heap_alloc_old w o (lt_of_block h)).trans h
theorem at_below {w w' : World} {x : Obj} {b : Nat} (hb : Below w.heap.size w w') (h : w.heap[b]? = some x) : w'.heap[b]? = some x := by rw [hb.block b (lt_of_block h)]; exact h

/-- Behind the literal: the lattice's own block, and its rows. -/
def NewStart (w wx : World) (names : List ByteArray) (s8 : Value) : Prop :=
  ∃ p gu gd vn, s8 = .pointer (some ⟨p, 0, none⟩) ∧ w.heap.size ≤ p ∧ w.heap.size ≤ gu ∧ w.heap.size ≤ gd ∧ gu ≠ gd ∧
    wx.heap[p]? = some (.cells #[vn, .slice (some ⟨gu, 0, none⟩) names.length names.length, .slice (some ⟨gd, 0, none⟩) names.length names.length, .int .u32 0, .int .i32 0, .int .u32 0, nilS, nilS] 71 (0, 0)) ∧
    wx.heap[gu]? = some (.cells (zerosC names.length) 97 (0, 0)) ∧ wx.heap[gd]? = some (.cells (zerosC names.length) 97 (0, 0)) ∧
    wx.ownsRow w.heap.size 9 1 vn names.length (names.map Value.string) ∧ Below w.heap.size w wx

theorem NewStart.mk {w wx : World} {names : List ByteArray} {p gu gd : Nat} {vn : Value}
    (hp : wx.heap[p]? = some (.cells #[vn, .slice (some ⟨gu, 0, none⟩) names.length names.length, .slice (some ⟨gd, 0, none⟩) names.length names.length, .int .u32 0, .int .i32 0, .int .u32 0, nilS, nilS] 71 (0, 0)))
    (h1 : w.heap.size ≤ p) (h2 : w.heap.size ≤ gu) (h3 : w.heap.size ≤ gd) (h4 : gu ≠ gd)
    (h5 : wx.heap[gu]? = some (.cells (zerosC names.length) 97 (0, 0))) (h6 : wx.heap[gd]? = some (.cells (zerosC names.length) 97 (0, 0)))
    (h7 : wx.ownsRow w.heap.size 9 1 vn names.length (names.map Value.string)) (h8 : Below w.heap.size w wx) : NewStart w wx names (.pointer (some ⟨p, 0, none⟩)) :=
  ⟨p, gu, gd, vn, rfl, h1, h2, h3, h4, hp, h5, h6, h7, h8⟩

end Go.Proofs.YtckpffkofeoinaaDoor
