/- The document's Words: those of a line. -/
import Derived.Test.YtckpffkofeoinaaGreatDoorWds
import Derived.Test.YtckpffkofeoinaaGreatDoorLow
import Derived.Deep.AppendLies
namespace Go.Proofs.YtckpffkofeoinaaGreatDoor
open Go.RowKit Go.Maps

/-- Behind k bytes: a word may have begun at a; those of 'done' are whole. -/
structure WInv (l : ByteArray) (k a : Nat) (done : List ByteArray) : Prop where
  le : a ≤ k
  rest : wordsF l = done ++ (wordsGo (Lib.pieceU l.data.toList a k) (l.data.toList.drop k)).map mkB

theorem WInv.init (l : ByteArray) : WInv l 0 0 [] := ⟨Nat.le_refl _, by rw [wordsF_eq]; rfl⟩

theorem piece_mk (l : ByteArray) (a k : Nat) : mkB (Lib.pieceU l.data.toList a k) = l.extract a k := by
  rw [← piece_data, mkB_data]

theorem drop_get {l : ByteArray} {k : Nat} (h : k < l.size) : l.data.toList.drop k = l[k] :: l.data.toList.drop (k + 1) := by
  have h' : k < l.data.toList.length := by simpa using h
  rw [List.drop_eq_getElem_cons h']; rfl

theorem WInv.step {l : ByteArray} {k a : Nat} {done : List ByteArray} (h : WInv l k a done) (hk : k < l.size) (h1 : l[k] ≠ 35) (h2 : blankC l[k] = false) : WInv l (k + 1) a done := by
  refine ⟨by have := h.le; omega, ?_⟩
  rw [h.rest, drop_get hk]
  conv => lhs; unfold wordsGo
  rw [if_neg h1, h2, if_neg (by simp)]
  have := Lib.pieceU_grow l.data.toList a k 1 h.le
  rw [drop_get hk, List.take_succ_cons, List.take_zero] at this
  rw [this]

theorem piece_empty (l : List UInt8) (k : Nat) : Lib.pieceU l k k = [] := by unfold Lib.pieceU; simp
theorem piece_some {l : ByteArray} {a k : Nat} (h : a < k) (hk : k ≤ l.size) : Lib.pieceU l.data.toList a k ≠ [] := Lib.pieceU_ne _ _ _ h (by simpa using hk)

theorem WInv.blank0 {l : ByteArray} {k : Nat} {done : List ByteArray} (h : WInv l k k done) (hk : k < l.size) (h1 : l[k] ≠ 35) (h2 : blankC l[k] = true) : WInv l (k + 1) (k + 1) done := by
  refine ⟨Nat.le_refl _, ?_⟩
  rw [h.rest, drop_get hk, piece_empty, piece_empty]
  conv => lhs; unfold wordsGo
  rw [if_neg h1, if_pos h2, if_pos rfl]
theorem WInv.blank1 {l : ByteArray} {k a : Nat} {done : List ByteArray} (h : WInv l k a done) (ha : a < k) (hk : k < l.size) (h1 : l[k] ≠ 35) (h2 : blankC l[k] = true) : WInv l (k + 1) (k + 1) (done ++ [l.extract a k]) := by
  refine ⟨Nat.le_refl _, ?_⟩
  rw [h.rest, drop_get hk, piece_empty]
  conv => lhs; unfold wordsGo
  rw [if_neg h1, if_pos h2, if_neg (piece_some ha (by omega)), List.map_cons, piece_mk]
  simp
theorem WInv.hash0 {l : ByteArray} {k : Nat} {done : List ByteArray} (h : WInv l k k done) (hk : k < l.size) (h1 : l[k] = 35) : wordsF l = done := by
  rw [h.rest, drop_get hk, piece_empty]
  unfold wordsGo
  rw [if_pos h1, if_pos rfl]; simp
theorem WInv.hash1 {l : ByteArray} {k a : Nat} {done : List ByteArray} (h : WInv l k a done) (ha : a < k) (hk : k < l.size) (h1 : l[k] = 35) : wordsF l = done ++ [l.extract a k] := by
  rw [h.rest, drop_get hk]
  unfold wordsGo
  rw [if_pos h1, if_neg (piece_some ha (by omega)), List.map_cons, piece_mk]; rfl
theorem WInv.end0 {l : ByteArray} {done : List ByteArray} (h : WInv l l.size l.size done) : wordsF l = done := by
  rw [h.rest, piece_empty, List.drop_of_length_le (by simp)]
  unfold wordsGo; simp
theorem WInv.end1 {l : ByteArray} {a : Nat} {done : List ByteArray} (h : WInv l l.size a done) (ha : a < l.size) : wordsF l = done ++ [l.extract a l.size] := by
  rw [h.rest, List.drop_of_length_le (by simp)]
  unfold wordsGo
  rw [if_neg (piece_some ha (Nat.le_refl _)), List.map_cons, piece_mk]; rfl

theorem WInv.len {l : ByteArray} {k a : Nat} {done : List ByteArray} (h : WInv l k a done) : done.length ≤ (wordsF l).length := by
  rw [h.rest]; simp

theorem words_len (l : ByteArray) : (wordsF l).length ≤ l.size + 1 := by
  have key : ∀ (l cur : List UInt8), (wordsGo cur l).length ≤ l.length + 1 := by
    intro l
    induction l with
    | nil => intro cur; unfold wordsGo; split <;> simp
    | cons c l ih =>
      intro cur
      unfold wordsGo
      split
      · split <;> simp
      · split
        · split
          · have := ih []; simp; omega
          · have := ih []; simp; omega
        · have := ih (cur ++ [c]); simp; omega
  rw [wordsF_eq, List.length_map]
  have := key l.data.toList []
  have e : l.data.toList.length = l.size := by simp
  rw [e] at this
  exact this

theorem info_strZ : (Tryz.prog.info? 9).map (fun i => (i.zero, i.size, i.bytes)) = some (some (.string ⟨#[]⟩), 1, 16) := by kernel_rfl

/-- What Words has of a text while it goes on. -/
structure WSt (l : ByteArray) (w : World) (k a : Nat) (done : List ByteArray) (v : Value) (wr : World) : Prop where
  inv : WInv l k a done
  own : wr.ownsRow w.heap.size 9 1 v done.length (done.map Value.string)
  bel : Below w.heap.size w wr

theorem chr_tests (c : UInt8) : (((c.toNat : Int) != 32) = (c != 32)) ∧ (((c.toNat : Int) != 9) = (c != 9)) ∧ (((c.toNat : Int) != 35) = (c != 35)) ∧ (((c.toNat : Int) == 35) = (c == 35)) := by
  have key : ∀ n : UInt8, ((c.toNat : Int) == (n.toNat : Int)) = (c == n) := fun n => by
    rw [Bool.eq_iff_iff, beq_iff_eq, beq_iff_eq]
    exact ⟨fun h => UInt8.toNat_inj.1 (by omega), fun h => by rw [h]⟩
  refine ⟨?_, ?_, ?_, key 35⟩
  · have := key 32; simp only [bne]; rw [show ((32 : UInt8).toNat : Int) = 32 from rfl] at this; rw [this]
  · have := key 9; simp only [bne]; rw [show ((9 : UInt8).toNat : Int) = 9 from rfl] at this; rw [this]
  · have := key 35; simp only [bne]; rw [show ((35 : UInt8).toNat : Int) = 35 from rfl] at this; rw [this]
end Go.Proofs.YtckpffkofeoinaaGreatDoor
